/- YtldfafaiappibaaEventCountsC: a part of the proof; no conditions of its own. -/
import Derived.KernelRfl
import Derived.Test.YtldfafaiappibaaEventCountsB
set_option linter.unusedVariables false
set_option linter.unusedSimpArgs false

/- Steps: which clash; who wakes; who may be first. -/
namespace Jq
open Go

structure Stp where
  pick : Int
  t : Int
  kind : Int
  loc : Int
  r : Int
  w : Int
  frm : Int

def Stp.cs (s : Stp) : List Cell := [.int .i64 s.pick, .int .i64 s.t, .int .i64 s.kind, .int .i64 s.loc, .int .i64 s.r, .int .i64 s.w, .int .i64 s.frm]
def shStep : Sh := .agg (Sh.rep (.i .i64) 7)
def stepsC (l : List Stp) : List Cell := l.flatMap Stp.cs

theorem stp_len (s : Stp) : s.cs.length = 7 := rfl
theorem stp_pick {α : Type} {s : Stp} {f : Cell → Option α} : atK s.cs 0 f = f (.int .i64 s.pick) := rfl
theorem stp_t {α : Type} {s : Stp} {f : Cell → Option α} : atK s.cs 1 f = f (.int .i64 s.t) := rfl
theorem stp_kind {α : Type} {s : Stp} {f : Cell → Option α} : atK s.cs 2 f = f (.int .i64 s.kind) := rfl
theorem stp_loc {α : Type} {s : Stp} {f : Cell → Option α} : atK s.cs 3 f = f (.int .i64 s.loc) := rfl
theorem stp_r {α : Type} {s : Stp} {f : Cell → Option α} : atK s.cs 4 f = f (.int .i64 s.r) := rfl
theorem stp_w {α : Type} {s : Stp} {f : Cell → Option α} : atK s.cs 5 f = f (.int .i64 s.w) := rfl
theorem stp_frm {α : Type} {s : Stp} {f : Cell → Option α} : atK s.cs 6 f = f (.int .i64 s.frm) := rfl

theorem stepsC_len : ∀ l : List Stp, (stepsC l).length = l.length * 7
  | [] => rfl
  | s :: l => by simp only [stepsC, List.flatMap_cons, List.length_append]; rw [show (l.flatMap _).length = _ from stepsC_len l, stp_len]; simp; omega

theorem stepsC_at : ∀ (l : List Stp) (i : Nat) (s : Stp), l[i]? = some s → ((stepsC l).drop (i * 7)).take 7 = s.cs
  | [], _, _, h => by simp at h
  | q :: l, 0, s, h => by simp at h; subst h; rfl
  | q :: l, i + 1, s, h => by
    have := stepsC_at l i s (by simpa using h)
    have e : stepsC (q :: l) = q.cs ++ stepsC l := rfl
    rw [e, List.drop_append, List.drop_of_length_le (by rw [stp_len]; omega), List.nil_append, show (i + 1) * 7 - q.cs.length = i * 7 by rw [stp_len]; omega]
    exact this

theorem stepsC_cell {l : List Stp} {i j : Nat} {s : Stp} {c : Cell} (h : l[i]? = some s) (hj : j < 7) (hc : s.cs[j]? = some c) : (stepsC l)[i * 7 + j]? = some c := by
  rw [← hc, ← stepsC_at l i s h, List.getElem?_take, if_pos hj, List.getElem?_drop]

theorem stepsC_snoc (l : List Stp) (s : Stp) : stepsC (l ++ [s]) = stepsC l ++ s.cs := by simp [stepsC]

theorem stp_of {h : AHeap} {c : List Cell} (o : okC h shStep c) : ∃ s : Stp, c = s.cs := by
  obtain ⟨x0, y0, rfl, ⟨a0, rfl, _⟩, x1, y1, rfl, ⟨a1, rfl, _⟩, x2, y2, rfl, ⟨a2, rfl, _⟩, x3, y3, rfl, ⟨a3, rfl, _⟩, x4, y4, rfl, ⟨a4, rfl, _⟩, x5, y5, rfl, ⟨a5, rfl, _⟩, x6, y6, rfl, ⟨a6, rfl, _⟩, h7⟩ := o
  have : y6 = [] := h7
  subst this
  exact ⟨⟨a0, a1, a2, a3, a4, a5, a6⟩, rfl⟩

theorem arg_step {h : AHeap} {c : List Cell} (o : okC h shStep c) : ∃ s : Stp, av1 shStep c = .agg s.cs := by
  obtain ⟨s, rfl⟩ := stp_of o
  exact ⟨s, rfl⟩

theorem okL_steps {h : AHeap} : ∀ (len : Nat) (xs : List Cell), okL (okC h shStep) len xs → ∃ l : List Stp, xs = stepsC l ∧ l.length = len
  | 0, xs, h => ⟨[], h, rfl⟩
  | len + 1, xs, ⟨x, y, h1, hx, hy⟩ => by
    obtain ⟨l, h2, h3⟩ := okL_steps len y hy
    obtain ⟨s, rfl⟩ := stp_of hx
    exact ⟨s :: l, by rw [h1, h2]; rfl, by simp [h3]⟩

theorem arg_steps {h : AHeap} {cs : List Cell} (o : okC h (.sl shStep) cs) : ∃ x l, av1 (.sl shStep) cs = .c x ∧ SlAt h x 7 (stepsC l) l.length ∧ Low h.length x ∧ l.length ≤ maxLen := by
  obtain ⟨x, xs, len, h1, h2, hm, h3, h4⟩ := arg_row o
  obtain ⟨l, rfl, rfl⟩ := okL_steps len xs h2
  exact ⟨x, l, h1, h3, h4, hm⟩

/-- One of a row, wherever it is looked at. -/
theorem SlAt.elG {h : AHeap} {x : Cell} {esz len : Nat} {cs : List Cell} (s : SlAt h x esz cs len) {i : Nat} (hi : i < len) :
    ∃ off cs', (∀ {α : Type} (G : Nat → List Cell → Option α), (idxSK esz x (i : Int) fun k N o => rdH h k N fun l => G o l) = G off cs') ∧ off + esz ≤ cs'.length ∧ (cs'.drop off).take esz = (cs.drop (i * esz)).take esz := by
  rcases s.2 with ⟨_, rfl⟩ | ⟨k, N, off, rfl, h0 | ⟨b, hb, hN, hle, hat⟩⟩
  · omega
  · omega
  · have hlt : i * esz + esz ≤ len * esz := by
      have : (i + 1) * esz ≤ len * esz := Nat.mul_le_mul_right _ hi
      rw [Nat.succ_mul] at this; exact this
    refine ⟨off + i * esz, b.cs, fun G => by rw [idxSK_ok hi, rdH_ok hb hN], by omega, ?_⟩
    refine List.ext_getElem? fun j => ?_
    rw [List.getElem?_take, List.getElem?_take]
    by_cases hj : j < esz
    · rw [if_pos hj, if_pos hj, List.getElem?_drop, List.getElem?_drop, Nat.add_assoc, hat _ (by omega)]
    · rw [if_neg hj, if_neg hj]

theorem SlAt.stepG {h : AHeap} {x : Cell} {l : List Stp} (s : SlAt h x 7 (stepsC l) l.length) {i : Nat} {q : Stp} (hq : l[i]? = some q) :
    ∃ off cs', (∀ {α : Type} (G : Nat → List Cell → Option α), (idxSK 7 x (i : Int) fun k N o => rdH h k N fun l => G o l) = G off cs') ∧ off + 7 ≤ cs'.length ∧ (cs'.drop off).take 7 = q.cs := by
  have hi : i < l.length := by
    rcases Nat.lt_or_ge i l.length with h | h
    · exact h
    · rw [List.getElem?_eq_none h] at hq; cases hq
  obtain ⟨off, cs', h1, h2, h3⟩ := s.elG hi
  exact ⟨off, cs', h1, h2, h3.trans (stepsC_at l i q hq)⟩

/-- One of the steps. -/
theorem SlAt.step {α : Type} {h : AHeap} {x : Cell} {l : List Stp} (s : SlAt h x 7 (stepsC l) l.length) {i : Nat} {q : Stp} (hq : l[i]? = some q) {f : List Cell → Option α} :
    (idxSK 7 x (i : Int) fun k N o => rdH h k N fun l => if o + 7 ≤ l.length then f ((l.drop o).take 7) else none) = f q.cs := by
  have hi : i < l.length := by
    rcases Nat.lt_or_ge i l.length with h | h
    · exact h
    · rw [List.getElem?_eq_none h] at hq; cases hq
  rw [s.getN hi, stepsC_at l i q hq]

theorem SlAt.spick {α : Type} {h : AHeap} {x : Cell} {l : List Stp} (s : SlAt h x 7 (stepsC l) l.length) {i : Nat} {q : Stp} (hq : l[i]? = some q) {f : Cell → Option α} :
    (idxSK 7 x (i : Int) fun k N o => rdH h k N fun l => atK l (o + 0) f) = f (.int .i64 q.pick) := by
  have hi : i < l.length := by
    rcases Nat.lt_or_ge i l.length with h | h
    · exact h
    · rw [List.getElem?_eq_none h] at hq; cases hq
  exact s.get (j := 0) hi (by omega) (stepsC_cell hq (by omega) rfl)

def wrS (s : Stp) (m : Int) : Bool := s.kind == 6 || s.kind == 4 || (m == 1 && s.kind == 2)
def rdS (s : Stp) : Bool := s.kind == 1 || s.kind == 4 || s.kind == 5
def fnS (s : Stp) : Bool := s.kind == 3 || s.kind == 4 || s.kind == 5
def tchS (s : Stp) (m : Int) : Bool := wrS s m || rdS s
/-- Do two steps clash? -/
def clash (a b : Stp) (m : Int) : Bool :=
  if (a.pick == b.pick) = true then true
  else if (a.t == b.t) = true then (a.kind == 6 && fnS b) || (b.kind == 6 && fnS a)
  else tchS a m && tchS b m && a.loc == b.loc && (wrS a m || wrS b m)

theorem clash_comm (a b : Stp) (m : Int) : clash a b m = clash b a m := by
  have ec : ∀ x y : Int, (y == x) = (x == y) := fun x y => by rw [Bool.eq_iff_iff, beq_iff_eq, beq_iff_eq]; exact eq_comm
  unfold clash
  rw [ec a.pick b.pick, ec a.t b.t, ec a.loc b.loc]
  split
  · rfl
  · split
    · exact Bool.or_comm _ _
    · cases tchS a m <;> cases tchS b m <;> cases (a.loc == b.loc) <;> cases wrS a m <;> cases wrS b m <;> rfl

/-- The sleepers that stay asleep. -/
def wakeS (a : Stp) (m : Int) : List Stp → Nat → Nat
  | [], s => s
  | x :: l, s => wakeS a m l (if clash x a m = true then ndiff s (bitI x.pick) else s)

theorem wakeS_lt {a : Stp} {m : Int} : ∀ {l : List Stp} {s : Nat}, s < 2 ^ 64 → wakeS a m l s < 2 ^ 64
  | [], _, h => h
  | x :: l, s, h => by
    rw [wakeS]
    refine wakeS_lt ?_
    split
    · exact ndiff_lt h
    · exact h

theorem wakeS_bit {a : Stp} {m : Int} : ∀ {l : List Stp} {s : Nat} (j : Nat), (wakeS a m l s).testBit j = (s.testBit j && !(l.any fun x => clash x a m && (bitI x.pick).testBit j))
  | [], s, j => by simp [wakeS]
  | x :: l, s, j => by
    rw [wakeS, wakeS_bit j, List.any_cons]
    cases clash x a m with
    | true => rw [if_pos rfl, testBit_ndiff]; cases s.testBit j <;> cases (bitI x.pick).testBit j <;> simp
    | false => rw [if_neg (by simp)]; simp

section
variable {E : Env}

theorem Writes_R (hE : trace_Writes_In E) (s : Stp) (m : Int) (h : AHeap) : R E 257 [.agg s.cs, .c (.int .i64 m)] h = some ([.c (.bool (wrS s m))], h) := by
  refine R_intro hE.fn ?_
  rw [trace_Writes_eq]
  simp only [stp_kind, asI_ok, scK_or, scK_and, scK_ok]
  rfl

theorem Reads_R (hE : trace_Reads_In E) (s : Stp) (h : AHeap) : R E 266 [.agg s.cs] h = some ([.c (.bool (rdS s))], h) := by
  refine R_intro hE.fn ?_
  rw [trace_Reads_eq]
  simp only [stp_kind, asI_ok, scK_or, scK_and, scK_ok]
  rfl

theorem Fences_R (hE : trace_Fences_In E) (s : Stp) (h : AHeap) : R E 265 [.agg s.cs] h = some ([.c (.bool (fnS s))], h) := by
  refine R_intro hE.fn ?_
  rw [trace_Fences_eq]
  simp only [stp_kind, asI_ok, scK_or, scK_and, scK_ok]
  rfl

theorem touches_R (hE : sleep_touches_In E) (s : Stp) (m : Int) (h : AHeap) : R E 401 [.agg s.cs, .c (.int .i64 m)] h = some ([.c (.bool (tchS s m))], h) := by
  refine R_intro hE.fn ?_
  rw [sleep_touches_eq]
  simp only [stp_len, and_self, if_true, Writes_R hE.c257, Reads_R hE.c266, c1_ok, asB_ok, scK_or]
  rfl

theorem Clash_R (hE : sleep_Clash_In E) (a b : Stp) (m : Int) (h : AHeap) : R E 390 [.agg a.cs, .agg b.cs, .c (.int .i64 m)] h = some ([.c (.bool (clash a b m))], h) := by
  refine R_intro hE.fn ?_
  rw [sleep_Clash_eq]
  simp only [stp_len, stp_pick, stp_t, stp_kind, stp_loc, and_self, if_true, Writes_R hE.c257, Fences_R hE.c265, touches_R hE.c401, c1_ok, asI_ok, asB_ok, scK_or, scK_and]
  unfold clash
  split
  · rfl
  · split <;> rfl

theorem refWrites_R (hE : jacquardref16_Writes_In E) (s : Stp) (m : Int) (h : AHeap) : R E 176 [.agg s.cs, .c (.int .i64 m)] h = some ([.c (.bool (wrS s m))], h) := by
  refine R_intro hE.fn ?_
  rw [jacquardref16_Writes_eq]
  simp only [stp_kind, asI_ok, scK_or, scK_and, scK_ok]
  unfold wrS
  rw [Bool.and_comm (m == 1)]

theorem refreads_R (hE : jacquardref16_reads_In E) (s : Stp) (h : AHeap) : R E 412 [.agg s.cs] h = some ([.c (.bool (rdS s))], h) := by
  refine R_intro hE.fn ?_
  rw [jacquardref16_reads_eq]
  simp only [stp_kind, asI_ok, scK_or, scK_and, scK_ok]
  rfl

theorem refown_R (hE : jacquardref16_own_In E) (a b : Stp) (h : AHeap) : R E 411 [.agg a.cs, .agg b.cs] h = some ([.c (.bool (a.kind == 6 && fnS b))], h) := by
  refine R_intro hE.fn ?_
  rw [jacquardref16_own_eq]
  simp only [stp_kind, asI_ok, scK_or, scK_and, scK_ok]
  rfl

theorem refClash_R (hE : jacquardref16_Clash_In E) (a b : Stp) (m : Int) (h : AHeap) : R E 409 [.agg a.cs, .agg b.cs, .c (.int .i64 m)] h = some ([.c (.bool (clash a b m))], h) := by
  refine R_intro hE.fn ?_
  rw [jacquardref16_Clash_eq]
  simp only [stp_len, stp_pick, stp_t, stp_loc, and_self, if_true, refWrites_R hE.c176, refreads_R hE.c412, refown_R hE.c411, qh_ok, c1_ok, asI_ok, asB_ok, scK_or, scK_and]
  unfold clash
  split
  · rfl
  · split <;> rfl

theorem Covers_R (hE : sleep_Covers_In E) {a b : Nat} (ha : a < 2 ^ 64) (hb : b < 2 ^ 64) (h : AHeap) : R E 368 [.c (.int .u64 (a : Int)), .c (.int .u64 (b : Int))] h = some ([.c (.bool (b == 0 || (a &&& b) != 0))], h) := by
  refine R_intro hE.fn ?_
  rw [sleep_Covers_eq, g_band ha hb, scK_or, show ((b : Int) == 0) = (b == 0) by rw [Bool.eq_iff_iff]; simp, show (((a &&& b : Nat) : Int) != 0) = ((a &&& b) != 0) by rw [Bool.eq_iff_iff]; simp]

theorem Wake_R (hE : sleep_Wake_In E) {s : Nat} (hs : s < 2 ^ 64) {x : Cell} {l : List Stp} {h : AHeap} (hx : SlAt h x 7 (stepsC l) l.length) (hl : l.length < 9223372036854775807) (a : Stp) (m : Int) :
    R E 406 [.c (.int .u64 (s : Int)), .c x, .agg a.cs, .c (.int .i64 m)] h = some ([.c (.int .u64 ((wakeS a m l s : Nat) : Int))], h) := by
  refine R_intro hE.fn ?_
  have loop : ∀ (t : List Stp) (i s : Nat), l.drop i = t → s < 2 ^ 64 → Lim (sleep_Wake_F1 (R E) Lim E.glob) (sleep_Wake_s1 s m x l.length (i : Int) a.cs h) = some (.exit 0, sleep_Wake_x1_1 (wakeS a m t s : Nat) h) := by
    intro t
    induction t with
    | nil =>
      intro i s hd hs
      have : l.length ≤ i := by
        have := congrArg List.length hd
        simp at this; omega
      refine Lim_exit ?_
      rw [sleep_Wake_r1, if_neg (by simp; omega)]; rfl
    | cons q t ih =>
      intro i s hd hs
      have hi : i < l.length := by
        have := congrArg List.length hd
        simp at this; omega
      have hq : l[i]? = some q := by
        have := congrArg (fun z => z[0]?) hd
        simpa [List.getElem?_drop] using this
      have hd2 : l.drop (i + 1) = t := by
        have := congrArg (List.drop 1) hd
        simpa [List.drop_drop] using this
      rw [wakeS]
      have hnx : (if clash q a m = true then ndiff s (bitI q.pick) else s) < 2 ^ 64 := by
        split
        · exact ndiff_lt hs
        · exact hs
      refine Lim_next ?_ (ih (i + 1) _ hd2 hnx)
      rw [sleep_Wake_r1, if_pos (by simp; omega)]
      obtain ⟨off, cs', hG, hle, hcs⟩ := hx.stepG hq
      rw [hG, if_pos hle, hcs]
      rw [if_pos ⟨rfl, rfl, rfl⟩, if_pos ⟨rfl, rfl⟩, if_pos ⟨rfl, rfl⟩, Clash_R hE.c390, c1_ok, asB_ok, g_succ (by omega)]
      by_cases hc : clash q a m = true
      · rw [if_pos hc, if_pos hc, stp_pick, asI_ok, Without_R hE.c63 hs, c1_ok, asI_ok]
      · rw [if_neg hc, if_neg hc]
  have l0 := loop l 0 s rfl hs
  rw [show ((0 : Nat) : Int) = 0 from rfl] at l0
  rw [sleep_Wake_eq, hx.len, l0, bind_ok, sleep_Wake_e1_1]

/-- May the one at a place be first, of those from a place on? -/
def frI (f : Nat → Nat) (a k : Nat) : Nat → Bool
  | 0 => true
  | i + 1 => frI f a k i && !(decide (a ≤ i) && (f i).testBit k)

/-- Who may be first, of the first so many. -/
def iniS (f : Nat → Nat) (l : List Int) (a : Nat) : Nat → Nat
  | 0 => 0
  | k + 1 => if (decide (a ≤ k) && frI f a k l.length) = true then iniS f l a k ||| bitI (l.getD k 0) else iniS f l a k

theorem iniS_lt (f : Nat → Nat) (l : List Int) (a : Nat) : ∀ k, iniS f l a k < 2 ^ 64
  | 0 => by rw [iniS]; omega
  | k + 1 => by
    rw [iniS]
    split
    · exact or_lt (iniS_lt f l a k) (bitI_lt _)
    · exact iniS_lt f l a k

theorem iniS_zero (f : Nat → Nat) (l : List Int) {a : Nat} : ∀ {k : Nat}, k ≤ a → iniS f l a k = 0
  | 0, _ => rfl
  | k + 1, h => by
    rw [iniS, show decide (a ≤ k) = false by simp; omega, Bool.false_and, if_neg (by simp)]
    exact iniS_zero f l (by omega)

theorem frI_true (f : Nat → Nat) (k : Nat) {a : Nat} : ∀ {i : Nat}, i ≤ a → frI f a k i = true
  | 0, _ => rfl
  | i + 1, h => by
    rw [frI, show decide (a ≤ i) = false by simp; omega, frI_true f k (by omega)]; rfl

theorem getD_int {l : List Int} {i : Nat} (hi : i < l.length) : l[i]? = some (l.getD i 0) := by
  rw [List.getD_eq_getElem?_getD, List.getElem?_eq_getElem hi]; rfl

/-- A walk over numbers that begins at a. -/
theorem Lim_from {F : St → Option (Ex × St)} (g : Nat → St) (a n : Nat) (hs : ∀ i, a ≤ i → i < n → F (g i) = some (.normal, g (i + 1))) {p} (hp : ∀ i, n ≤ i → (a ≤ i) → (i = a ∨ i = n) → Lim F (g i) = some p) : Lim F (g a) = some p := by
  by_cases h : a ≤ n
  · exact Lim_count g a n h hs (hp n (Nat.le_refl _) h (.inr rfl))
  · exact hp a (by omega) (Nat.le_refl _) (.inl rfl)

theorem Initials_R (hE : sleep_Initials_In E) {n : Nat} (hn : n ≤ 64) {f : Nat → Nat} (hf : Words f) {x : Cell} {l : List Int} {h : AHeap} (hx : SlAt h x 1 (intC .i64 l) l.length) (hl : l.length ≤ n) {a0 : Int} (a : Nat) (ha : (if 0 > a0 then 0 else a0) = (a : Int)) :
    R E 408 [.agg (relL n f), .c x, .c (.int .i64 a0)] h = some ([.c (.int .u64 ((iniS f l a l.length : Nat) : Int))], h) := by
  refine R_intro hE.fn ?_
  have inner : ∀ (s k : Nat), k < l.length → Lim (sleep_Initials_F1 (R E) Lim E.glob) (sleep_Initials_s1 x a s k true (a : Int) (relL n f) h) = some (.exit 2, sleep_Initials_x1_3 x a s k (frI f a k l.length) (relL n f) h) := by
    intro s k hk
    rw [show sleep_Initials_s1 x a s k true (a : Int) (relL n f) h = (fun i : Nat => sleep_Initials_s1 x a s k (frI f a k i) (i : Int) (relL n f) h) a by dsimp only; rw [frI_true f k (Nat.le_refl a)]]
    refine Lim_from (fun i : Nat => sleep_Initials_s1 x a s k (frI f a k i) (i : Int) (relL n f) h) a l.length (fun i hi1 hi2 => ?_) (fun i hi1 hi2 hi3 => Lim_exit ?_)
    · rw [sleep_Initials_r1, hx.len, if_pos (by simp; omega), frI]
      cases frI f a k i with
      | false => rw [scK_ft, Bool.false_and, g_succ (by omega)]
      | true =>
        have hr : hasR n f (i : Int) (k : Int) = (f i).testBit k := by
          unfold hasR
          rw [inR_nat, hasI_nat (by omega), Int.toNat_natCast]
          simp; omega
        rw [scK_ok, if_pos ⟨rfl, relL_len _ _⟩, HasR_R hE.c3 hn hf, c1_ok, asB_ok, hr, bind_ok]
        dsimp only
        rw [g_succ (by omega), show decide (a ≤ i) = true by simpa using hi1, Bool.true_and, Bool.true_and]
    · rw [sleep_Initials_r1, hx.len, if_neg (by simp; omega)]
      have : frI f a k i = frI f a k l.length := by
        rcases hi3 with e | e
        · rw [frI_true f k (by omega), frI_true f k (by omega)]
        · rw [e]
      rw [this]
  have outer : Lim (sleep_Initials_F2 (R E) Lim E.glob) (sleep_Initials_s2 x a 0 (a : Int) (relL n f) h) = some (.exit 0, sleep_Initials_x2_1 (iniS f l a l.length : Nat) h) := by
    rw [show sleep_Initials_s2 x a 0 (a : Int) (relL n f) h = (fun k : Nat => sleep_Initials_s2 x a (iniS f l a k : Nat) (k : Int) (relL n f) h) a by dsimp only; rw [iniS_zero f l (Nat.le_refl a)]; rfl]
    refine Lim_from (fun k : Nat => sleep_Initials_s2 x a (iniS f l a k : Nat) (k : Int) (relL n f) h) a l.length (fun k hk1 hk2 => ?_) (fun k hk1 hk2 hk3 => Lim_exit ?_)
    · rw [sleep_Initials_r2, hx.len, if_pos (by simp; omega), inner _ k hk2, bind_ok, sleep_Initials_e1_3, iniS, show decide (a ≤ k) = true by simpa using hk1, Bool.true_and]
      split
      · rw [hx.get1 hk2 (intC_get (getD_int hk2)), asI_ok, With_R hE.c18 (iniS_lt f l a k), c1_ok, asI_ok, g_succ (by omega)]
      · rw [g_succ (by omega)]
    · rw [sleep_Initials_r2, hx.len, if_neg (by simp; omega)]
      have : iniS f l a k = iniS f l a l.length := by
        rcases hk3 with e | e
        · rw [iniS_zero f l (by omega), iniS_zero f l (by omega)]
        · rw [e]
      rw [this]
  rw [sleep_Initials_eq, ha, outer, bind_ok, sleep_Initials_e2_1]

end
end Jq

namespace Jq
open Go

/- jacquard/prog.Start: 94 -/
set_option maxRecDepth 100000 in
theorem prog_Start_eq (C : CallF) (L : LoopF) (G : Glo) (l0 : List Cell) (a1 : Int) (h0 : AHeap) :
    prog_Start.body C L G [(.agg l0), (.c (.int .i64 a1))] h0 =
    if 0 = 0 ∧ l0.length = 3 then c1 (C 113 [(.agg l0), (.c (.int .i64 a1))] h0) fun y_2 h_1 => asC y_2 fun x_3 => c1 (C 114 [(.c x_3), (.agg [Cell.int .i64 0, Cell.int .i64 0, Cell.int .i64 0, Cell.int .i64 0, Cell.int .i64 0])] h_1) fun y_5 h_4 => asA y_5 fun l_6 => if 0 = 0 ∧ [Cell.int .i64 0, Cell.int .i64 0, Cell.int .i64 0, Cell.int .i64 0, Cell.int .i64 0].length = 5 ∧ l_6.length = 5 then if 0 = 0 ∧ l_6.length = 5 then some ([(.agg l_6)], h_4) else none else none else none := by kernel_rfl

/- jacquard/prog.Next: 105 -/
set_option maxRecDepth 100000 in
theorem prog_Next_eq (C : CallF) (L : LoopF) (G : Glo) (l0 : List Cell) (a1 : Int) (l2 : List Cell) (h0 : AHeap) :
    prog_Next.body C L G [(.agg l0), (.c (.int .i64 a1)), (.agg l2)] h0 =
    if 0 = 0 ∧ l0.length = 3 then c1 (C 113 [(.agg l0), (.c (.int .i64 a1))] h0) fun y_2 h_1 => asC y_2 fun x_3 => atK l2 0 fun q_4 => asI .i64 (.c q_4) fun n_5 => scK (decide (n_5 < 0)) false (atK l2 0 fun q_6 => asI .i64 (.c q_6) fun n_7 => lenK x_3 fun n_8 => some ((decide (n_7 ≥ n_8)), h_1)) true h_1 fun b_9 h_10 => if b_9 = true then if 0 = 0 ∧ (List.replicate 9 (Cell.int .i64 0)).length = 9 ∧ (List.replicate 9 (Cell.int .i64 0)).length = 9 then if 0 = 0 ∧ (List.replicate 9 (Cell.int .i64 0)).length = 9 then some ([(.agg (List.replicate 9 (Cell.int .i64 0))), (.c (.bool false))], h_10) else none else none else atK l2 0 fun q_11 => asI .i64 (.c q_11) fun n_12 => idxSK 9 x_3 n_12 fun k_13 N_14 o_15 => rdH h_10 k_13 N_14 fun l_16 => if o_15 + 9 ≤ l_16.length then if 0 = 0 ∧ (List.replicate 9 (Cell.int .i64 0)).length = 9 ∧ ((l_16.drop o_15).take 9).length = 9 then atK ((l_16.drop o_15).take 9) 0 fun q_17 => asI .i64 (.c q_17) fun n_18 => scK (decide (n_18 < 1)) false (atK ((l_16.drop o_15).take 9) 0 fun q_19 => asI .i64 (.c q_19) fun n_20 => some ((decide (n_20 > 4)), h_10)) true h_10 fun b_21 h_22 => if b_21 = true then if 0 = 0 ∧ (List.replicate 9 (Cell.int .i64 0)).length = 9 ∧ (List.replicate 9 (Cell.int .i64 0)).length = 9 then if 0 = 0 ∧ (List.replicate 9 (Cell.int .i64 0)).length = 9 then some ([(.agg (List.replicate 9 (Cell.int .i64 0))), (.c (.bool false))], h_22) else none else none else if 0 = 0 ∧ ((l_16.drop o_15).take 9).length = 9 then if 0 = 0 ∧ (List.replicate 9 (Cell.int .i64 0)).length = 9 ∧ ((l_16.drop o_15).take 9).length = 9 then if 0 = 0 ∧ ((l_16.drop o_15).take 9).length = 9 then some ([(.agg ((l_16.drop o_15).take 9)), (.c (.bool true))], h_22) else none else none else none else none else none else none := by kernel_rfl

/- jacquard/prog.After: 106 -/
set_option maxRecDepth 100000 in
theorem prog_After_eq (C : CallF) (L : LoopF) (G : Glo) (l0 : List Cell) (a1 : Int) (l2 : List Cell) (a3 : Int) (h0 : AHeap) :
    prog_After.body C L G [(.agg l0), (.c (.int .i64 a1)), (.agg l2), (.c (.int .i64 a3))] h0 =
    if 0 = 0 ∧ l0.length = 3 then rdH (h0 ++ [some (Blk.mk true 0 (AV.cells (.agg l2)))]) h0.length ((AV.cells (.agg l2)).length) fun l_1 => if 0 = 0 ∧ l_1.length = 5 then c2 (C 105 [(.agg l0), (.c (.int .i64 a1)), (.agg l_1)] (h0 ++ [some (Blk.mk true 0 (AV.cells (.agg l2)))])) fun y_3 y_4 h_2 => asA y_3 fun l_5 => asB y_4 fun b_6 => if 0 = 0 ∧ (List.replicate 9 (Cell.int .i64 0)).length = 9 ∧ l_5.length = 9 then if (!b_6) = true then rdH h_2 h0.length ((AV.cells (.agg l2)).length) fun l_7 => if 0 = 0 ∧ l_7.length = 5 then if 0 = 0 ∧ [Cell.int .i64 0, Cell.int .i64 0, Cell.int .i64 0, Cell.int .i64 0, Cell.int .i64 0].length = 5 ∧ l_7.length = 5 then if 0 = 0 ∧ l_7.length = 5 then finish true h0 [(.agg l_7)] h_2 else none else none else none else atK l_5 0 fun q_8 => asI .i64 (.c q_8) fun n_9 => scK (n_9 == 2) false (atK l_5 0 fun q_10 => asI .i64 (.c q_10) fun n_11 => some ((n_11 == 4), h_2)) true h_2 fun b_12 h_13 => if b_12 = true then atK l_5 1 fun q_14 => asI .i64 (.c q_14) fun n_15 => c0 (C 124 [(.c (.ptr h0.length ((AV.cells (.agg l2)).length) 0)), (.c (.int .i64 n_15)), (.c (.int .i64 a3))] h_13) fun h_16 => rdH h_16 h0.length ((AV.cells (.agg l2)).length) fun l_17 => atK l_17 0 fun q_18 => asI .i64 (.c q_18) fun n_19 => rdH h_16 h0.length ((AV.cells (.agg l2)).length) fun l_20 => if 0 < l_20.length then putH h_16 h0.length (l_20.set 0 (.int .i64 (G.wrap .i64 (n_19 + 1)))) fun h_21 => if 0 = 0 ∧ l0.length = 3 then c1 (qh h_21 (C 113 [(.agg l0), (.c (.int .i64 a1))] h_21)) fun y_23 h_22 => asC y_23 fun x_24 => rdH h_21 h0.length ((AV.cells (.agg l2)).length) fun l_25 => if 0 = 0 ∧ l_25.length = 5 then c1 (qh h_21 (C 114 [(.c x_24), (.agg l_25)] h_21)) fun y_27 h_26 => asA y_27 fun l_28 => if 0 = 0 ∧ [Cell.int .i64 0, Cell.int .i64 0, Cell.int .i64 0, Cell.int .i64 0, Cell.int .i64 0].length = 5 ∧ l_28.length = 5 then if 0 = 0 ∧ l_28.length = 5 then finish true h0 [(.agg l_28)] h_21 else none else none else none else none else none else rdH h_13 h0.length ((AV.cells (.agg l2)).length) fun l_29 => atK l_29 0 fun q_30 => asI .i64 (.c q_30) fun n_31 => rdH h_13 h0.length ((AV.cells (.agg l2)).length) fun l_32 => if 0 < l_32.length then putH h_13 h0.length (l_32.set 0 (.int .i64 (G.wrap .i64 (n_31 + 1)))) fun h_33 => if 0 = 0 ∧ l0.length = 3 then c1 (qh h_33 (C 113 [(.agg l0), (.c (.int .i64 a1))] h_33)) fun y_35 h_34 => asC y_35 fun x_36 => rdH h_33 h0.length ((AV.cells (.agg l2)).length) fun l_37 => if 0 = 0 ∧ l_37.length = 5 then c1 (qh h_33 (C 114 [(.c x_36), (.agg l_37)] h_33)) fun y_39 h_38 => asA y_39 fun l_40 => if 0 = 0 ∧ [Cell.int .i64 0, Cell.int .i64 0, Cell.int .i64 0, Cell.int .i64 0, Cell.int .i64 0].length = 5 ∧ l_40.length = 5 then if 0 = 0 ∧ l_40.length = 5 then finish true h0 [(.agg l_40)] h_33 else none else none else none else none else none else none else none else none := by kernel_rfl

/- jacquard/prog.Value: 108 -/
set_option maxRecDepth 100000 in
theorem prog_Value_eq (C : CallF) (L : LoopF) (G : Glo) (l0 : List Cell) (l1 : List Cell) (h0 : AHeap) :
    prog_Value.body C L G [(.agg l0), (.agg l1)] h0 =
    atK l0 0 fun q_1 => asI .i64 (.c q_1) fun n_2 => scK (decide (n_2 ≥ 0)) true (atK l0 0 fun q_3 => asI .i64 (.c q_3) fun n_4 => some ((decide (n_4 < 4)), h0)) false h0 fun b_5 h_6 => if b_5 = true then atK l0 0 fun q_7 => asI .i64 (.c q_7) fun n_8 => if 0 ≤ n_8 ∧ n_8 < ((4 : Nat) : Int) then atK l1 (1 + ((Int.toNat n_8) * 1)) fun q_9 => asI .i64 (.c q_9) fun n_10 => some ([(.c (.int .i64 n_10))], h_6) else none else atK l0 1 fun q_11 => asI .i64 (.c q_11) fun n_12 => some ([(.c (.int .i64 n_12))], h_6) := by kernel_rfl

/- jacquard/prog.thread: 113 -/
set_option maxRecDepth 100000 in
theorem prog_thread_eq (C : CallF) (L : LoopF) (G : Glo) (l0 : List Cell) (a1 : Int) (h0 : AHeap) :
    prog_thread.body C L G [(.agg l0), (.c (.int .i64 a1))] h0 =
    scK (decide (a1 < 0)) false (atK l0 2 fun q_1 => lenK q_1 fun n_2 => some ((decide (a1 ≥ n_2)), h0)) true h0 fun b_3 h_4 => if b_3 = true then some ([(.c .nils)], h_4) else atK l0 2 fun q_5 => idxSK 1 q_5 a1 fun k_6 N_7 o_8 => rdH h_4 k_6 N_7 fun l_9 => atK l_9 o_8 fun q_10 => some ([(.c q_10)], h_4) := by kernel_rfl

/- jacquard/prog.normal: 114 -/
def prog_normal_k2 (C : CallF) (L : LoopF) (G : Glo) (h0 : AHeap) : Ex → St → Option (List AV × AHeap) :=
  kSeq (fun st => prog_normal_p1.exec C L G st (prog_normal.fin G h0)) (prog_normal.fin G h0)
def prog_normal_k3 (C : CallF) (L : LoopF) (G : Glo) (h0 : AHeap) : Ex → St → Option (List AV × AHeap) :=
  kBlk 0 (prog_normal_k2 C L G h0)
def prog_normal_s1 (x0 : Cell) (k3 : Nat) (N3 : Nat) (o3 : Nat) (s0 : List Cell) (h : AHeap) : St := ⟨[.v (.c x0), .top, .top, .v (.c (.ptr k3 N3 o3)), .loc 0 0, .top, .top, .top, .top, .top, .top, .top, .top, .top, .top, .top, .top, .top, .top, .top, .top, .top, .top, .top, .top, .top, .top, .top, .top, .top, .top, .top, .top, .top, .top, .top, .top, .top, .top, .top, .top, .top, .top, .top, .top, .top, .top, .top, .top, .top, .top, .top, .top, .top, .top, .top, .top, .top, .top, .top, .top, .top, .top, .top, .top, .top, .top, .top, .top, .top, .top, .top], [some s0, none], h⟩
def prog_normal_F1 (C : CallF) (L : LoopF) (G : Glo) : St → Option (Ex × St) :=
  roundF (fun st f => prog_normal_b1.exec C L G st f) [0, 3, 4] [0] [(0, [4], [0]), (1, [3, 4], [0])]
def prog_normal_x1_0 (s0 : List Cell) (h : AHeap) : St := ⟨[.top, .top, .top, .top, .loc 0 0, .top, .top, .top, .top, .top, .top, .top, .top, .top, .top, .top, .top, .top, .top, .top, .top, .top, .top, .top, .top, .top, .top, .top, .top, .top, .top, .top, .top, .top, .top, .top, .top, .top, .top, .top, .top, .top, .top, .top, .top, .top, .top, .top, .top, .top, .top, .top, .top, .top, .top, .top, .top, .top, .top, .top, .top, .top, .top, .top, .top, .top, .top, .top, .top, .top, .top, .top], [some s0, none], h⟩
def prog_normal_x1_1 (k3 : Nat) (N3 : Nat) (o3 : Nat) (s0 : List Cell) (h : AHeap) : St := ⟨[.top, .top, .top, .v (.c (.ptr k3 N3 o3)), .loc 0 0, .top, .top, .top, .top, .top, .top, .top, .top, .top, .top, .top, .top, .top, .top, .top, .top, .top, .top, .top, .top, .top, .top, .top, .top, .top, .top, .top, .top, .top, .top, .top, .top, .top, .top, .top, .top, .top, .top, .top, .top, .top, .top, .top, .top, .top, .top, .top, .top, .top, .top, .top, .top, .top, .top, .top, .top, .top, .top, .top, .top, .top, .top, .top, .top, .top, .top, .top], [some s0, none], h⟩
theorem prog_normal_r1 (C : CallF) (L : LoopF) (G : Glo) (x0 : Cell) (k3 : Nat) (N3 : Nat) (o3 : Nat) (s0 : List Cell) (h : AHeap) :
    prog_normal_F1 C L G (prog_normal_s1 x0 k3 N3 o3 s0 h) =
    rdH h k3 N3 fun l_1 => atK l_1 (o3 + 0) fun q_2 => asI .i64 (.c q_2) fun n_3 => scK (decide (n_3 ≥ 0)) true (rdH h k3 N3 fun l_4 => atK l_4 (o3 + 0) fun q_5 => asI .i64 (.c q_5) fun n_6 => lenK x0 fun n_7 => some ((decide (n_6 < n_7)), h)) false h fun b_8 h_9 => if b_8 = true then rdH h_9 k3 N3 fun l_10 => atK l_10 (o3 + 0) fun q_11 => asI .i64 (.c q_11) fun n_12 => idxSK 9 x0 n_12 fun k_13 N_14 o_15 => rdH h_9 k_13 N_14 fun l_16 => if o_15 + 9 ≤ l_16.length then if 0 = 0 ∧ (List.replicate 9 (Cell.int .i64 0)).length = 9 ∧ ((l_16.drop o_15).take 9).length = 9 then if 3 + 2 ≤ ((l_16.drop o_15).take 9).length then rdH h_9 k3 N3 fun l_17 => if o3 = 0 ∧ l_17.length = 5 then c1 (qh h_9 (C 108 [(.agg ((((l_16.drop o_15).take 9).drop 3).take 2)), (.agg l_17)] h_9)) fun y_19 h_18 => asI .i64 y_19 fun n_20 => if 6 + 2 ≤ ((l_16.drop o_15).take 9).length then rdH h_9 k3 N3 fun l_21 => if o3 = 0 ∧ l_21.length = 5 then c1 (qh h_9 (C 108 [(.agg ((((l_16.drop o_15).take 9).drop 6).take 2)), (.agg l_21)] h_9)) fun y_23 h_22 => asI .i64 y_23 fun n_24 => atK ((l_16.drop o_15).take 9) 0 fun q_25 => asI .i64 (.c q_25) fun n_26 => if (n_26 == 5) = true then atK ((l_16.drop o_15).take 9) 5 fun q_27 => asI .i64 (.c q_27) fun n_28 => c2 (C 125 [(.c (.int .i64 n_28)), (.c (.int .i64 n_20)), (.c (.int .i64 n_24))] h_9) fun y_30 y_31 h_29 => asI .i64 y_30 fun n_32 => asB y_31 fun b_33 => if b_33 = true then atK ((l_16.drop o_15).take 9) 1 fun q_34 => asI .i64 (.c q_34) fun n_35 => c0 (C 124 [(.c (.ptr k3 N3 o3)), (.c (.int .i64 n_35)), (.c (.int .i64 n_32))] h_29) fun h_36 => rdH h_36 k3 N3 fun l_37 => atK l_37 (o3 + 0) fun q_38 => asI .i64 (.c q_38) fun n_39 => rdH h_36 k3 N3 fun l_40 => if (o3 + 0) < l_40.length then putH h_36 k3 (l_40.set (o3 + 0) (.int .i64 (G.wrap .i64 (n_39 + 1)))) fun h_41 => some (.normal, (prog_normal_s1 x0 k3 N3 o3 s0 h_41)) else none else atK ((l_16.drop o_15).take 9) 1 fun q_42 => asI .i64 (.c q_42) fun n_43 => c0 (C 124 [(.c (.ptr k3 N3 o3)), (.c (.int .i64 n_43)), (.c (.int .i64 n_20))] h_29) fun h_44 => rdH h_44 k3 N3 fun l_45 => atK l_45 (o3 + 0) fun q_46 => asI .i64 (.c q_46) fun n_47 => rdH h_44 k3 N3 fun l_48 => if (o3 + 0) < l_48.length then putH h_44 k3 (l_48.set (o3 + 0) (.int .i64 (G.wrap .i64 (n_47 + 1)))) fun h_49 => some (.normal, (prog_normal_s1 x0 k3 N3 o3 s0 h_49)) else none else if (n_26 == 6) = true then if (n_20 == n_24) = true then rdH h_9 k3 N3 fun l_50 => atK l_50 (o3 + 0) fun q_51 => asI .i64 (.c q_51) fun n_52 => atK ((l_16.drop o_15).take 9) 8 fun q_53 => asI .i64 (.c q_53) fun n_54 => lenK x0 fun n_55 => let v_56 : Int := (if n_55 < (if 0 > n_54 then 0 else n_54) then n_55 else (if 0 > n_54 then 0 else n_54)); rdH h_9 k3 N3 fun l_57 => if (o3 + 0) < l_57.length then putH h_9 k3 (l_57.set (o3 + 0) (.int .i64 (G.wrap .i64 (n_52 + v_56)))) fun h_58 => rdH h_58 k3 N3 fun l_59 => atK l_59 (o3 + 0) fun q_60 => asI .i64 (.c q_60) fun n_61 => rdH h_58 k3 N3 fun l_62 => if (o3 + 0) < l_62.length then putH h_58 k3 (l_62.set (o3 + 0) (.int .i64 (G.wrap .i64 (n_61 + 1)))) fun h_63 => some (.normal, (prog_normal_s1 x0 k3 N3 o3 s0 h_63)) else none else none else rdH h_9 k3 N3 fun l_64 => atK l_64 (o3 + 0) fun q_65 => asI .i64 (.c q_65) fun n_66 => rdH h_9 k3 N3 fun l_67 => if (o3 + 0) < l_67.length then putH h_9 k3 (l_67.set (o3 + 0) (.int .i64 (G.wrap .i64 (n_66 + 1)))) fun h_68 => some (.normal, (prog_normal_s1 x0 k3 N3 o3 s0 h_68)) else none else rdH h_9 k3 N3 fun l_69 => if o3 = 0 ∧ l_69.length = 5 then if 0 = 0 ∧ s0.length = 5 ∧ l_69.length = 5 then some (.ret, (prog_normal_x1_0 l_69 h_9)) else none else none else none else none else none else none else none else none else some ((.exit 0), (prog_normal_x1_1 k3 N3 o3 s0 h_9)) := by kernel_rfl
theorem prog_normal_e1_0 (C : CallF) (L : LoopF) (G : Glo) (h0 : AHeap) (s0 : List Cell) (h : AHeap) :
    (prog_normal_k3 C L G h0) .ret (prog_normal_x1_0 s0 h) =
    if 0 = 0 ∧ s0.length = 5 then finish true h0 [(.agg s0)] h else none := by kernel_rfl
theorem prog_normal_e1_1 (C : CallF) (L : LoopF) (G : Glo) (h0 : AHeap) (k3 : Nat) (N3 : Nat) (o3 : Nat) (s0 : List Cell) (h : AHeap) :
    (prog_normal_k3 C L G h0) (.exit 0) (prog_normal_x1_1 k3 N3 o3 s0 h) =
    rdH h k3 N3 fun l_70 => if o3 = 0 ∧ l_70.length = 5 then if 0 = 0 ∧ s0.length = 5 ∧ l_70.length = 5 then if 0 = 0 ∧ l_70.length = 5 then finish true h0 [(.agg l_70)] h else none else none else none := by kernel_rfl
set_option maxRecDepth 100000 in
theorem prog_normal_eq (C : CallF) (L : LoopF) (G : Glo) (x0 : Cell) (l1 : List Cell) (h0 : AHeap) :
    prog_normal.body C L G [(.c x0), (.agg l1)] h0 =
    (L (prog_normal_F1 C L G) (prog_normal_s1 x0 h0.length ((AV.cells (.agg l1)).length) 0 [Cell.int .i64 0, Cell.int .i64 0, Cell.int .i64 0, Cell.int .i64 0, Cell.int .i64 0] (h0 ++ [some (Blk.mk true 0 (AV.cells (.agg l1)))]))).bind fun p_71 => (prog_normal_k3 C L G h0) p_71.1 p_71.2 := by kernel_rfl

/- jacquard/prog.set: 124 -/
set_option maxRecDepth 100000 in
theorem prog_set_eq (C : CallF) (L : LoopF) (G : Glo) (k0 : Nat) (N0 : Nat) (o0 : Nat) (a1 : Int) (a2 : Int) (h0 : AHeap) :
    prog_set.body C L G [(.c (.ptr k0 N0 o0)), (.c (.int .i64 a1)), (.c (.int .i64 a2))] h0 =
    scK (decide (a1 ≥ 0)) true (some ((decide (a1 < 4)), h0)) false h0 fun b_1 h_2 => if b_1 = true then if 0 ≤ a1 ∧ a1 < ((4 : Nat) : Int) then rdH h_2 k0 N0 fun l_3 => if ((o0 + 1) + ((Int.toNat a1) * 1)) < l_3.length then putH h_2 k0 (l_3.set ((o0 + 1) + ((Int.toNat a1) * 1)) (.int .i64 a2)) fun h_4 => some ([], h_4) else none else none else some ([], h_2) := by kernel_rfl


end Jq

namespace Jq
open Go

/- jacquard/num.Do: 125 -/
set_option maxRecDepth 100000 in
theorem num_Do_eq (C : CallF) (L : LoopF) (G : Glo) (a0 : Int) (a1 : Int) (a2 : Int) (h0 : AHeap) :
    num_Do.body C L G [(.c (.int .i64 a0)), (.c (.int .i64 a1)), (.c (.int .i64 a2))] h0 =
    if (a0 == 1) = true then some ([(.c (.int .i64 (G.wrap .i64 (a1 + a2)))), (.c (.bool true))], h0) else if (a0 == 2) = true then some ([(.c (.int .i64 (G.wrap .i64 (a1 - a2)))), (.c (.bool true))], h0) else if (a0 == 3) = true then some ([(.c (.int .i64 (G.wrap .i64 (a1 * a2)))), (.c (.bool true))], h0) else if (a0 == 4) = true then some ([(.c (.int .i64 (G.band .i64 a1 a2))), (.c (.bool true))], h0) else if (a0 == 5) = true then some ([(.c (.int .i64 (G.bor .i64 a1 a2))), (.c (.bool true))], h0) else if (a0 == 6) = true then some ([(.c (.int .i64 (G.bxor .i64 a1 a2))), (.c (.bool true))], h0) else if (a0 == 7) = true then if (G.rem .u64 (G.wrap .u64 a2) 64) < 0 then none else let v_1 : Int := (G.shl .i64 a1 (G.rem .u64 (G.wrap .u64 a2) 64)); some ([(.c (.int .i64 v_1)), (.c (.bool true))], h0) else if (a0 == 8) = true then if (G.rem .u64 (G.wrap .u64 a2) 64) < 0 then none else let v_2 : Int := (G.shr .i64 a1 (G.rem .u64 (G.wrap .u64 a2) 64)); some ([(.c (.int .i64 v_2)), (.c (.bool true))], h0) else if (a0 == 9) = true then c1 (C 139 [(.c (.bool (a1 == a2)))] h0) fun y_4 h_3 => asI .i64 y_4 fun n_5 => some ([(.c (.int .i64 n_5)), (.c (.bool true))], h_3) else if (a0 == 10) = true then c1 (C 139 [(.c (.bool (a1 != a2)))] h0) fun y_7 h_6 => asI .i64 y_7 fun n_8 => some ([(.c (.int .i64 n_8)), (.c (.bool true))], h_6) else if (a0 == 11) = true then c1 (C 139 [(.c (.bool (decide (a1 < a2))))] h0) fun y_10 h_9 => asI .i64 y_10 fun n_11 => some ([(.c (.int .i64 n_11)), (.c (.bool true))], h_9) else some ([(.c (.int .i64 0)), (.c (.bool false))], h0) := by kernel_rfl

/- jacquard/num.one: 139 -/
set_option maxRecDepth 100000 in
theorem num_one_eq (C : CallF) (L : LoopF) (G : Glo) (b0 : Bool) (h0 : AHeap) :
    num_one.body C L G [(.c (.bool b0))] h0 =
    if b0 = true then some ([(.c (.int .i64 1))], h0) else some ([(.c (.int .i64 0))], h0) := by kernel_rfl


end Jq

/- Programs: instructions, where a thread is; what is done at once. -/
namespace Jq
open Go

structure Opd where
  reg : Int
  val : Int
  deriving DecidableEq
structure Ins where
  kind : Int
  reg : Int
  loc : Int
  a : Opd
  op : Int
  b : Opd
  n : Int
  deriving DecidableEq
structure Lcl where
  pc : Int
  r0 : Int
  r1 : Int
  r2 : Int
  r3 : Int
  deriving DecidableEq

def Opd.cs (o : Opd) : List Cell := [.int .i64 o.reg, .int .i64 o.val]
def Ins.cs (i : Ins) : List Cell := [.int .i64 i.kind, .int .i64 i.reg, .int .i64 i.loc, .int .i64 i.a.reg, .int .i64 i.a.val, .int .i64 i.op, .int .i64 i.b.reg, .int .i64 i.b.val, .int .i64 i.n]
def Lcl.cs (l : Lcl) : List Cell := [.int .i64 l.pc, .int .i64 l.r0, .int .i64 l.r1, .int .i64 l.r2, .int .i64 l.r3]
def codeC (l : List Ins) : List Cell := l.flatMap Ins.cs
def Ins.zero : Ins := ⟨0, 0, 0, ⟨0, 0⟩, 0, ⟨0, 0⟩, 0⟩
def Lcl.zero : Lcl := ⟨0, 0, 0, 0, 0⟩

theorem Ins.len (i : Ins) : i.cs.length = 9 := rfl
theorem Lcl.len (l : Lcl) : l.cs.length = 5 := rfl
theorem zero9 : List.replicate 9 (Cell.int .i64 0) = Ins.zero.cs := rfl
theorem zero5 : [Cell.int .i64 0, Cell.int .i64 0, Cell.int .i64 0, Cell.int .i64 0, Cell.int .i64 0] = Lcl.zero.cs := rfl

theorem codeC_len : ∀ l : List Ins, (codeC l).length = l.length * 9
  | [] => rfl
  | s :: l => by simp only [codeC, List.flatMap_cons, List.length_append]; rw [show (l.flatMap _).length = _ from codeC_len l, Ins.len]; simp; omega

theorem codeC_at : ∀ (l : List Ins) (i : Nat) (s : Ins), l[i]? = some s → ((codeC l).drop (i * 9)).take 9 = s.cs
  | [], _, _, h => by simp at h
  | q :: l, 0, s, h => by simp at h; subst h; rfl
  | q :: l, i + 1, s, h => by
    have := codeC_at l i s (by simpa using h)
    have e : codeC (q :: l) = q.cs ++ codeC l := rfl
    rw [e, List.drop_append, List.drop_of_length_le (by rw [Ins.len]; omega), List.nil_append, show (i + 1) * 9 - q.cs.length = i * 9 by rw [Ins.len]; omega]
    exact this

theorem codeC_snoc (l : List Ins) (s : Ins) : codeC (l ++ [s]) = codeC l ++ s.cs := by simp [codeC]

/-- One instruction, wherever it is looked at. -/
theorem SlAt.insG {h : AHeap} {x : Cell} {l : List Ins} (s : SlAt h x 9 (codeC l) l.length) {i : Nat} {q : Ins} (hq : l[i]? = some q) :
    ∃ off cs', (∀ {α : Type} (G : Nat → List Cell → Option α), (idxSK 9 x (i : Int) fun k N o => rdH h k N fun l => G o l) = G off cs') ∧ off + 9 ≤ cs'.length ∧ (cs'.drop off).take 9 = q.cs := by
  have hi : i < l.length := by
    rcases Nat.lt_or_ge i l.length with h | h
    · exact h
    · rw [List.getElem?_eq_none h] at hq; cases hq
  obtain ⟨off, cs', h1, h2, h3⟩ := s.elG hi
  exact ⟨off, cs', h1, h2, h3.trans (codeC_at l i q hq)⟩

/-- A register. -/
def Lcl.reg (l : Lcl) (i : Int) : Int := if i = 0 then l.r0 else if i = 1 then l.r1 else if i = 2 then l.r2 else l.r3
/-- A register set, if there is one. -/
def Lcl.setR (l : Lcl) (i v : Int) : Lcl := if i = 0 then { l with r0 := v } else if i = 1 then { l with r1 := v } else if i = 2 then { l with r2 := v } else if i = 3 then { l with r3 := v } else l
/-- An operand's number. -/
def opV (o : Opd) (l : Lcl) : Int := if 0 ≤ o.reg ∧ o.reg < 4 then l.reg o.reg else o.val

/-- Numbers as they are, no tables. -/
def GN : Glo := Glo.std fun _ => []

/-- What a sign makes of two numbers. -/
def doV (op a b : Int) : Option Int :=
  if op = 1 then some (GN.wrap .i64 (a + b)) else if op = 2 then some (GN.wrap .i64 (a - b)) else if op = 3 then some (GN.wrap .i64 (a * b))
  else if op = 4 then some (GN.band .i64 a b) else if op = 5 then some (GN.bor .i64 a b) else if op = 6 then some (GN.bxor .i64 a b)
  else if op = 7 then some (GN.shl .i64 a (GN.rem .u64 (GN.wrap .u64 b) 64)) else if op = 8 then some (GN.shr .i64 a (GN.rem .u64 (GN.wrap .u64 b) 64))
  else if op = 9 then some (if a = b then 1 else 0) else if op = 10 then some (if a = b then 0 else 1) else if op = 11 then some (if a < b then 1 else 0) else none

/-- One instruction that is done at once, if one comes. -/
def stepI (code : List Ins) (l : Lcl) : Option Lcl :=
  if 0 ≤ l.pc then match code[l.pc.toNat]? with
    | none => none
    | some i =>
      if i.kind = 5 then
        let m := l.setR i.reg ((doV i.op (opV i.a l) (opV i.b l)).getD (opV i.a l))
        some { m with pc := m.pc + 1 }
      else if i.kind = 6 then
        (if opV i.a l = opV i.b l then some { l with pc := l.pc + min (max i.n 0) code.length + 1 } else some { l with pc := l.pc + 1 })
      else none
  else none

def nrm (code : List Ins) : Nat → Lcl → Lcl
  | 0, l => l
  | k + 1, l => match stepI code l with
    | none => l
    | some l' => nrm code k l'

/-- Made normal. -/
def normL (code : List Ins) (l : Lcl) : Lcl := nrm code code.length l

theorem getI_lt {α : Type} {l : List α} {i : Nat} {v : α} (h : l[i]? = some v) : i < l.length := by
  rcases Nat.lt_or_ge i l.length with h1 | h1
  · exact h1
  · rw [List.getElem?_eq_none h1] at h; cases h

theorem Lcl.setR_pc (l : Lcl) (i v : Int) : (l.setR i v).pc = l.pc := by unfold Lcl.setR; repeat' split <;> try rfl

theorem stepI_pc {code : List Ins} {l l' : Lcl} (h : stepI code l = some l') : 0 ≤ l.pc ∧ l.pc < code.length ∧ l.pc < l'.pc ∧ l'.pc ≤ 2 * code.length := by
  unfold stepI at h
  split at h
  · rename_i h0
    cases hi : code[l.pc.toNat]? with
    | none => rw [hi] at h; cases h
    | some i =>
      rw [hi] at h
      have hlt := getI_lt hi
      simp only at h
      split at h
      · cases h
        have := l.setR_pc i.reg ((doV i.op (opV i.a l) (opV i.b l)).getD (opV i.a l))
        refine ⟨h0, by omega, ?_, ?_⟩ <;> simp only [this] <;> omega
      · split at h
        · split at h
          · cases h; refine ⟨h0, by omega, ?_, ?_⟩ <;> simp only <;> omega
          · cases h; refine ⟨h0, by omega, ?_, ?_⟩ <;> simp only <;> omega
        · cases h
  · cases h

theorem nrm_stop {code : List Ins} {l : Lcl} (h : stepI code l = none) : ∀ k, nrm code k l = l
  | 0 => rfl
  | k + 1 => by rw [nrm, h]

/-- Behind as many steps as there are instructions it has come to a stop. -/
theorem nrm_done {code : List Ins} : ∀ (k : Nat) (l : Lcl), (0 ≤ l.pc → (code.length : Int) ≤ l.pc + k) → stepI code (nrm code k l) = none
  | 0, l, h => by
    rw [nrm]
    cases hs : stepI code l with
    | none => rfl
    | some l' => have := stepI_pc hs; have := h this.1; omega
  | k + 1, l, h => by
    rw [nrm]
    cases hs : stepI code l with
    | none => exact hs
    | some l' =>
      have := stepI_pc hs
      exact nrm_done k l' (fun _ => by have := h this.1; omega)

theorem nrm_more {code : List Ins} : ∀ (k m : Nat) (l : Lcl), (0 ≤ l.pc → (code.length : Int) ≤ l.pc + k) → nrm code (k + m) l = nrm code k l
  | 0, m, l, h => by
    rw [Nat.zero_add]
    refine (nrm_stop ?_ m)
    cases hs : stepI code l with
    | none => rfl
    | some l' => have := stepI_pc hs; have := h this.1; omega
  | k + 1, m, l, h => by
    rw [show k + 1 + m = (k + m) + 1 by omega, nrm, nrm]
    cases hs : stepI code l with
    | none => rfl
    | some l' =>
      have := stepI_pc hs
      exact nrm_more k m l' (fun _ => by have := h this.1; omega)

theorem normL_step {code : List Ins} {l l' : Lcl} (h : stepI code l = some l') : normL code l = normL code l' := by
  obtain ⟨a, b, c, _⟩ := stepI_pc h
  unfold normL
  obtain ⟨n, hn⟩ : ∃ n, code.length = n + 1 := ⟨code.length - 1, by omega⟩
  have h2 : nrm code code.length l' = nrm code n l' := by rw [hn]; exact nrm_more n 1 l' (fun _ => by omega)
  have h1 : nrm code code.length l = nrm code n l' := by rw [hn, nrm, h]
  rw [h1, h2]
theorem normL_stop {code : List Ins} {l : Lcl} (h : stepI code l = none) : normL code l = l := nrm_stop h _
theorem normL_done (code : List Ins) (l : Lcl) : stepI code (normL code l) = none := nrm_done _ _ (fun _ => by omega)

section
variable {E : Env}

theorem lcl_get {l : Lcl} {i : Int} (h0 : 0 ≤ i) (h1 : i < 4) : l.cs[1 + Int.toNat i * 1]? = some (.int .i64 (l.reg i)) := by
  have h : i = 0 ∨ i = 1 ∨ i = 2 ∨ i = 3 := by omega
  rcases h with rfl | rfl | rfl | rfl <;> rfl

theorem lcl_set {l : Lcl} {i v : Int} (h0 : 0 ≤ i) (h1 : i < 4) : l.cs.set (1 + Int.toNat i * 1) (.int .i64 v) = (l.setR i v).cs := by
  have h : i = 0 ∨ i = 1 ∨ i = 2 ∨ i = 3 := by omega
  rcases h with rfl | rfl | rfl | rfl <;> rfl

theorem Value_R (hE : prog_Value_In E) (o : Opd) (l : Lcl) (h : AHeap) : R E 108 [.agg o.cs, .agg l.cs] h = some ([.c (.int .i64 (opV o l))], h) := by
  refine R_intro hE.fn ?_
  have a0 : ∀ {α : Type} (f : Cell → Option α), atK o.cs 0 f = f (.int .i64 o.reg) := fun _ => rfl
  have a1 : ∀ {α : Type} (f : Cell → Option α), atK o.cs 1 f = f (.int .i64 o.val) := fun _ => rfl
  unfold opV
  rw [prog_Value_eq]
  simp only [a0, a1, asI_ok, scK_and]
  by_cases h1 : 0 ≤ o.reg ∧ o.reg < 4
  · rw [if_pos (by simp; exact h1), if_pos ⟨h1.1, h1.2⟩, if_pos h1, atK_ok (lcl_get h1.1 h1.2), asI_ok]
  · rw [if_neg (by simp; omega), if_neg h1]

theorem set_R (hE : prog_set_In E) (i v : Int) {l : Lcl} {k : Nat} {h : AHeap} (hk : blk? h k = some ⟨true, 0, l.cs⟩) :
    R E 124 [.c (.ptr k 5 0), .c (.int .i64 i), .c (.int .i64 v)] h = some ([], setBlk h k (some ⟨true, 0, (l.setR i v).cs⟩)) := by
  refine R_intro hE.fn ?_
  rw [prog_set_eq, scK_and]
  by_cases h1 : 0 ≤ i ∧ i < 4
  · rw [if_pos (by simp; exact h1), if_pos ⟨h1.1, h1.2⟩, rdH_ok hk (Lcl.len l), if_pos (by rw [Lcl.len]; omega), show 0 + 1 + Int.toNat i * 1 = 1 + Int.toNat i * 1 by omega, lcl_set h1.1 h1.2, putH_ok hk rfl]
  · have e : l.setR i v = l := by unfold Lcl.setR; rw [if_neg (by omega), if_neg (by omega), if_neg (by omega), if_neg (by omega)]
    have e2 : setBlk h k (some ⟨true, 0, l.cs⟩) = h := by
      refine List.ext_getElem? fun j => ?_
      unfold setBlk
      rw [List.getElem?_set]
      by_cases hj : k = j
      · subst hj
        rw [if_pos rfl, if_pos (blk_lt' hk)]
        unfold blk? at hk
        cases hh : h[k]? with
        | none => rw [hh] at hk; cases hk
        | some b => rw [hh] at hk; simp at hk; rw [hk]
      · rw [if_neg hj]
    rw [if_neg (by simp; omega), e, e2]

theorem one_R (hE : num_one_In E) (b : Bool) (h : AHeap) : R E 139 [.c (.bool b)] h = some ([.c (.int .i64 (if b = true then 1 else 0))], h) := by
  refine R_intro hE.fn ?_
  rw [num_one_eq]
  cases b <;> rfl

theorem Do_R (hE : num_Do_In E) (op a b : Int) (h : AHeap) : R E 125 [.c (.int .i64 op), .c (.int .i64 a), .c (.int .i64 b)] h = some ([.c (.int .i64 ((doV op a b).getD 0)), .c (.bool (doV op a b).isSome)], h) := by
  refine R_intro hE.fn ?_
  rw [num_Do_eq]
  simp only [one_R hE.c139, c1_ok, asI_ok]
  have hr : ∀ x : Int, ¬ E.glob.rem .u64 (E.glob.wrap .u64 x) 64 < 0 := by
    intro x
    show ¬ Int.tmod (IntKind.wrap .u64 x) 64 < 0
    have h0 : 0 ≤ IntKind.wrap .u64 x := by
      simp only [IntKind.wrap, IntKind.signed, IntKind.bits, Bool.false_and, Bool.false_eq_true, if_false]
      exact Int.emod_nonneg _ (by omega)
    rw [Int.tmod_eq_emod_of_nonneg h0]
    have := Int.emod_nonneg (IntKind.wrap .u64 x) (b := 64) (by omega)
    omega
  simp only [hr, if_false]
  unfold doV
  have key : ∀ k : Int, ((op == k) = true) = (op = k) := fun k => by rw [beq_iff_eq]
  simp only [key]
  by_cases h1 : op = 1
  · simp only [if_pos h1]; rfl
  simp only [if_neg h1]
  by_cases h2 : op = 2
  · simp only [if_pos h2]; rfl
  simp only [if_neg h2]
  by_cases h3 : op = 3
  · simp only [if_pos h3]; rfl
  simp only [if_neg h3]
  by_cases h4 : op = 4
  · simp only [if_pos h4]; rfl
  simp only [if_neg h4]
  by_cases h5 : op = 5
  · simp only [if_pos h5]; rfl
  simp only [if_neg h5]
  by_cases h6 : op = 6
  · simp only [if_pos h6]; rfl
  simp only [if_neg h6]
  by_cases h7 : op = 7
  · simp only [if_pos h7]; rfl
  simp only [if_neg h7]
  by_cases h8 : op = 8
  · simp only [if_pos h8]; rfl
  simp only [if_neg h8]
  by_cases h9 : op = 9
  · simp only [if_pos h9]; (by_cases hab : a = b <;> simp [hab])
  simp only [if_neg h9]
  by_cases h10 : op = 10
  · simp only [if_pos h10]; (by_cases hab : a = b <;> simp [hab])
  simp only [if_neg h10]
  by_cases h11 : op = 11
  · simp only [if_pos h11]; (by_cases hab : a < b <;> simp [hab])
  simp only [if_neg h11]
  rfl

end
end Jq

/- RelAlgebra: joining and meeting are the same both ways; turned twice a relation is itself; closed twice it is closed. -/
namespace Jq
open Go

theorem clK_ge {n : Nat} {f : Nat → Nat} {a : Nat} (ha : n ≤ a) : ∀ k, clK n f k a = f a
  | 0 => rfl
  | k + 1 => by rw [clK, cl1_eq, if_neg (by omega), clK_ge ha k]

theorem clK_bit {n : Nat} {f : Nat → Nat} (ff : Fit n f) (a b : Nat) : (clK n f n a).testBit b = true ↔ Way f n a b := by
  rcases Nat.lt_or_ge a n with ha | ha
  · exact clK_way n f n (Nat.le_refl _) a b ha
  · rw [clK_ge ha]
    constructor
    · exact fun h => .one h
    · intro w
      have : a < n := by
        cases w with
        | one h => exact (ff _ _ h).1
        | step h _ _ => exact (ff _ _ h).1
      omega

theorem way_fit {n : Nat} {f : Nat → Nat} (ff : Fit n f) {a b : Nat} (w : Way f n a b) : a < n ∧ b < n := by
  induction w with
  | one h => exact ff _ _ h
  | step h _ _ ih => exact ⟨(ff _ _ h).1, ih.2⟩

theorem clK_fit {n : Nat} {f : Nat → Nat} (ff : Fit n f) : Fit n (clK n f n) := fun a b h => way_fit ff ((clK_bit ff a b).1 h)

theorem way_way {n : Nat} {f : Nat → Nat} (ff : Fit n f) {a b : Nat} : Way (clK n f n) n a b ↔ Way f n a b := by
  constructor
  · intro w
    induction w with
    | one h => exact (clK_bit ff _ _).1 h
    | step h hc _ ih => exact ((clK_bit ff _ _).1 h).trans hc ih
  · intro w; exact .one ((clK_bit ff _ _).2 w)

variable {E : Env}

theorem clamp_eq (a : Int) : (if 64 < (if 0 > a then 0 else a) then 64 else (if 0 > a then 0 else a)) = ((clamp a : Nat) : Int) := by
  unfold clamp; split <;> split <;> omega
theorem clamp_le (a : Int) : clamp a ≤ 64 := by unfold clamp; omega

theorem RelAlgebra_R (hE : jacquardlaw8_RelAlgebra_In E) (ht : TabOk E) (a0 : Int) {x1 x2 : Cell} {l1 l2 : List (Int × Int)} {h : AHeap} (hx1 : SlAt h x1 2 (pairC l1) l1.length) (hl1 : Low h.length x1)
    (hx2 : SlAt h x2 2 (pairC l2) l2.length) (hl2 : Low h.length x2) : R E 243 [.c (.int .i64 a0), .c x1, .c x2] h = some ([.c (.bool true)], h) := by
  refine R_intro hE.fn ?_
  rw [jacquardlaw8_RelAlgebra_eq]
  have hn := clamp_le a0
  simp only [clamp_eq]
  generalize clamp a0 = n at hn
  rw [Of_R hE.c1 (n : Int) hx1 hl1, c2_ok, asA_ok, asA_ok, clamp_nat hn]
  have hf := words_of n (l1.take 200)
  have hg := words_of n (l2.take 200)
  have ff := of_fit hn (l1.take 200)
  have fg := of_fit hn (l2.take 200)
  simp only [relL_len, zero_len, and_self, if_true]
  rw [Of_R hE.c1 (n : Int) hx2 hl2, c2_ok, asA_ok, asA_ok, clamp_nat hn]
  simp only [relL_len, and_self, if_true]
  generalize ofR n (l1.take 200) = f at *
  generalize ofR n (l2.take 200) = g at *
  have hc := words_clK hf n n
  have fc := clK_fit ff
  have e1 : relL n (UNI n f g) = relL n (UNI n g f) := rel_eq (w_UNI _ _ _) (w_UNI _ _ _) fun i j => by simp only [b_UNI hn]; constructor <;> (rintro ⟨q1, q2, q⟩; exact ⟨q1, q2, q.symm⟩)
  have e2 : relL n (MEE n f g) = relL n (MEE n g f) := rel_eq (w_MEE _ _ _) (w_MEE _ _ _) fun i j => by simp only [b_MEE hn]; constructor <;> (rintro ⟨q1, q2, q⟩; exact ⟨q1, q2, q.symm⟩)
  have e3 : relL n (INV n (INV n f)) = relL n f := rel_eq (w_INV _ _) hf fun i j => by
    simp only [b_INV hn]
    exact ⟨fun q => q.2.2, fun q => ⟨(ff _ _ q).2, (ff _ _ q).1, q⟩⟩
  have e4 : relL n (clK n (clK n f n) n) = relL n (clK n f n) := rel_eq (words_clK hc n n) hc fun i j => by
    rw [clK_bit fc, clK_bit ff, way_way ff]
  have e5 : relL n (INV n (TH n f g)) = relL n (TH n (INV n g) (INV n f)) := rel_eq (w_INV _ _) (w_TH _ _ _) fun i j => by
    simp only [b_INV hn, b_TH hn]
    constructor
    · rintro ⟨q1, _, q2, k, q3, q4, q5⟩; exact ⟨q2, q1, k, q3, ⟨q3, q5⟩, q1, q4⟩
    · rintro ⟨q2, q1, k, q3, ⟨_, q5⟩, _, q4⟩; exact ⟨q1, q1, q2, k, q3, q4, q5⟩
  have e6 : relL n (UNI n (MIN n f g) (MEE n f g)) = relL n f := rel_eq (w_UNI _ _ _) hf fun i j => by
    simp only [b_UNI hn, b_MIN hn, b_MEE hn]
    constructor
    · rintro ⟨_, _, ⟨_, _, q, _⟩ | ⟨_, _, q, _⟩⟩ <;> exact q
    · intro q
      obtain ⟨q1, q2⟩ := ff _ _ q
      by_cases hgb : (g i).testBit j = true
      · exact ⟨q1, q2, .inr ⟨q1, q2, q, hgb⟩⟩
      · exact ⟨q1, q2, .inl ⟨q1, q2, q, hgb⟩⟩
  have e6' : relL n (UNI n (MIN n f g) (MEE n g f)) = relL n f := rel_eq (w_UNI _ _ _) hf fun i j => by
    simp only [b_UNI hn, b_MIN hn, b_MEE hn]
    constructor
    · rintro ⟨_, _, ⟨_, _, q, _⟩ | ⟨_, _, _, q⟩⟩ <;> exact q
    · intro q
      obtain ⟨q1, q2⟩ := ff _ _ q
      by_cases hgb : (g i).testBit j = true
      · exact ⟨q1, q2, .inr ⟨q1, q2, hgb, q⟩⟩
      · exact ⟨q1, q2, .inl ⟨q1, q2, q, hgb⟩⟩
  have e7 : relL n (UNI n (TH n (clK n f n) (clK n f n)) (clK n f n)) = relL n (clK n f n) := rel_eq (w_UNI _ _ _) hc fun i j => by
    simp only [b_UNI hn, b_TH hn]
    constructor
    · rintro ⟨_, _, ⟨_, _, k, q3, q4, q5⟩ | q⟩
      · exact (clK_bit ff _ _).2 (((clK_bit ff _ _).1 q4).trans q3 ((clK_bit ff _ _).1 q5))
      · exact q
    · intro q
      exact ⟨(fc _ _ q).1, (fc _ _ q).2, .inr q⟩
  have e8 : relL n (UNI n f (clK n f n)) = relL n (clK n f n) := rel_eq (w_UNI _ _ _) hc fun i j => by
    simp only [b_UNI hn]
    constructor
    · rintro ⟨_, _, q | q⟩
      · exact (clK_bit ff _ _).2 (.one q)
      · exact q
    · intro q
      exact ⟨(fc _ _ q).1, (fc _ _ q).2, .inr q⟩
  have e9 : relL n (UNI n f f) = relL n f := rel_eq (w_UNI _ _ _) hf fun i j => by
    simp only [b_UNI hn, or_self]
    exact ⟨fun q => q.2.2, fun q => ⟨(ff _ _ q).1, (ff _ _ q).2, q⟩⟩
  simp only [relL_len, zero_len, and_self, if_true, Then_S hE.c58 ht hn, Union_S hE.c59 hn, Meet_S hE.c67 hn, Minus_S hE.c68 hn, Inverse_S hE.c40 ht hn, Closure_R hE.c12 hn, awake8_R hE.c55, hf, hg, hc, w_TH, w_UNI, w_MEE, w_MIN, w_INV, qh_ok, c1_ok, asA_ok, asB_ok, bind_ok, scK_ok, zero_rel, alike_rel, e1, e2, e3, e4, e5, e6, e6', e7, e8, e9, decide_true]

theorem RelAlgebra_law (ht : TabOk E) (hE : jacquardlaw8_RelAlgebra_In E) {h : AHeap} {c0 c1 c2 : List Cell} (o0 : okC h (.i .i64) c0) (o1 : okC h (.sl shPair) c1) (o2 : okC h (.sl shPair) c2) :
    ∃ h', R E 243 [av1 (.i .i64) c0, av1 (.sl shPair) c1, av1 (.sl shPair) c2] h = some ([.c (.bool true)], h') := by
  obtain ⟨a0, e0, _⟩ := arg_int o0
  obtain ⟨x1, l1, e1, hx1, hl1, _⟩ := arg_pairs o1
  obtain ⟨x2, l2, e2, hx2, hl2, _⟩ := arg_pairs o2
  rw [e0, e1, e2]
  exact ⟨h, RelAlgebra_R hE ht a0 hx1 hl1 hx2 hl2⟩

end Jq

/- Relations told once more, by hand: closing, none leading to itself, cutting down, whether two are the same. -/
namespace Jq
open Go

theorem Low_mono {n m : Nat} (hm : n ≤ m) : ∀ {x : Cell}, Low n x → Low m x := by
  intro x h
  unfold Low at *
  split <;> simp_all
  omega

theorem avOk_rel (m n : Nat) (f : Nat → Nat) : avOk m (.agg (relL n f)) = true := by simp [avOk, AV.cells, relL, idOk]

/-- What holds, over r. -/
def ACC (r : Nat) (q : Nat → Nat → Bool) : Nat → Nat := fun a => mkN fun b => decide (a < r) && decide (b < r) && q a b

theorem w_ACC (r : Nat) (q : Nat → Nat → Bool) : Words (ACC r q) := fun _ => mkN_lt _

theorem b_ACC {r : Nat} (hr : r ≤ 64) (q : Nat → Nat → Bool) (a b : Nat) : (ACC r q a).testBit b = (decide (a < r) && decide (b < r) && q a b) := by
  unfold ACC
  rw [testBit_mkN, Bool.eq_iff_iff]
  simp only [Bool.and_eq_true, decide_eq_true_eq]
  constructor
  · rintro ⟨_, h⟩; exact h
  · rintro h; exact ⟨by omega, h⟩

theorem ACC_fit {r : Nat} (hr : r ≤ 64) (q : Nat → Nat → Bool) : Fit r (ACC r q) := fun a b h => by
  rw [b_ACC hr] at h; simp only [Bool.and_eq_true, decide_eq_true_eq] at h; exact h.1

theorem ACC_eq {r : Nat} (hr : r ≤ 64) {q q' : Nat → Nat → Bool} (h : ∀ a b, a < r → b < r → q a b = q' a b) : relL r (ACC r q) = relL r (ACC r q') := rel_eq (w_ACC _ _) (w_ACC _ _) fun a b => by
  rw [b_ACC hr, b_ACC hr]
  simp only [Bool.and_eq_true, decide_eq_true_eq]
  constructor
  · rintro ⟨⟨h1, h2⟩, h3⟩; exact ⟨⟨h1, h2⟩, by rw [← h a b h1 h2]; exact h3⟩
  · rintro ⟨⟨h1, h2⟩, h3⟩; exact ⟨⟨h1, h2⟩, by rw [h a b h1 h2]; exact h3⟩

theorem ACC_add {r : Nat} (hr : r ≤ 64) {q q' : Nat → Nat → Bool} {i j : Nat} (hi : i < r) (hj : j < r) (h : ∀ a b, a < r → b < r → q' a b = (q a b || (decide (a = i) && decide (b = j)))) :
    relL r (addR r (ACC r q) (i : Int) (j : Int)) = relL r (ACC r q') := rel_eq (words_add (w_ACC _ _) _ _) (w_ACC _ _) fun a b => by
  rw [addR_bit hr, b_ACC hr, b_ACC hr, inR_nat, inR_nat, show decide (i < r) = true by simpa using hi, show decide (j < r) = true by simpa using hj]
  simp only [Bool.and_eq_true, Bool.or_eq_true, decide_eq_true_eq, Bool.true_and]
  constructor
  · rintro (⟨⟨h1, h2⟩, h3⟩ | ⟨h1, h2⟩)
    · exact ⟨⟨h1, h2⟩, by rw [h a b h1 h2, h3]; rfl⟩
    · have h1 : a = i := (Int.ofNat.inj h1).symm
      have h2 : b = j := (Int.ofNat.inj h2).symm
      subst h1; subst h2
      exact ⟨⟨hi, hj⟩, by rw [h a b hi hj]; simp⟩
  · rintro ⟨⟨h1, h2⟩, h3⟩
    rw [h a b h1 h2] at h3
    simp only [Bool.or_eq_true, Bool.and_eq_true, decide_eq_true_eq] at h3
    rcases h3 with h3 | ⟨rfl, rfl⟩
    · exact .inl ⟨⟨h1, h2⟩, h3⟩
    · exact .inr ⟨rfl, rfl⟩

theorem ACC_none {r : Nat} (hr : r ≤ 64) {q : Nat → Nat → Bool} (h : ∀ a b, a < r → b < r → q a b = false) : relL r (ACC r q) = relL r fun _ => 0 := rel_eq (w_ACC _ _) words_zero fun a b => by
  rw [b_ACC hr]
  simp only [Bool.and_eq_true, decide_eq_true_eq, Nat.zero_testBit]
  constructor
  · rintro ⟨⟨h1, h2⟩, h3⟩; rw [h a b h1 h2] at h3; exact h3
  · intro h; cases h

variable {E : Env}

theorem refClosure_R (hE : jacquardref6_Closure_In E) {n : Nat} (hn : n ≤ 64) {f : Nat → Nat} (hf : Words f) (h : AHeap) :
    R E 6 [.agg (relL n f)] h = some ([.agg (relL n (clK n f n))], h) := by
  refine R_intro hE.fn ?_
  rw [jacquardref6_Closure_eq]
  have outer : Lim (jacquardref6_Closure_F2 (R E) Lim E.glob) (jacquardref6_Closure_s2 h.length 65 0 ((0 : Nat) : Int) zeroL (h ++ [some ⟨true, 0, relL n (clK n f 0)⟩])) = some (.exit 0, jacquardref6_Closure_x2_1 h.length 65 0 zeroL (h ++ [some ⟨true, 0, relL n (clK n f n)⟩])) := by
    refine Lim_count (fun k => jacquardref6_Closure_s2 h.length 65 0 (k : Int) zeroL (h ++ [some ⟨true, 0, relL n (clK n f k)⟩])) 0 n (by omega) (fun k _ hk => ?_) (Lim_exit ?_)
    · have inner : Lim (jacquardref6_Closure_F1 (R E) Lim E.glob) (jacquardref6_Closure_s1 h.length 65 0 k ((0 : Nat) : Int) zeroL (h ++ [some ⟨true, 0, relL n (cl1 k 0 (clK n f k))⟩])) = some (.exit 2, jacquardref6_Closure_x1_3 h.length 65 0 k zeroL (h ++ [some ⟨true, 0, relL n (cl1 k n (clK n f k))⟩])) := by
        refine Lim_count (fun i => jacquardref6_Closure_s1 h.length 65 0 k (i : Int) zeroL (h ++ [some ⟨true, 0, relL n (cl1 k i (clK n f k))⟩])) 0 n (by omega) (fun i _ hi => ?_) (Lim_exit ?_)
        · have hw := words_cl1 (words_clK hf n k) k i
          have q1 : 0 ≤ (i : Int) ∧ (i : Int) < ((64 : Nat) : Int) := by omega
          have q2 : 0 ≤ (k : Int) ∧ (k : Int) < ((64 : Nat) : Int) := by omega
          have rd : ∀ {α : Type} (g : List Cell → Option α), rdH (h ++ [some ⟨true, 0, relL n (cl1 k i (clK n f k))⟩]) h.length 65 g = g (relL n (cl1 k i (clK n f k))) := fun g => rdH_ok (blk_new h _) (relL_len _ _)
          rw [jacquardref6_Closure_r1, rd, atK_ok (i := 0 + 0) (relL_zero _ _), asI_ok, if_pos (by simp; omega), refHas_R hE.c7 hw (by omega) (by omega) (blk_new h _), c1_ok, asB_ok, cl1, clS]
          cases hb : (cl1 k i (clK n f k) i).testBit k with
          | true =>
            simp only [if_true]
            rw [if_pos q1, rd, Int.toNat_natCast, Int.toNat_natCast, show 0 + 1 + i * 1 = 1 + i by omega, show 0 + 1 + k * 1 = 1 + k by omega, atK_ok (relL_row (by omega)), asI_ok, if_pos q2, rd, atK_ok (relL_row (by omega)), asI_ok, if_pos q1, rd, if_pos (by rw [relL_len]; omega), g_bor (hw _) (hw _), relL_set, putH_ok (blk_new h _) rfl, setBlk_last, g_succ (by omega)]
          | false => simp only [Bool.false_eq_true, if_false]; rw [g_succ (by omega)]
        · rw [jacquardref6_Closure_r1, rdH_ok (blk_new h _) (relL_len _ _), atK_ok (i := 0 + 0) (relL_zero _ _), asI_ok, if_neg (by simp)]
      rw [jacquardref6_Closure_r2, rdH_ok (blk_new h _) (relL_len _ _), atK_ok (i := 0 + 0) (relL_zero _ _), asI_ok, if_pos (by simp; omega), show jacquardref6_Closure_s1 h.length 65 0 k 0 zeroL (h ++ [some ⟨true, 0, relL n (clK n f k)⟩]) = jacquardref6_Closure_s1 h.length 65 0 k ((0 : Nat) : Int) zeroL (h ++ [some ⟨true, 0, relL n (cl1 k 0 (clK n f k))⟩]) from rfl, inner, bind_ok, jacquardref6_Closure_e1_3, g_succ (by omega)]
      rfl
    · rw [jacquardref6_Closure_r2, rdH_ok (blk_new h _) (relL_len _ _), atK_ok (i := 0 + 0) (relL_zero _ _), asI_ok, if_neg (by simp)]
  have hc : (AV.cells (.agg (relL n f))).length = 65 := relL_len _ _
  rw [hc, show jacquardref6_Closure_s2 h.length 65 0 0 ([Cell.int .i64 0] ++ List.replicate 64 (Cell.int .u64 0)) (h ++ [some (Blk.mk true 0 (AV.cells (.agg (relL n f))))]) = jacquardref6_Closure_s2 h.length 65 0 ((0 : Nat) : Int) zeroL (h ++ [some ⟨true, 0, relL n (clK n f 0)⟩]) from rfl, outer, bind_ok, jacquardref6_Closure_e2_1, rdH_ok (blk_new h _) (relL_len _ _)]
  simp only [relL_len, zeroL, zero_len, and_self, if_true]
  exact finish_gc (Kp.app _ (Nat.le_refl _)) (by simp [avOk_rel])

theorem refAcyclic_R (hE : jacquardref6_Acyclic_In E) {n : Nat} (hn : n ≤ 64) {f : Nat → Nat} (hf : Words f) (h : AHeap) :
    R E 71 [.agg (relL n f)] h = some ([.c (.bool (acycR n f))], h) := by
  refine R_intro hE.fn ?_
  have hw := words_clK hf n n
  rw [jacquardref6_Acyclic_eq, if_pos ⟨rfl, relL_len _ _⟩, refClosure_R hE.c6 hn hf, c1_ok, asA_ok, rdH_ok (blk_new h _) zero_len, if_pos ⟨rfl, zero_len, relL_len _ _⟩, putH_ok (blk_new h _) rfl, setBlk_last, zero_len]
  dsimp only
  have loop := Lim_any (F := jacquardref6_Acyclic_F1 (R E) Lim E.glob) (fun i => jacquardref6_Acyclic_s1 h.length 65 0 (i : Int) (relL n f) (h ++ [some ⟨true, 0, relL n (clK n f n)⟩])) (fun i => (clK n f n i).testBit i) (.ret, jacquardref6_Acyclic_x1_0 false (h ++ [some ⟨true, 0, relL n (clK n f n)⟩])) (.exit 0, jacquardref6_Acyclic_x1_1 (h ++ [some ⟨true, 0, relL n (clK n f n)⟩])) n (fun i hi => by
      rw [jacquardref6_Acyclic_r1, atK_ok (relL_zero _ _), asI_ok, if_pos (by simp; omega), refHas_R hE.c7 hw (by omega) (by omega) (blk_new h _), c1_ok, asB_ok, g_succ (by omega)]) (by simp) (by
      rw [jacquardref6_Acyclic_r1, atK_ok (relL_zero _ _), asI_ok, if_neg (by simp)]) (by simp)
  simp only [Int.ofNat_zero, Int.natCast_zero] at loop
  rw [loop, bind_ok]
  unfold acycR
  cases (List.range n).any fun i => (clK n f n i).testBit i with
  | true => simp only [if_true]; rw [jacquardref6_Acyclic_e1_0]; exact finish_gc (Kp.app _ (Nat.le_refl _)) (by simp [avOk, AV.cells, idOk])
  | false => simp only [Bool.false_eq_true, if_false]; rw [jacquardref6_Acyclic_e1_1]; exact finish_gc (Kp.app _ (Nat.le_refl _)) (by simp [avOk, AV.cells, idOk])

theorem Same_R (hE : jacquardlaw8_Same_In E) {n : Nat} (hn : n ≤ 64) {f g : Nat → Nat} (hfg : ∀ i, i < 64 → (if i < n then f i else 0) = g i) (h : AHeap) :
    R E 69 [.agg (relL n f), .agg (relL n g)] h = some ([.c (.bool true)], h) := by
  refine R_intro hE.fn ?_
  have loop : Lim (jacquardlaw8_Same_F1 (R E) Lim E.glob) (jacquardlaw8_Same_s1 ((0 : Nat) : Int) (relL n f) (relL n g) h) = some (.exit 0, jacquardlaw8_Same_x1_1 h) := by
    refine Lim_count (fun i => jacquardlaw8_Same_s1 (i : Int) (relL n f) (relL n g) h) 0 64 (by omega) (fun i _ hi => ?_) (Lim_exit ?_)
    · have q1 : 0 ≤ (i : Int) ∧ (i : Int) < ((64 : Nat) : Int) := by omega
      have hr := hfg i hi
      rw [jacquardlaw8_Same_r1, if_pos (by simp; omega), if_pos ⟨rfl, relL_len _ _⟩, Row_R hE.c41 hn, qh_ok, c1_ok, asI_ok, if_pos q1, Int.toNat_natCast, Nat.mul_one, atK_ok (relL_row hi), asI_ok, inR_nat, g_succ (by omega)]
      simp only [decide_eq_true_eq]
      rw [hr, bne_self_eq_false, if_neg (by simp)]
    · rw [jacquardlaw8_Same_r1, if_neg (by simp)]
  rw [jacquardlaw8_Same_eq, if_pos ⟨rfl, relL_len _ _⟩, N_R hE.c14, qh_ok, c1_ok, asI_ok, atK_ok (relL_zero _ _), asI_ok, bne_self_eq_false, if_neg (by simp), show (0 : Int) = ((0 : Nat) : Int) from rfl, loop, bind_ok, jacquardlaw8_Same_e1_1]

theorem Same_S (hE : jacquardlaw8_Same_In E) {n : Nat} (hn : n ≤ 64) {f g : Nat → Nat} (hf : Words f) (hg : Words g) (hfg : ∀ i j, ((f i).testBit j = true ∧ i < n) ↔ (g i).testBit j = true) (h : AHeap) :
    R E 69 [.agg (relL n f), .agg (relL n g)] h = some ([.c (.bool true)], h) := by
  refine Same_R hE hn (fun i _ => ?_) h
  by_cases hi : i < n
  · rw [if_pos hi]
    refine eq_of_bits (hf i) (hg i) fun j _ => ?_
    rw [Bool.eq_iff_iff, ← hfg i j]
    exact ⟨fun q => ⟨q, hi⟩, fun q => q.1⟩
  · rw [if_neg hi]
    refine eq_of_bits (by omega) (hg i) fun j _ => ?_
    rw [Bool.eq_iff_iff, ← hfg i j, Nat.zero_testBit]
    exact ⟨fun q => (by cases q), fun q => absurd q.2 hi⟩

/-- Up to row i, place j. -/
def upto (i j a b : Nat) : Bool := decide (a < i) || (decide (a = i) && decide (b < j))

theorem cut_R (hE : jacquardlaw8_cut_In E) {n m : Nat} (hn : n ≤ 64) (hm : m ≤ 64) {f : Nat → Nat} (hf : Words f) (h : AHeap) :
    R E 70 [.agg (relL n f), .c (.int .i64 (m : Int))] h = some ([.agg (relL (min n m) (ACC (min n m) fun a b => (f a).testBit b))], h) := by
  refine R_intro hE.fn ?_
  have hc : AV.cells (.agg (relL n f)) = relL n f := rfl
  have hmin : (if (m : Int) < (n : Int) then (m : Int) else (n : Int)) = ((min n m : Nat) : Int) := by split <;> omega
  have hl1 : (h ++ [some (Blk.mk true 0 (relL n f))]).length = h.length + 1 := by simp
  have hb1 : ∀ t, blk? ((h ++ [some (Blk.mk true 0 (relL n f))]) ++ t) h.length = some ⟨true, 0, relL n f⟩ := fun t => blk_old (blk_new h _) t
  have hb2 : ∀ c, blk? ((h ++ [some (Blk.mk true 0 (relL n f))]) ++ [some (Blk.mk true 0 c)]) (h ++ [some (Blk.mk true 0 (relL n f))]).length = some ⟨true, 0, c⟩ := fun c => blk_new _ _
  have hset : ∀ c c', setBlk ((h ++ [some (Blk.mk true 0 (relL n f))]) ++ [some (Blk.mk true 0 c)]) (h ++ [some (Blk.mk true 0 (relL n f))]).length (some ⟨true, 0, c'⟩) = (h ++ [some (Blk.mk true 0 (relL n f))]) ++ [some (Blk.mk true 0 c')] := fun c c' => setBlk_last _ _ _
  have hK : Kp h.length h (h ++ [some (Blk.mk true 0 (relL n f))]) := Kp.app _ (Nat.le_refl _)
  rw [jacquardlaw8_cut_eq, hc, rdH_ok (blk_new h _) rfl, atK_ok (relL_zero _ _), asI_ok, hmin]
  generalize hH : h ++ [some (Blk.mk true 0 (relL n f))] = H at *
  have hr : min n m ≤ 64 := by omega
  have hrn : min n m ≤ n := by omega
  generalize min n m = r at *
  rw [rdH_ok (hb2 _) rfl, if_pos ⟨rfl, zero_len, by rw [zero_rel, splice_zero, relL_len]⟩, putH_ok (hb2 _) rfl, hset, zero_rel, splice_zero, relL_len, relL_len]
  have rd2 : ∀ {α : Type} (u : Nat → Nat) (g : List Cell → Option α), rdH (H ++ [some ⟨true, 0, relL r u⟩]) H.length 65 g = g (relL r u) := fun u g => rdH_ok (hb2 _) (relL_len _ _)
  have e0 : relL r (fun _ => 0) = relL r (ACC r fun a b => upto 0 0 a b && (f a).testBit b) := (ACC_none hr fun a b _ _ => by simp [upto]).symm
  have outer : Lim (jacquardlaw8_cut_F2 (R E) Lim E.glob) (jacquardlaw8_cut_s2 h.length 65 0 H.length 65 0 ((0 : Nat) : Int) (relL 0 fun _ => 0) (H ++ [some ⟨true, 0, relL r (ACC r fun a b => upto 0 0 a b && (f a).testBit b)⟩])) = some (.exit 0, jacquardlaw8_cut_x2_1 H.length 65 0 (relL 0 fun _ => 0) (H ++ [some ⟨true, 0, relL r (ACC r fun a b => upto r 0 a b && (f a).testBit b)⟩])) := by
    refine Lim_count (fun i => jacquardlaw8_cut_s2 h.length 65 0 H.length 65 0 (i : Int) (relL 0 fun _ => 0) (H ++ [some ⟨true, 0, relL r (ACC r fun a b => upto i 0 a b && (f a).testBit b)⟩])) 0 r (by omega) (fun i _ hi => ?_) (Lim_exit ?_)
    · have inner : Lim (jacquardlaw8_cut_F1 (R E) Lim E.glob) (jacquardlaw8_cut_s1 h.length 65 0 H.length 65 0 i ((0 : Nat) : Int) (relL 0 fun _ => 0) (H ++ [some ⟨true, 0, relL r (ACC r fun a b => upto i 0 a b && (f a).testBit b)⟩])) = some (.exit 2, jacquardlaw8_cut_x1_3 h.length 65 0 H.length 65 0 i (relL 0 fun _ => 0) (H ++ [some ⟨true, 0, relL r (ACC r fun a b => upto i r a b && (f a).testBit b)⟩])) := by
        refine Lim_count (fun j => jacquardlaw8_cut_s1 h.length 65 0 H.length 65 0 i (j : Int) (relL 0 fun _ => 0) (H ++ [some ⟨true, 0, relL r (ACC r fun a b => upto i j a b && (f a).testBit b)⟩])) 0 r (by omega) (fun j _ hj => ?_) (Lim_exit ?_)
        · rw [jacquardlaw8_cut_r1, rd2, atK_ok (i := 0 + 0) (relL_zero _ _), asI_ok, if_pos (by simp; omega), refHas_R hE.c7 hf (by omega) (by omega) (hb1 _), c1_ok, asB_ok]
          cases hb : (f i).testBit j with
          | true =>
            have e : relL r (addR r (ACC r fun a b => upto i j a b && (f a).testBit b) (i : Int) (j : Int)) = relL r (ACC r fun a b => upto i (j + 1) a b && (f a).testBit b) := by
              refine ACC_add hr hi hj fun a b _ _ => ?_
              rw [Bool.eq_iff_iff]
              simp only [upto, Bool.and_eq_true, Bool.or_eq_true, decide_eq_true_eq]
              constructor
              · rintro ⟨q1 | ⟨q1, q2⟩, q3⟩
                · exact .inl ⟨.inl q1, q3⟩
                · by_cases q4 : b = j
                  · exact .inr ⟨q1, q4⟩
                  · exact .inl ⟨.inr ⟨q1, by omega⟩, q3⟩
              · rintro (⟨q1 | ⟨q1, q2⟩, q3⟩ | ⟨rfl, rfl⟩)
                · exact ⟨.inl q1, q3⟩
                · exact ⟨.inr ⟨q1, by omega⟩, q3⟩
                · exact ⟨.inr ⟨rfl, by omega⟩, hb⟩
            rw [if_pos rfl, refAdd_R hE.c13 hr (w_ACC _ _) (by rw [inR_nat]; simpa using hi) (by rw [inR_nat]; simpa using hj) (hb2 _), c0_ok, hset, e, g_succ (by omega)]
          | false =>
            have e : relL r (ACC r fun a b => upto i j a b && (f a).testBit b) = relL r (ACC r fun a b => upto i (j + 1) a b && (f a).testBit b) := by
              refine ACC_eq hr fun a b _ _ => ?_
              rw [Bool.eq_iff_iff]
              simp only [upto, Bool.and_eq_true, Bool.or_eq_true, decide_eq_true_eq]
              constructor
              · rintro ⟨q1 | ⟨q1, q2⟩, q3⟩
                · exact ⟨.inl q1, q3⟩
                · exact ⟨.inr ⟨q1, by omega⟩, q3⟩
              · rintro ⟨q1 | ⟨q1, q2⟩, q3⟩
                · exact ⟨.inl q1, q3⟩
                · refine ⟨.inr ⟨q1, ?_⟩, q3⟩
                  by_cases q4 : b = j
                  · rw [q1, q4, hb] at q3; cases q3
                  · omega
            rw [if_neg (by simp), e, g_succ (by omega)]
        · rw [jacquardlaw8_cut_r1, rd2, atK_ok (i := 0 + 0) (relL_zero _ _), asI_ok, if_neg (by simp)]
      have e : relL r (ACC r fun a b => upto i r a b && (f a).testBit b) = relL r (ACC r fun a b => upto (i + 1) 0 a b && (f a).testBit b) := by
        refine ACC_eq hr fun a b ha hb => ?_
        congr 1
        rw [Bool.eq_iff_iff]
        simp only [upto, Bool.and_eq_true, Bool.or_eq_true, decide_eq_true_eq]
        omega
      rw [jacquardlaw8_cut_r2, rd2, atK_ok (i := 0 + 0) (relL_zero _ _), asI_ok, if_pos (by simp; omega), show (0 : Int) = ((0 : Nat) : Int) from rfl, inner, bind_ok, jacquardlaw8_cut_e1_3, g_succ (by omega), e]
    · rw [jacquardlaw8_cut_r2, rd2, atK_ok (i := 0 + 0) (relL_zero _ _), asI_ok, if_neg (by simp)]
  have e1 : relL r (ACC r fun a b => upto r 0 a b && (f a).testBit b) = relL r (ACC r fun a b => (f a).testBit b) := ACC_eq hr fun a b ha _ => by
    rw [show upto r 0 a b = true by simp [upto, ha], Bool.true_and]
  rw [e1] at outer
  rw [show (0 : Int) = ((0 : Nat) : Int) from rfl, e0, outer, bind_ok, jacquardlaw8_cut_e2_1, rd2]
  simp only [relL_len, and_self, if_true]
  exact finish_gc (hK.trans (Kp.app _ (by omega))) (by simp [avOk_rel])

end Jq

/- Programs: made normal, begun, gone on. -/
namespace Jq
open Go

section
variable {E : Env}

theorem rdL {α : Type} {h : AHeap} {k : Nat} {l : Lcl} (hk : blk? h k = some ⟨true, 0, l.cs⟩) {F : List Cell → Option α} : rdH h k 5 F = F l.cs := rdH_ok hk rfl
theorem lcl_pc {α : Type} {l : Lcl} {f : Cell → Option α} : atK l.cs 0 f = f (.int .i64 l.pc) := rfl
theorem lcl_pc' {α : Type} {l : Lcl} {f : Cell → Option α} : atK l.cs (0 + 0) f = f (.int .i64 l.pc) := rfl
theorem lcl_setpc {l : Lcl} {v : Int} : l.cs.set 0 (.int .i64 v) = ({ l with pc := v } : Lcl).cs := rfl
theorem lcl_setpc' {l : Lcl} {v : Int} : l.cs.set (0 + 0) (.int .i64 v) = ({ l with pc := v } : Lcl).cs := rfl
theorem ins_kind {α : Type} {i : Ins} {f : Cell → Option α} : atK i.cs 0 f = f (.int .i64 i.kind) := rfl
theorem ins_reg {α : Type} {i : Ins} {f : Cell → Option α} : atK i.cs 1 f = f (.int .i64 i.reg) := rfl
theorem ins_loc {α : Type} {i : Ins} {f : Cell → Option α} : atK i.cs 2 f = f (.int .i64 i.loc) := rfl
theorem ins_op {α : Type} {i : Ins} {f : Cell → Option α} : atK i.cs 5 f = f (.int .i64 i.op) := rfl
theorem ins_n {α : Type} {i : Ins} {f : Cell → Option α} : atK i.cs 8 f = f (.int .i64 i.n) := rfl
theorem ins_a {i : Ins} : (i.cs.drop 3).take 2 = i.a.cs := rfl
theorem ins_b {i : Ins} : (i.cs.drop 6).take 2 = i.b.cs := rfl

theorem avOk_lcl (m : Nat) (l : Lcl) : avOk m (.agg l.cs) = true := by simp [avOk, AV.cells, Lcl.cs, idOk]

theorem normal_round (hE : prog_normal_In E) {x : Cell} {code : List Ins} {h : AHeap} (hlen : code.length < 4000000000000000000) (z : List Cell) (l : Lcl) (hx : SlAt (h ++ [some ⟨true, 0, l.cs⟩]) x 9 (codeC code) code.length) :
    prog_normal_F1 (R E) Lim E.glob (prog_normal_s1 x h.length 5 0 z (h ++ [some ⟨true, 0, l.cs⟩])) = match stepI code l with
      | some l' => some (.normal, prog_normal_s1 x h.length 5 0 z (h ++ [some ⟨true, 0, l'.cs⟩]))
      | none => if 0 ≤ l.pc ∧ l.pc < code.length then (if z.length = 5 then some (.ret, prog_normal_x1_0 l.cs (h ++ [some ⟨true, 0, l.cs⟩])) else none) else some (.exit 0, prog_normal_x1_1 h.length 5 0 z (h ++ [some ⟨true, 0, l.cs⟩])) := by
  have hb : ∀ l : Lcl, blk? (h ++ [some ⟨true, 0, l.cs⟩]) h.length = some ⟨true, 0, l.cs⟩ := fun l => blk_new _ _
  rw [prog_normal_r1, rdL (hb l), lcl_pc', asI_ok]
  by_cases h0 : 0 ≤ l.pc
  · rw [show decide (l.pc ≥ 0) = true from decide_eq_true h0, scK_ok, rdL (hb l), lcl_pc', asI_ok, hx.len, bind_ok]
    dsimp only
    by_cases h1 : l.pc < code.length
    · obtain ⟨p, hp⟩ : ∃ p : Nat, l.pc = (p : Int) := ⟨l.pc.toNat, by omega⟩
      have hpl : p < code.length := by omega
      have hq : code[p]? = some code[p] := List.getElem?_eq_getElem hpl
      generalize code[p] = i at hq
      obtain ⟨off, cs', hG0, hle, hcs⟩ := hx.insG hq
      have hG : ∀ {α : Type} (G : Nat → List Cell → Option α), (idxSK 9 x l.pc fun k N o => rdH (h ++ [some ⟨true, 0, l.cs⟩]) k N fun l => G o l) = G off cs' := by intro α G; rw [hp]; exact hG0 G
      have hst : stepI code l = if i.kind = 5 then
          some { (l.setR i.reg ((doV i.op (opV i.a l) (opV i.b l)).getD (opV i.a l))) with pc := (l.setR i.reg ((doV i.op (opV i.a l) (opV i.b l)).getD (opV i.a l))).pc + 1 }
        else if i.kind = 6 then (if opV i.a l = opV i.b l then some { l with pc := l.pc + min (max i.n 0) code.length + 1 } else some { l with pc := l.pc + 1 }) else none := by
        unfold stepI
        rw [if_pos h0, show l.pc.toNat = p by omega, hq]
      rw [hst, if_pos (decide_eq_true h1), rdL (hb l), lcl_pc', asI_ok, hG, if_pos hle, hcs, if_pos ⟨rfl, rfl, rfl⟩, if_pos (show 3 + 2 ≤ i.cs.length by rw [Ins.len]; omega), rdL (hb l), if_pos ⟨rfl, rfl⟩, ins_a, Value_R hE.c108, qh_ok, c1_ok, asI_ok, if_pos (show 6 + 2 ≤ i.cs.length by rw [Ins.len]; omega), rdL (hb l), if_pos ⟨rfl, rfl⟩, ins_b, Value_R hE.c108, qh_ok, c1_ok, asI_ok, ins_kind, asI_ok]
      by_cases k5 : i.kind = 5
      · rw [if_pos (by rw [k5]; rfl), if_pos k5, ins_op, asI_ok, Do_R hE.c125, c2_ok, asI_ok, asB_ok]
        cases hd : doV i.op (opV i.a l) (opV i.b l) with
        | some v =>
          have hpc := l.setR_pc i.reg v
          rw [show (some v : Option Int).isSome = true from rfl, if_pos rfl, ins_reg, asI_ok, set_R hE.c124 _ _ (hb l), setBlk_last, c0_ok, rdL (hb _), lcl_pc', asI_ok, rdL (hb _), if_pos (by rw [Lcl.len]; omega), lcl_setpc', putH_ok (hb _) rfl, setBlk_last]
          rw [show (some v : Option Int).getD 0 = v from rfl, show (some v : Option Int).getD (opV i.a l) = v from rfl, hpc, g_wrap_i64 (x := l.pc + 1) (by omega) (by omega)]
        | none =>
          have hpc := l.setR_pc i.reg (opV i.a l)
          rw [show (none : Option Int).isSome = false from rfl, if_neg (by simp), ins_reg, asI_ok, set_R hE.c124 _ _ (hb l), setBlk_last, c0_ok, rdL (hb _), lcl_pc', asI_ok, rdL (hb _), if_pos (by rw [Lcl.len]; omega), lcl_setpc', putH_ok (hb _) rfl, setBlk_last]
          rw [show (none : Option Int).getD (opV i.a l) = opV i.a l from rfl, hpc, g_wrap_i64 (x := l.pc + 1) (by omega) (by omega)]
      · rw [if_neg (by rw [beq_iff_eq]; exact k5), if_neg k5]
        by_cases k6 : i.kind = 6
        · rw [if_pos (by rw [k6]; rfl), if_pos k6]
          by_cases hab : opV i.a l = opV i.b l
          · have hv : (if (code.length : Int) < (if 0 > i.n then 0 else i.n) then (code.length : Int) else (if 0 > i.n then 0 else i.n)) = min (max i.n 0) code.length := by
              split <;> split at * <;> omega
            rw [if_pos (by rw [hab]; exact beq_self_eq_true _), if_pos hab, rdL (hb l), lcl_pc', asI_ok, ins_n, asI_ok, hx.len]
            dsimp only
            rw [hv, rdL (hb l), if_pos (by rw [Lcl.len]; omega), lcl_setpc', putH_ok (hb _) rfl, setBlk_last, rdL (hb _), lcl_pc', asI_ok, rdL (hb _), if_pos (by rw [Lcl.len]; omega), lcl_setpc', putH_ok (hb _) rfl, setBlk_last]
            dsimp only
            rw [g_wrap_i64 (x := l.pc + min (max i.n 0) code.length) (by omega) (by omega), g_wrap_i64 (x := l.pc + min (max i.n 0) code.length + 1) (by omega) (by omega)]
          · rw [if_neg (by rw [beq_iff_eq]; exact hab), if_neg hab, rdL (hb l), lcl_pc', asI_ok, rdL (hb l), if_pos (by rw [Lcl.len]; omega), lcl_setpc', putH_ok (hb _) rfl, setBlk_last, g_wrap_i64 (x := l.pc + 1) (by omega) (by omega)]
        · rw [if_neg (by rw [beq_iff_eq]; exact k6), if_neg k6, rdL (hb l), if_pos ⟨rfl, rfl⟩]
          dsimp only
          rw [if_pos (show 0 ≤ l.pc ∧ l.pc < code.length from ⟨h0, h1⟩)]
          by_cases hz : z.length = 5
          · rw [if_pos ⟨rfl, hz, rfl⟩, if_pos hz]
          · rw [if_neg (fun q => hz q.2.1), if_neg hz]
    · have hst : stepI code l = none := by
        unfold stepI
        rw [if_pos h0, List.getElem?_eq_none (by omega)]
      rw [hst, if_neg (by simpa using h1)]
      dsimp only
      rw [if_neg (fun q => h1 q.2)]
  · have hst : stepI code l = none := by unfold stepI; rw [if_neg h0]
    rw [hst, show decide (l.pc ≥ 0) = false from decide_eq_false h0, scK_ft, if_neg (by simp)]
    dsimp only
    rw [if_neg (fun q => h0 q.1)]

theorem normal_R (hE : prog_normal_In E) {x : Cell} {code : List Ins} {h : AHeap} (hlen : code.length < 4000000000000000000) (hx : SlAt h x 9 (codeC code) code.length) (hlow : Low h.length x) (l : Lcl) :
    R E 114 [.c x, .agg l.cs] h = some ([.agg (normL code l).cs], h) := by
  refine R_intro hE.fn ?_
  have hx' : ∀ l : Lcl, SlAt (h ++ [some ⟨true, 0, l.cs⟩]) x 9 (codeC code) code.length := fun l => hx.keep hlow (Kp.app _ (Nat.le_refl _))
  have hb : ∀ l : Lcl, blk? (h ++ [some ⟨true, 0, l.cs⟩]) h.length = some ⟨true, 0, l.cs⟩ := fun l => blk_new _ _
  have loop : ∀ (k : Nat) (l : Lcl), (0 ≤ l.pc → (code.length : Int) ≤ l.pc + k) → (Lim (prog_normal_F1 (R E) Lim E.glob) (prog_normal_s1 x h.length 5 0 Lcl.zero.cs (h ++ [some ⟨true, 0, l.cs⟩]))).bind (fun p => prog_normal_k3 (R E) Lim E.glob h p.1 p.2) = some ([.agg (nrm code k l).cs], h) := by
    intro k
    have stop : ∀ l : Lcl, stepI code l = none → (Lim (prog_normal_F1 (R E) Lim E.glob) (prog_normal_s1 x h.length 5 0 Lcl.zero.cs (h ++ [some ⟨true, 0, l.cs⟩]))).bind (fun p => prog_normal_k3 (R E) Lim E.glob h p.1 p.2) = some ([.agg l.cs], h) := by
      intro l hs
      have hr := normal_round hE hlen Lcl.zero.cs l (hx' l)
      rw [hs] at hr
      dsimp only at hr
      have fin : finish true h [.agg l.cs] (h ++ [some ⟨true, 0, l.cs⟩]) = some ([.agg l.cs], h) := finish_gc (Kp.app _ (Nat.le_refl _)) (by simp [avOk_lcl])
      split at hr
      · rw [if_pos (show Lcl.zero.cs.length = 5 from rfl)] at hr
        rw [Lim_ret hr, bind_ok, prog_normal_e1_0, if_pos ⟨rfl, rfl⟩, fin]
      · rw [Lim_exit hr, bind_ok, prog_normal_e1_1, rdL (hb l), if_pos ⟨rfl, rfl⟩, if_pos ⟨rfl, rfl, rfl⟩, if_pos ⟨rfl, rfl⟩, fin]
    induction k with
    | zero =>
      intro l hk
      rw [nrm]
      refine stop l ?_
      cases hs : stepI code l with
      | none => rfl
      | some l' => have := stepI_pc hs; have := hk this.1; omega
    | succ k ih =>
      intro l hk
      rw [nrm]
      cases hs : stepI code l with
      | none => exact stop l hs
      | some l' =>
        have hr := normal_round hE hlen Lcl.zero.cs l (hx' l)
        rw [hs] at hr
        have h3 := stepI_pc hs
        have := ih l' (fun _ => by have := hk h3.1; omega)
        cases hL : Lim (prog_normal_F1 (R E) Lim E.glob) (prog_normal_s1 x h.length 5 0 Lcl.zero.cs (h ++ [some ⟨true, 0, l'.cs⟩])) with
        | none => rw [hL] at this; cases this
        | some p => rw [Lim_next hr hL]; rw [hL] at this; exact this
  have hc : AV.cells (.agg l.cs) = l.cs := rfl
  rw [prog_normal_eq, hc, Lcl.len]
  exact loop code.length l (fun _ => by omega)

/-- A program, made of its parts. -/
structure PProg where
  locs : List Int
  init : List Int
  thr : List (List Ins)

/-- A program lies there. -/
def ProgAt (h : AHeap) (cs : List Cell) (P : PProg) : Prop :=
  ∃ a b c ts, cs = [a, b, c] ∧ (SlAt h a 1 (intC .u8 P.locs) P.locs.length ∧ Low h.length a) ∧ (SlAt h b 1 (intC .i64 P.init) P.init.length ∧ Low h.length b) ∧ (SlAt h c 1 ts P.thr.length ∧ Low h.length c) ∧
    ∀ (t : Nat) (code : List Ins), P.thr[t]? = some code → ∃ x : Cell, ts[t]? = some x ∧ SlAt h x 9 (codeC code) code.length ∧ Low h.length x

theorem ProgAt.len {h : AHeap} {cs : List Cell} {P : PProg} (p : ProgAt h cs P) : cs.length = 3 := by
  obtain ⟨a, b, c, ts, rfl, _⟩ := p; rfl

theorem ProgAt.keep {h h' : AHeap} {cs : List Cell} {P : PProg} (p : ProgAt h cs P) (hk : Kp h.length h h') : ProgAt h' cs P := by
  obtain ⟨a, b, c, ts, e, ⟨a1, a2⟩, ⟨b1, b2⟩, ⟨c1, c2⟩, ht⟩ := p
  exact ⟨a, b, c, ts, e, ⟨a1.keep a2 hk, Low_mono hk.1 a2⟩, ⟨b1.keep b2 hk, Low_mono hk.1 b2⟩, ⟨c1.keep c2 hk, Low_mono hk.1 c2⟩, fun t code h1 => by
    obtain ⟨x, x1, x2, x3⟩ := ht t code h1
    exact ⟨x, x1, x2.keep x3 hk, Low_mono hk.1 x3⟩⟩

/-- No thread is too long. -/
def PProg.fits (P : PProg) : Prop := P.thr.length < 4000000000000000000 ∧ ∀ code ∈ P.thr, code.length < 4000000000000000000

/-- A thread's instructions, or none. -/
def PProg.code (P : PProg) (t : Int) : List Ins := if 0 ≤ t then P.thr.getD t.toNat [] else []

theorem PProg.code_fits {P : PProg} (hf : P.fits) (t : Int) : (P.code t).length < 4000000000000000000 := by
  unfold PProg.code
  split
  · rw [List.getD_eq_getElem?_getD]
    cases h : P.thr[t.toNat]? with
    | none => show (0 : Nat) < _; omega
    | some c => exact hf.2 c (List.mem_of_getElem? h)
  · show (0 : Nat) < _; omega

theorem thread_R (hE : prog_thread_In E) {cs : List Cell} {P : PProg} {h : AHeap} (p : ProgAt h cs P) (t : Int) :
    ∃ x, R E 113 [.agg cs, .c (.int .i64 t)] h = some ([.c x], h) ∧ SlAt h x 9 (codeC (P.code t)) (P.code t).length ∧ Low h.length x := by
  obtain ⟨a, b, c, ts, rfl, _, _, ⟨hc, hcl⟩, ht⟩ := p
  have a2 : ∀ {α : Type} (f : Cell → Option α), atK [a, b, c] 2 f = f c := fun _ => rfl
  by_cases h0 : 0 ≤ t
  · by_cases h1 : t.toNat < P.thr.length
    · have hg : P.thr[t.toNat]? = some P.thr[t.toNat] := List.getElem?_eq_getElem h1
      generalize P.thr[t.toNat] = code at hg
      obtain ⟨x, x1, x2, x3⟩ := ht _ _ hg
      have hcode : P.code t = code := by unfold PProg.code; rw [if_pos h0, List.getD_eq_getElem?_getD, hg]; rfl
      rw [hcode]
      refine ⟨x, R_intro hE.fn ?_, x2, x3⟩
      have hti : t = ((t.toNat : Nat) : Int) := by omega
      rw [prog_thread_eq, show decide (t < 0) = false from decide_eq_false (by omega), scK_ok, a2, hc.len, show decide (t ≥ (P.thr.length : Int)) = false from decide_eq_false (by omega), bind_ok]
      dsimp only
      rw [if_neg (by simp), a2, hc.getAt t.toNat hti h1 x1]
    · have hcode : P.code t = [] := by unfold PProg.code; rw [if_pos h0, List.getD_eq_getElem?_getD, List.getElem?_eq_none (by omega)]; rfl
      rw [hcode]
      refine ⟨.nils, R_intro hE.fn ?_, ⟨rfl, .inl ⟨rfl, rfl⟩⟩, trivial⟩
      rw [prog_thread_eq, show decide (t < 0) = false from decide_eq_false (by omega), scK_ok, a2, hc.len, show decide (t ≥ (P.thr.length : Int)) = true from decide_eq_true (by omega), bind_ok]
      dsimp only
      rw [if_pos rfl]
  · have hcode : P.code t = [] := by unfold PProg.code; rw [if_neg h0]
    rw [hcode]
    refine ⟨.nils, R_intro hE.fn ?_, ⟨rfl, .inl ⟨rfl, rfl⟩⟩, trivial⟩
    rw [prog_thread_eq, show decide (t < 0) = true from decide_eq_true (by omega), scK_tf, if_pos rfl]

def startL (P : PProg) (t : Int) : Lcl := normL (P.code t) Lcl.zero

theorem PStart_R (hE : prog_Start_In E) {cs : List Cell} {P : PProg} {h : AHeap} (hf : P.fits) (p : ProgAt h cs P) (t : Int) :
    R E 94 [.agg cs, .c (.int .i64 t)] h = some ([.agg (startL P t).cs], h) := by
  refine R_intro hE.fn ?_
  obtain ⟨x, hr, hx, hl⟩ := thread_R hE.c113 p t
  rw [prog_Start_eq, if_pos ⟨rfl, p.len⟩, hr, c1_ok, asC_ok, zero5, normal_R hE.c114 (PProg.code_fits hf t) hx hl, c1_ok, asA_ok, if_pos ⟨rfl, rfl, rfl⟩, if_pos ⟨rfl, rfl⟩]
  rfl

/-- The instruction that comes, if one comes that touches memory. -/
def nextI (code : List Ins) (l : Lcl) : Option Ins :=
  if 0 ≤ l.pc then match code[l.pc.toNat]? with
    | none => none
    | some i => if 1 ≤ i.kind ∧ i.kind ≤ 4 then some i else none
  else none

theorem nextI_kind {code : List Ins} {l : Lcl} {i : Ins} (h : nextI code l = some i) : 0 ≤ l.pc ∧ l.pc < code.length ∧ code[l.pc.toNat]? = some i ∧ 1 ≤ i.kind ∧ i.kind ≤ 4 := by
  unfold nextI at h
  split at h
  · rename_i h0
    cases hi : code[l.pc.toNat]? with
    | none => rw [hi] at h; cases h
    | some j =>
      rw [hi] at h
      simp only at h
      split at h
      · cases h
        have := getI_lt hi
        rename_i hk
        exact ⟨h0, by omega, rfl, hk⟩
      · cases h
  · cases h

theorem PNext_R (hE : prog_Next_In E) {cs : List Cell} {P : PProg} {h : AHeap} (p : ProgAt h cs P) (t : Int) (l : Lcl) :
    R E 105 [.agg cs, .c (.int .i64 t), .agg l.cs] h = some ([.agg ((nextI (P.code t) l).getD Ins.zero).cs, .c (.bool (nextI (P.code t) l).isSome)], h) := by
  refine R_intro hE.fn ?_
  obtain ⟨x, hr, hx, hlo⟩ := thread_R hE.c113 p t
  generalize P.code t = code at *
  rw [prog_Next_eq, if_pos ⟨rfl, p.len⟩, hr, c1_ok, asC_ok, lcl_pc, asI_ok]
  by_cases h0 : 0 ≤ l.pc
  · rw [show decide (l.pc < 0) = false from decide_eq_false (by omega), scK_ok, lcl_pc, asI_ok, hx.len, bind_ok]
    dsimp only
    by_cases h1 : l.pc < code.length
    · obtain ⟨q, hq⟩ : ∃ q : Nat, l.pc = (q : Int) := ⟨l.pc.toNat, by omega⟩
      have hql : q < code.length := by omega
      have hg : code[q]? = some code[q] := List.getElem?_eq_getElem hql
      generalize code[q] = i at hg
      obtain ⟨off, cs', hG0, hle, hcs⟩ := hx.insG hg
      have hG : ∀ {α : Type} (G : Nat → List Cell → Option α), (idxSK 9 x l.pc fun k N o => rdH h k N fun l => G o l) = G off cs' := by intro α G; rw [hq]; exact hG0 G
      have hn : nextI code l = if 1 ≤ i.kind ∧ i.kind ≤ 4 then some i else none := by
        unfold nextI
        rw [if_pos h0, show l.pc.toNat = q by omega, hg]
      rw [show decide (l.pc ≥ (code.length : Int)) = false from decide_eq_false (by omega), if_neg (by simp), lcl_pc, asI_ok, hG, if_pos hle, hcs, if_pos ⟨rfl, rfl, rfl⟩, ins_kind, asI_ok, ins_kind, asI_ok, scK_or, hn]
      by_cases hk : 1 ≤ i.kind ∧ i.kind ≤ 4
      · rw [if_neg (by simp; omega), if_pos hk, if_pos ⟨rfl, rfl⟩, if_pos ⟨rfl, rfl, rfl⟩, if_pos ⟨rfl, rfl⟩]; rfl
      · rw [if_pos (by simp; omega), if_neg hk, if_pos ⟨rfl, rfl, rfl⟩, if_pos ⟨rfl, rfl⟩]; rfl
    · have hn : nextI code l = none := by unfold nextI; rw [if_pos h0, List.getElem?_eq_none (by omega)]
      rw [show decide (l.pc ≥ (code.length : Int)) = true from decide_eq_true (by omega), if_pos rfl, hn, if_pos ⟨rfl, rfl, rfl⟩, if_pos ⟨rfl, rfl⟩]; rfl
  · have hn : nextI code l = none := by unfold nextI; rw [if_neg h0]
    rw [show decide (l.pc < 0) = true from decide_eq_true (by omega), scK_tf, if_pos rfl, hn, if_pos ⟨rfl, rfl, rfl⟩, if_pos ⟨rfl, rfl⟩]; rfl

/-- Where a thread is behind an instruction that reads a value. -/
def afterL (code : List Ins) (l : Lcl) (v : Int) : Lcl := match nextI code l with
  | none => l
  | some i => normL code { (if i.kind = 2 ∨ i.kind = 4 then l.setR i.reg v else l) with pc := l.pc + 1 }

theorem PAfter_R (hE : prog_After_In E) {cs : List Cell} {P : PProg} {h : AHeap} (hf : P.fits) (p : ProgAt h cs P) (t : Int) (l : Lcl) (v : Int) :
    R E 106 [.agg cs, .c (.int .i64 t), .agg l.cs, .c (.int .i64 v)] h = some ([.agg (afterL (P.code t) l v).cs], h) := by
  refine R_intro hE.fn ?_
  have hK : ∀ b, Kp h.length h (h ++ [some b]) := fun b => Kp.app _ (Nat.le_refl _)
  have p' : ∀ b, ProgAt (h ++ [some b]) cs P := fun b => p.keep (hK b)
  have hb : ∀ l : Lcl, blk? (h ++ [some ⟨true, 0, l.cs⟩]) h.length = some ⟨true, 0, l.cs⟩ := fun l => blk_new _ _
  have fin : ∀ (m l : Lcl), finish true h [.agg m.cs] (h ++ [some ⟨true, 0, l.cs⟩]) = some ([.agg m.cs], h) := fun m l => finish_gc (hK _) (by simp [avOk_lcl])
  have hc : AV.cells (.agg l.cs) = l.cs := rfl
  have hfit := PProg.code_fits hf t
  rw [prog_After_eq, if_pos ⟨rfl, p.len⟩, hc, Lcl.len, rdL (hb l), if_pos ⟨rfl, rfl⟩, PNext_R hE.c105 (p' _), c2_ok, asA_ok, asB_ok, if_pos ⟨rfl, rfl, rfl⟩]
  unfold afterL
  cases hn : nextI (P.code t) l with
  | none =>
    rw [show (none : Option Ins).isSome = false from rfl, if_pos (show (!false) = true from rfl), rdL (hb l), if_pos ⟨rfl, rfl⟩, if_pos ⟨rfl, rfl, rfl⟩, if_pos ⟨rfl, rfl⟩, fin]
  | some i =>
    obtain ⟨n0, n1, n2, n3, n4⟩ := nextI_kind hn
    rw [show (some i : Option Ins).isSome = true from rfl, if_neg (by simp), show (some i : Option Ins).getD Ins.zero = i from rfl, ins_kind, asI_ok, ins_kind, asI_ok, scK_or]
    by_cases hk : i.kind = 2 ∨ i.kind = 4
    · have hpc := l.setR_pc i.reg v
      obtain ⟨x, hr, hx, hlo⟩ := thread_R hE.c113 (p' ⟨true, 0, ({ (l.setR i.reg v) with pc := l.pc + 1 } : Lcl).cs⟩) t
      rw [if_pos (by rw [Bool.or_eq_true, beq_iff_eq, beq_iff_eq]; exact hk), ins_reg, asI_ok, set_R hE.c124 _ _ (hb l), setBlk_last, c0_ok, rdL (hb _), lcl_pc, asI_ok, rdL (hb _), if_pos (by rw [Lcl.len]; omega), lcl_setpc, putH_ok (hb _) rfl, setBlk_last, if_pos ⟨rfl, p.len⟩, hpc, g_wrap_i64 (x := l.pc + 1) (by omega) (by omega), hr, qh_ok, c1_ok, asC_ok, rdL (hb _), if_pos ⟨rfl, rfl⟩, normal_R hE.c114 hfit hx hlo, qh_ok, c1_ok, asA_ok, if_pos ⟨rfl, rfl, rfl⟩, if_pos ⟨rfl, rfl⟩, fin]
      dsimp only
      rw [if_pos hk]
    · obtain ⟨x, hr, hx, hlo⟩ := thread_R hE.c113 (p' ⟨true, 0, ({ l with pc := l.pc + 1 } : Lcl).cs⟩) t
      rw [if_neg (by rw [Bool.or_eq_true, beq_iff_eq, beq_iff_eq]; exact hk), rdL (hb _), lcl_pc, asI_ok, rdL (hb _), if_pos (by rw [Lcl.len]; omega), lcl_setpc, putH_ok (hb _) rfl, setBlk_last, if_pos ⟨rfl, p.len⟩, g_wrap_i64 (x := l.pc + 1) (by omega) (by omega), hr, qh_ok, c1_ok, asC_ok, rdL (hb _), if_pos ⟨rfl, rfl⟩, normal_R hE.c114 hfit hx hlo, qh_ok, c1_ok, asA_ok, if_pos ⟨rfl, rfl, rfl⟩, if_pos ⟨rfl, rfl⟩, fin]
      dsimp only
      rw [if_neg hk]

end
end Jq

namespace Jq
open Go

/- jacquard/jacquardref2.Do: 93 -/
set_option maxRecDepth 100000 in
theorem jacquardref2_Do_eq (C : CallF) (L : LoopF) (G : Glo) (a0 : Int) (a1 : Int) (a2 : Int) (h0 : AHeap) :
    jacquardref2_Do.body C L G [(.c (.int .i64 a0)), (.c (.int .i64 a1)), (.c (.int .i64 a2))] h0 =
    if (a0 == 1) = true then let v_1 : Int := (G.wrap .u64 ((G.wrap .u64 a1) + (G.wrap .u64 a2))); some ([(.c (.int .i64 (G.wrap .i64 v_1))), (.c (.bool true))], h0) else if (a0 == 2) = true then let v_2 : Int := (G.wrap .u64 ((G.wrap .u64 a1) - (G.wrap .u64 a2))); some ([(.c (.int .i64 (G.wrap .i64 v_2))), (.c (.bool true))], h0) else if (a0 == 3) = true then let v_3 : Int := (G.wrap .u64 ((G.wrap .u64 a1) * (G.wrap .u64 a2))); some ([(.c (.int .i64 (G.wrap .i64 v_3))), (.c (.bool true))], h0) else if (a0 == 4) = true then some ([(.c (.int .i64 (G.band .i64 a1 a2))), (.c (.bool true))], h0) else if (a0 == 5) = true then some ([(.c (.int .i64 (G.bor .i64 a1 a2))), (.c (.bool true))], h0) else if (a0 == 6) = true then some ([(.c (.int .i64 (G.bxor .i64 a1 a2))), (.c (.bool true))], h0) else if (a0 == 7) = true then if (G.rem .u64 (G.wrap .u64 a2) 64) < 0 then none else let v_4 : Int := (G.shl .u64 (G.wrap .u64 a1) (G.rem .u64 (G.wrap .u64 a2) 64)); some ([(.c (.int .i64 (G.wrap .i64 v_4))), (.c (.bool true))], h0) else if (a0 == 8) = true then if (G.rem .u64 (G.wrap .u64 a2) 64) < 0 then none else let v_5 : Int := (G.shr .i64 a1 (G.rem .u64 (G.wrap .u64 a2) 64)); some ([(.c (.int .i64 v_5)), (.c (.bool true))], h0) else if (a0 == 9) = true then if (a1 == a2) = true then some ([(.c (.int .i64 1)), (.c (.bool true))], h0) else some ([(.c (.int .i64 0)), (.c (.bool true))], h0) else if (a0 == 10) = true then if (a1 != a2) = true then some ([(.c (.int .i64 1)), (.c (.bool true))], h0) else some ([(.c (.int .i64 0)), (.c (.bool true))], h0) else if (a0 == 11) = true then if (decide (a1 < a2)) = true then some ([(.c (.int .i64 1)), (.c (.bool true))], h0) else some ([(.c (.int .i64 0)), (.c (.bool true))], h0) else some ([(.c (.int .i64 0)), (.c (.bool false))], h0) := by kernel_rfl

/- jacquard/jacquardref2.Locs: 121 -/
def jacquardref2_Locs_k2 (C : CallF) (L : LoopF) (G : Glo) (h0 : AHeap) : Ex → St → Option (List AV × AHeap) :=
  kSeq (fun st => jacquardref2_Locs_p1.exec C L G st (jacquardref2_Locs.fin G h0)) (jacquardref2_Locs.fin G h0)
def jacquardref2_Locs_k3 (C : CallF) (L : LoopF) (G : Glo) (h0 : AHeap) : Ex → St → Option (List AV × AHeap) :=
  kBlk 0 (jacquardref2_Locs_k2 C L G h0)
def jacquardref2_Locs_s1 (a4 : Int) (s0 : List Cell) (s1 : List Cell) (h : AHeap) : St := ⟨[.top, .loc 0 0, .top, .loc 1 0, .v (.c (.int .i64 a4)), .top, .top, .top, .top, .top, .top, .top, .top, .top, .top, .top, .top, .top, .top, .top, .top, .top, .top, .top, .top, .top, .top, .top, .top, .top, .top, .top, .top, .top, .top, .top, .top, .top, .top, .top, .top, .top, .top, .top, .top, .top, .top, .top, .top, .top, .top, .top, .top, .top, .top, .top, .top, .top, .top, .top, .top, .top, .top, .top, .top, .top, .top, .top, .top, .top, .top, .top, .top, .top, .top, .top, .top, .top, .top, .top, .top, .top, .top, .top, .top, .top, .top, .top, .top, .top, .top, .top, .top, .top, .top, .top, .top, .top], [some s0, some s1], h⟩
def jacquardref2_Locs_F1 (C : CallF) (L : LoopF) (G : Glo) : St → Option (Ex × St) :=
  roundF (fun st f => jacquardref2_Locs_b1.exec C L G st f) [1, 3, 4] [0, 1] [(1, [1, 3], [0, 1])]
def jacquardref2_Locs_x1_1 (s0 : List Cell) (s1 : List Cell) (h : AHeap) : St := ⟨[.top, .loc 0 0, .top, .loc 1 0, .top, .top, .top, .top, .top, .top, .top, .top, .top, .top, .top, .top, .top, .top, .top, .top, .top, .top, .top, .top, .top, .top, .top, .top, .top, .top, .top, .top, .top, .top, .top, .top, .top, .top, .top, .top, .top, .top, .top, .top, .top, .top, .top, .top, .top, .top, .top, .top, .top, .top, .top, .top, .top, .top, .top, .top, .top, .top, .top, .top, .top, .top, .top, .top, .top, .top, .top, .top, .top, .top, .top, .top, .top, .top, .top, .top, .top, .top, .top, .top, .top, .top, .top, .top, .top, .top, .top, .top, .top, .top, .top, .top, .top, .top], [some s0, some s1], h⟩
def jacquardref2_Locs_k4 (C : CallF) (L : LoopF) (G : Glo) (h0 : AHeap) : Ex → St → Option (List AV × AHeap) :=
  kSeq (fun st => jacquardref2_Locs_p2.exec C L G st (jacquardref2_Locs.fin G h0)) (jacquardref2_Locs.fin G h0)
def jacquardref2_Locs_k5 (C : CallF) (L : LoopF) (G : Glo) (h0 : AHeap) : Ex → St → Option (List AV × AHeap) :=
  kBlk 2 (jacquardref2_Locs_k4 C L G h0)
def jacquardref2_Locs_s3 (a5 : Int) (s0 : List Cell) (s1 : List Cell) (h : AHeap) : St := ⟨[.top, .loc 0 0, .top, .loc 1 0, .top, .v (.c (.int .i64 a5)), .top, .top, .top, .top, .top, .top, .top, .top, .top, .top, .top, .top, .top, .top, .top, .top, .top, .top, .top, .top, .top, .top, .top, .top, .top, .top, .top, .top, .top, .top, .top, .top, .top, .top, .top, .top, .top, .top, .top, .top, .top, .top, .top, .top, .top, .top, .top, .top, .top, .top, .top, .top, .top, .top, .top, .top, .top, .top, .top, .top, .top, .top, .top, .top, .top, .top, .top, .top, .top, .top, .top, .top, .top, .top, .top, .top, .top, .top, .top, .top, .top, .top, .top, .top, .top, .top, .top, .top, .top, .top, .top, .top], [some s0, some s1], h⟩
def jacquardref2_Locs_F3 (C : CallF) (L : LoopF) (G : Glo) : St → Option (Ex × St) :=
  roundF (fun st f => jacquardref2_Locs_b3.exec C L G st f) [1, 3, 5] [0, 1] [(3, [1, 3], [0, 1])]
def jacquardref2_Locs_k6 (C : CallF) (L : LoopF) (G : Glo) : Ex → St → Option (Ex × St) :=
  kSeq (fun st => jacquardref2_Locs_p3.exec C L G st (kLoop [1, 3, 5] [0, 1] [(3, [1, 3], [0, 1])])) (kLoop [1, 3, 5] [0, 1] [(3, [1, 3], [0, 1])])
def jacquardref2_Locs_k7 (C : CallF) (L : LoopF) (G : Glo) : Ex → St → Option (Ex × St) :=
  kBlk 3 (jacquardref2_Locs_k6 C L G)
def jacquardref2_Locs_k8 (C : CallF) (L : LoopF) (G : Glo) : Ex → St → Option (Ex × St) :=
  kBlk 4 (jacquardref2_Locs_k7 C L G)
def jacquardref2_Locs_s2 (a5 : Int) (a6 : Int) (s0 : List Cell) (s1 : List Cell) (h : AHeap) : St := ⟨[.top, .loc 0 0, .top, .loc 1 0, .top, .v (.c (.int .i64 a5)), .v (.c (.int .i64 a6)), .top, .top, .top, .top, .top, .top, .top, .top, .top, .top, .top, .top, .top, .top, .top, .top, .top, .top, .top, .top, .top, .top, .top, .top, .top, .top, .top, .top, .top, .top, .top, .top, .top, .top, .top, .top, .top, .top, .top, .top, .top, .top, .top, .top, .top, .top, .top, .top, .top, .top, .top, .top, .top, .top, .top, .top, .top, .top, .top, .top, .top, .top, .top, .top, .top, .top, .top, .top, .top, .top, .top, .top, .top, .top, .top, .top, .top, .top, .top, .top, .top, .top, .top, .top, .top, .top, .top, .top, .top, .top, .top], [some s0, some s1], h⟩
def jacquardref2_Locs_F2 (C : CallF) (L : LoopF) (G : Glo) : St → Option (Ex × St) :=
  roundF (fun st f => jacquardref2_Locs_b2.exec C L G st f) [1, 3, 5, 6] [0, 1] [(5, [1, 3, 5], [0, 1])]
def jacquardref2_Locs_x2_5 (a5 : Int) (s0 : List Cell) (s1 : List Cell) (h : AHeap) : St := ⟨[.top, .loc 0 0, .top, .loc 1 0, .top, .v (.c (.int .i64 a5)), .top, .top, .top, .top, .top, .top, .top, .top, .top, .top, .top, .top, .top, .top, .top, .top, .top, .top, .top, .top, .top, .top, .top, .top, .top, .top, .top, .top, .top, .top, .top, .top, .top, .top, .top, .top, .top, .top, .top, .top, .top, .top, .top, .top, .top, .top, .top, .top, .top, .top, .top, .top, .top, .top, .top, .top, .top, .top, .top, .top, .top, .top, .top, .top, .top, .top, .top, .top, .top, .top, .top, .top, .top, .top, .top, .top, .top, .top, .top, .top, .top, .top, .top, .top, .top, .top, .top, .top, .top, .top, .top, .top], [some s0, some s1], h⟩
def jacquardref2_Locs_x3_3 (s0 : List Cell) (s1 : List Cell) (h : AHeap) : St := ⟨[.top, .loc 0 0, .top, .loc 1 0, .top, .top, .top, .top, .top, .top, .top, .top, .top, .top, .top, .top, .top, .top, .top, .top, .top, .top, .top, .top, .top, .top, .top, .top, .top, .top, .top, .top, .top, .top, .top, .top, .top, .top, .top, .top, .top, .top, .top, .top, .top, .top, .top, .top, .top, .top, .top, .top, .top, .top, .top, .top, .top, .top, .top, .top, .top, .top, .top, .top, .top, .top, .top, .top, .top, .top, .top, .top, .top, .top, .top, .top, .top, .top, .top, .top, .top, .top, .top, .top, .top, .top, .top, .top, .top, .top, .top, .top, .top, .top, .top, .top, .top, .top], [some s0, some s1], h⟩
def jacquardref2_Locs_k9 (C : CallF) (L : LoopF) (G : Glo) (h0 : AHeap) : Ex → St → Option (List AV × AHeap) :=
  kSeq (fun st => jacquardref2_Locs_p4.exec C L G st (jacquardref2_Locs.fin G h0)) (jacquardref2_Locs.fin G h0)
def jacquardref2_Locs_k10 (C : CallF) (L : LoopF) (G : Glo) (h0 : AHeap) : Ex → St → Option (List AV × AHeap) :=
  kBlk 6 (jacquardref2_Locs_k9 C L G h0)
def jacquardref2_Locs_s5 (a7 : Int) (s0 : List Cell) (s1 : List Cell) (h : AHeap) : St := ⟨[.top, .loc 0 0, .top, .loc 1 0, .top, .top, .top, .v (.c (.int .i64 a7)), .top, .top, .top, .top, .top, .top, .top, .top, .top, .top, .top, .top, .top, .top, .top, .top, .top, .top, .top, .top, .top, .top, .top, .top, .top, .top, .top, .top, .top, .top, .top, .top, .top, .top, .top, .top, .top, .top, .top, .top, .top, .top, .top, .top, .top, .top, .top, .top, .top, .top, .top, .top, .top, .top, .top, .top, .top, .top, .top, .top, .top, .top, .top, .top, .top, .top, .top, .top, .top, .top, .top, .top, .top, .top, .top, .top, .top, .top, .top, .top, .top, .top, .top, .top, .top, .top, .top, .top, .top, .top], [some s0, some s1], h⟩
def jacquardref2_Locs_F5 (C : CallF) (L : LoopF) (G : Glo) : St → Option (Ex × St) :=
  roundF (fun st f => jacquardref2_Locs_b5.exec C L G st f) [1, 3, 7] [0, 1] [(7, [3], [1])]
def jacquardref2_Locs_k11 (C : CallF) (L : LoopF) (G : Glo) : Ex → St → Option (Ex × St) :=
  kSeq (fun st => jacquardref2_Locs_p5.exec C L G st (kLoop [1, 3, 7] [0, 1] [(7, [3], [1])])) (kLoop [1, 3, 7] [0, 1] [(7, [3], [1])])
def jacquardref2_Locs_k12 (C : CallF) (L : LoopF) (G : Glo) : Ex → St → Option (Ex × St) :=
  kBlk 7 (jacquardref2_Locs_k11 C L G)
def jacquardref2_Locs_k13 (C : CallF) (L : LoopF) (G : Glo) : Ex → St → Option (Ex × St) :=
  kBlk 8 (jacquardref2_Locs_k12 C L G)
def jacquardref2_Locs_s4 (a7 : Int) (a8 : Int) (s0 : List Cell) (s1 : List Cell) (h : AHeap) : St := ⟨[.top, .loc 0 0, .top, .loc 1 0, .top, .top, .top, .v (.c (.int .i64 a7)), .v (.c (.int .i64 a8)), .top, .top, .top, .top, .top, .top, .top, .top, .top, .top, .top, .top, .top, .top, .top, .top, .top, .top, .top, .top, .top, .top, .top, .top, .top, .top, .top, .top, .top, .top, .top, .top, .top, .top, .top, .top, .top, .top, .top, .top, .top, .top, .top, .top, .top, .top, .top, .top, .top, .top, .top, .top, .top, .top, .top, .top, .top, .top, .top, .top, .top, .top, .top, .top, .top, .top, .top, .top, .top, .top, .top, .top, .top, .top, .top, .top, .top, .top, .top, .top, .top, .top, .top, .top, .top, .top, .top, .top, .top], [some s0, some s1], h⟩
def jacquardref2_Locs_F4 (C : CallF) (L : LoopF) (G : Glo) : St → Option (Ex × St) :=
  roundF (fun st f => jacquardref2_Locs_b4.exec C L G st f) [1, 3, 7, 8] [0, 1] [(9, [1, 3, 7], [0, 1])]
def jacquardref2_Locs_x4_9 (a7 : Int) (s0 : List Cell) (s1 : List Cell) (h : AHeap) : St := ⟨[.top, .loc 0 0, .top, .loc 1 0, .top, .top, .top, .v (.c (.int .i64 a7)), .top, .top, .top, .top, .top, .top, .top, .top, .top, .top, .top, .top, .top, .top, .top, .top, .top, .top, .top, .top, .top, .top, .top, .top, .top, .top, .top, .top, .top, .top, .top, .top, .top, .top, .top, .top, .top, .top, .top, .top, .top, .top, .top, .top, .top, .top, .top, .top, .top, .top, .top, .top, .top, .top, .top, .top, .top, .top, .top, .top, .top, .top, .top, .top, .top, .top, .top, .top, .top, .top, .top, .top, .top, .top, .top, .top, .top, .top, .top, .top, .top, .top, .top, .top, .top, .top, .top, .top, .top, .top], [some s0, some s1], h⟩
def jacquardref2_Locs_x5_7 (s1 : List Cell) (h : AHeap) : St := ⟨[.top, .top, .top, .loc 1 0, .top, .top, .top, .top, .top, .top, .top, .top, .top, .top, .top, .top, .top, .top, .top, .top, .top, .top, .top, .top, .top, .top, .top, .top, .top, .top, .top, .top, .top, .top, .top, .top, .top, .top, .top, .top, .top, .top, .top, .top, .top, .top, .top, .top, .top, .top, .top, .top, .top, .top, .top, .top, .top, .top, .top, .top, .top, .top, .top, .top, .top, .top, .top, .top, .top, .top, .top, .top, .top, .top, .top, .top, .top, .top, .top, .top, .top, .top, .top, .top, .top, .top, .top, .top, .top, .top, .top, .top, .top, .top, .top, .top, .top, .top], [none, some s1], h⟩
def jacquardref2_Locs_k14 (C : CallF) (L : LoopF) (G : Glo) (h0 : AHeap) : Ex → St → Option (List AV × AHeap) :=
  kSeq (fun st => jacquardref2_Locs_p6.exec C L G st (jacquardref2_Locs.fin G h0)) (jacquardref2_Locs.fin G h0)
def jacquardref2_Locs_k15 (C : CallF) (L : LoopF) (G : Glo) (h0 : AHeap) : Ex → St → Option (List AV × AHeap) :=
  kBlk 10 (jacquardref2_Locs_k14 C L G h0)
def jacquardref2_Locs_s6 (x9 : Cell) (a10 : Int) (s1 : List Cell) (h : AHeap) : St := ⟨[.top, .top, .top, .loc 1 0, .top, .top, .top, .top, .top, .v (.c x9), .v (.c (.int .i32 a10)), .top, .top, .top, .top, .top, .top, .top, .top, .top, .top, .top, .top, .top, .top, .top, .top, .top, .top, .top, .top, .top, .top, .top, .top, .top, .top, .top, .top, .top, .top, .top, .top, .top, .top, .top, .top, .top, .top, .top, .top, .top, .top, .top, .top, .top, .top, .top, .top, .top, .top, .top, .top, .top, .top, .top, .top, .top, .top, .top, .top, .top, .top, .top, .top, .top, .top, .top, .top, .top, .top, .top, .top, .top, .top, .top, .top, .top, .top, .top, .top, .top, .top, .top, .top, .top, .top, .top], [none, some s1], h⟩
def jacquardref2_Locs_F6 (C : CallF) (L : LoopF) (G : Glo) : St → Option (Ex × St) :=
  roundF (fun st f => jacquardref2_Locs_b6.exec C L G st f) [3, 9, 10] [1] [(11, [9], [])]
def jacquardref2_Locs_x6_11 (x9 : Cell) (h : AHeap) : St := ⟨[.top, .top, .top, .top, .top, .top, .top, .top, .top, .v (.c x9), .top, .top, .top, .top, .top, .top, .top, .top, .top, .top, .top, .top, .top, .top, .top, .top, .top, .top, .top, .top, .top, .top, .top, .top, .top, .top, .top, .top, .top, .top, .top, .top, .top, .top, .top, .top, .top, .top, .top, .top, .top, .top, .top, .top, .top, .top, .top, .top, .top, .top, .top, .top, .top, .top, .top, .top, .top, .top, .top, .top, .top, .top, .top, .top, .top, .top, .top, .top, .top, .top, .top, .top, .top, .top, .top, .top, .top, .top, .top, .top, .top, .top, .top, .top, .top, .top, .top, .top], [none, none], h⟩
theorem jacquardref2_Locs_r1 (C : CallF) (L : LoopF) (G : Glo) (a4 : Int) (s0 : List Cell) (s1 : List Cell) (h : AHeap) :
    jacquardref2_Locs_F1 C L G (jacquardref2_Locs_s1 a4 s0 s1 h) =
    atK s0 1 fun q_1 => lenK q_1 fun n_2 => if (decide (a4 < n_2)) = true then atK s0 1 fun q_3 => idxSK 2 q_3 a4 fun k_4 N_5 o_6 => rdH h k_4 N_5 fun l_7 => atK l_7 (o_6 + 0) fun q_8 => asI .i64 (.c q_8) fun n_9 => if 0 ≤ (G.band .i64 n_9 255) ∧ (G.band .i64 n_9 255) < ((256 : Nat) : Int) then if (0 + ((Int.toNat (G.band .i64 n_9 255)) * 1)) < s1.length then some (.normal, (jacquardref2_Locs_s1 (G.wrap .i64 (a4 + 1)) s0 (s1.set (0 + ((Int.toNat (G.band .i64 n_9 255)) * 1)) (.bool true)) h)) else none else none else some ((.exit 0), (jacquardref2_Locs_x1_1 s0 s1 h)) := by kernel_rfl
theorem jacquardref2_Locs_r2 (C : CallF) (L : LoopF) (G : Glo) (a5 : Int) (a6 : Int) (s0 : List Cell) (s1 : List Cell) (h : AHeap) :
    jacquardref2_Locs_F2 C L G (jacquardref2_Locs_s2 a5 a6 s0 s1 h) =
    atK s0 2 fun q_12 => idxSK 1 q_12 a5 fun k_13 N_14 o_15 => rdH h k_13 N_14 fun l_16 => atK l_16 o_15 fun q_17 => lenK q_17 fun n_18 => if (decide (a6 < n_18)) = true then atK s0 2 fun q_19 => idxSK 1 q_19 a5 fun k_20 N_21 o_22 => rdH h k_20 N_21 fun l_23 => atK l_23 o_22 fun q_24 => idxSK 9 q_24 a6 fun k_25 N_26 o_27 => rdH h k_25 N_26 fun l_28 => atK l_28 (o_27 + 2) fun q_29 => asI .i64 (.c q_29) fun n_30 => if 0 ≤ (G.band .i64 n_30 255) ∧ (G.band .i64 n_30 255) < ((256 : Nat) : Int) then if (0 + ((Int.toNat (G.band .i64 n_30 255)) * 1)) < s1.length then some (.normal, (jacquardref2_Locs_s2 a5 (G.wrap .i64 (a6 + 1)) s0 (s1.set (0 + ((Int.toNat (G.band .i64 n_30 255)) * 1)) (.bool true)) h)) else none else none else some ((.exit 4), (jacquardref2_Locs_x2_5 a5 s0 s1 h)) := by kernel_rfl
theorem jacquardref2_Locs_e2_5 (C : CallF) (L : LoopF) (G : Glo) (a5 : Int) (s0 : List Cell) (s1 : List Cell) (h : AHeap) :
    (jacquardref2_Locs_k8 C L G) (.exit 4) (jacquardref2_Locs_x2_5 a5 s0 s1 h) =
    some (.normal, (jacquardref2_Locs_s3 (G.wrap .i64 (a5 + 1)) s0 s1 h)) := by kernel_rfl
theorem jacquardref2_Locs_r3 (C : CallF) (L : LoopF) (G : Glo) (a5 : Int) (s0 : List Cell) (s1 : List Cell) (h : AHeap) :
    jacquardref2_Locs_F3 C L G (jacquardref2_Locs_s3 a5 s0 s1 h) =
    atK s0 2 fun q_10 => lenK q_10 fun n_11 => if (decide (a5 < n_11)) = true then (L (jacquardref2_Locs_F2 C L G) (jacquardref2_Locs_s2 a5 0 s0 s1 h)).bind fun p_31 => (jacquardref2_Locs_k8 C L G) p_31.1 p_31.2 else some ((.exit 2), (jacquardref2_Locs_x3_3 s0 s1 h)) := by kernel_rfl
theorem jacquardref2_Locs_r4 (C : CallF) (L : LoopF) (G : Glo) (a7 : Int) (a8 : Int) (s0 : List Cell) (s1 : List Cell) (h : AHeap) :
    jacquardref2_Locs_F4 C L G (jacquardref2_Locs_s4 a7 a8 s0 s1 h) =
    atK s0 4 fun q_34 => idxSK 1 q_34 a7 fun k_35 N_36 o_37 => rdH h k_35 N_36 fun l_38 => atK l_38 o_37 fun q_39 => lenK q_39 fun n_40 => if (decide (a8 < n_40)) = true then atK s0 4 fun q_41 => idxSK 1 q_41 a7 fun k_42 N_43 o_44 => rdH h k_42 N_43 fun l_45 => atK l_45 o_44 fun q_46 => idxSK 4 q_46 a8 fun k_47 N_48 o_49 => rdH h k_47 N_48 fun l_50 => atK l_50 (o_49 + 2) fun q_51 => asI .i64 (.c q_51) fun n_52 => if 0 ≤ (G.band .i64 n_52 255) ∧ (G.band .i64 n_52 255) < ((256 : Nat) : Int) then if (0 + ((Int.toNat (G.band .i64 n_52 255)) * 1)) < s1.length then some (.normal, (jacquardref2_Locs_s4 a7 (G.wrap .i64 (a8 + 1)) s0 (s1.set (0 + ((Int.toNat (G.band .i64 n_52 255)) * 1)) (.bool true)) h)) else none else none else some ((.exit 8), (jacquardref2_Locs_x4_9 a7 s0 s1 h)) := by kernel_rfl
theorem jacquardref2_Locs_e4_9 (C : CallF) (L : LoopF) (G : Glo) (a7 : Int) (s0 : List Cell) (s1 : List Cell) (h : AHeap) :
    (jacquardref2_Locs_k13 C L G) (.exit 8) (jacquardref2_Locs_x4_9 a7 s0 s1 h) =
    some (.normal, (jacquardref2_Locs_s5 (G.wrap .i64 (a7 + 1)) s0 s1 h)) := by kernel_rfl
theorem jacquardref2_Locs_r5 (C : CallF) (L : LoopF) (G : Glo) (a7 : Int) (s0 : List Cell) (s1 : List Cell) (h : AHeap) :
    jacquardref2_Locs_F5 C L G (jacquardref2_Locs_s5 a7 s0 s1 h) =
    atK s0 4 fun q_32 => lenK q_32 fun n_33 => if (decide (a7 < n_33)) = true then (L (jacquardref2_Locs_F4 C L G) (jacquardref2_Locs_s4 a7 0 s0 s1 h)).bind fun p_53 => (jacquardref2_Locs_k13 C L G) p_53.1 p_53.2 else some ((.exit 6), (jacquardref2_Locs_x5_7 s1 h)) := by kernel_rfl
theorem jacquardref2_Locs_r6 (C : CallF) (L : LoopF) (G : Glo) (x9 : Cell) (a10 : Int) (s1 : List Cell) (h : AHeap) :
    jacquardref2_Locs_F6 C L G (jacquardref2_Locs_s6 x9 a10 s1 h) =
    if (decide (a10 ≤ 122)) = true then if 0 ≤ a10 ∧ a10 < ((256 : Nat) : Int) then atK s1 (0 + ((Int.toNat a10) * 1)) fun q_54 => asB (.c q_54) fun b_55 => if b_55 = true then if (splice [Cell.int .u8 0] 0 ([(.int .u8 (G.wrap .u8 a10))] : List Cell)).length = 1 * 1 then appK 1 1 x9 (splice [Cell.int .u8 0] 0 ([(.int .u8 (G.wrap .u8 a10))] : List Cell)) h fun x_56 h_57 => some (.normal, (jacquardref2_Locs_s6 x_56 (G.wrap .i32 (a10 + 1)) s1 h_57)) else none else some (.normal, (jacquardref2_Locs_s6 x9 (G.wrap .i32 (a10 + 1)) s1 h)) else none else some ((.exit 10), (jacquardref2_Locs_x6_11 x9 h)) := by kernel_rfl
theorem jacquardref2_Locs_e6_11 (C : CallF) (L : LoopF) (G : Glo) (h0 : AHeap) (x9 : Cell) (h : AHeap) :
    (jacquardref2_Locs_k15 C L G h0) (.exit 10) (jacquardref2_Locs_x6_11 x9 h) =
    some ([(.c x9)], h) := by kernel_rfl
theorem jacquardref2_Locs_e5_7 (C : CallF) (L : LoopF) (G : Glo) (h0 : AHeap) (s1 : List Cell) (h : AHeap) :
    (jacquardref2_Locs_k10 C L G h0) (.exit 6) (jacquardref2_Locs_x5_7 s1 h) =
    (L (jacquardref2_Locs_F6 C L G) (jacquardref2_Locs_s6 .nils 97 s1 h)).bind fun p_58 => (jacquardref2_Locs_k15 C L G h0) p_58.1 p_58.2 := by kernel_rfl
theorem jacquardref2_Locs_e3_3 (C : CallF) (L : LoopF) (G : Glo) (h0 : AHeap) (s0 : List Cell) (s1 : List Cell) (h : AHeap) :
    (jacquardref2_Locs_k5 C L G h0) (.exit 2) (jacquardref2_Locs_x3_3 s0 s1 h) =
    (L (jacquardref2_Locs_F5 C L G) (jacquardref2_Locs_s5 0 s0 s1 h)).bind fun p_59 => (jacquardref2_Locs_k10 C L G h0) p_59.1 p_59.2 := by kernel_rfl
theorem jacquardref2_Locs_e1_1 (C : CallF) (L : LoopF) (G : Glo) (h0 : AHeap) (s0 : List Cell) (s1 : List Cell) (h : AHeap) :
    (jacquardref2_Locs_k3 C L G h0) (.exit 0) (jacquardref2_Locs_x1_1 s0 s1 h) =
    (L (jacquardref2_Locs_F3 C L G) (jacquardref2_Locs_s3 0 s0 s1 h)).bind fun p_60 => (jacquardref2_Locs_k5 C L G h0) p_60.1 p_60.2 := by kernel_rfl
set_option maxRecDepth 100000 in
theorem jacquardref2_Locs_eq (C : CallF) (L : LoopF) (G : Glo) (l0 : List Cell) (h0 : AHeap) :
    jacquardref2_Locs.body C L G [(.agg l0)] h0 =
    (L (jacquardref2_Locs_F1 C L G) (jacquardref2_Locs_s1 0 l0 (List.replicate 256 (Cell.bool false)) h0)).bind fun p_61 => (jacquardref2_Locs_k3 C L G h0) p_61.1 p_61.2 := by kernel_rfl


end Jq

/- Programs as the document says: what is done at once, what comes next. -/
namespace Jq
open Go

theorem wrap_res {x y : Int} (h : x % 18446744073709551616 = y % 18446744073709551616) : IntKind.wrap .i64 x = IntKind.wrap .i64 y := by
  simp only [IntKind.wrap, IntKind.signed, IntKind.bits, Bool.true_and]
  split
  · rename_i h1
    have h1 := of_decide_eq_true h1
    split
    · omega
    · rename_i h2; exact absurd (decide_eq_true (by omega)) h2
  · rename_i h1
    split
    · rename_i h2
      have h2 := of_decide_eq_true h2
      exact absurd (decide_eq_true (by omega)) h1
    · omega

theorem u64_mod (x : Int) : IntKind.wrap .u64 x = x % 18446744073709551616 := by
  simp only [IntKind.wrap, IntKind.signed, IntKind.bits, Bool.false_and, Bool.false_eq_true, if_false]; rfl

/-- An instruction that may be, in a thread of so many. -/
structure GoodI (len : Nat) (i : Ins) : Prop where
  kind : 1 ≤ i.kind ∧ i.kind ≤ 6
  reg : i.kind = 2 ∨ i.kind = 4 ∨ i.kind = 5 → 0 ≤ i.reg ∧ i.reg < 4
  op : i.kind = 5 → 0 ≤ i.op ∧ i.op ≤ 11
  n : i.kind = 6 → 0 ≤ i.n ∧ i.n ≤ len

def GoodC (code : List Ins) : Prop := ∀ i ∈ code, GoodI code.length i

section
variable {E : Env}

theorem refValue_R (hE : jacquardref6_Value_In E) (o : Opd) (l : Lcl) (h : AHeap) : R E 92 [.agg o.cs, .agg l.cs] h = some ([.c (.int .i64 (opV o l))], h) := by
  refine R_intro hE.fn ?_
  have a0 : ∀ {α : Type} (f : Cell → Option α), atK o.cs 0 f = f (.int .i64 o.reg) := fun _ => rfl
  have a1 : ∀ {α : Type} (f : Cell → Option α), atK o.cs 1 f = f (.int .i64 o.val) := fun _ => rfl
  unfold opV
  rw [jacquardref6_Value_eq]
  simp only [a0, a1, asI_ok, scK_and]
  by_cases h1 : 0 ≤ o.reg ∧ o.reg < 4
  · rw [if_pos (by simp; omega), if_pos ⟨h1.1, h1.2⟩, if_pos h1, atK_ok (lcl_get h1.1 h1.2), asI_ok]
  · rw [if_neg (by simp; omega), if_neg h1]

theorem refDo_R (hE : jacquardref2_Do_In E) (op a b : Int) (h : AHeap) : R E 93 [.c (.int .i64 op), .c (.int .i64 a), .c (.int .i64 b)] h = some ([.c (.int .i64 ((doV op a b).getD 0)), .c (.bool (doV op a b).isSome)], h) := by
  refine R_intro hE.fn ?_
  rw [jacquardref2_Do_eq]
  have hr : ∀ x : Int, 0 ≤ E.glob.rem .u64 (E.glob.wrap .u64 x) 64 := by
    intro x
    show 0 ≤ Int.tmod (IntKind.wrap .u64 x) 64
    rw [u64_mod, Int.tmod_eq_emod_of_nonneg (Int.emod_nonneg _ (by omega))]
    exact Int.emod_nonneg _ (by omega)
  have hr' : ∀ x : Int, ¬ E.glob.rem .u64 (E.glob.wrap .u64 x) 64 < 0 := fun x => by have := hr x; omega
  simp only [hr', if_false]
  have w1 : E.glob.wrap .i64 (E.glob.wrap .u64 (E.glob.wrap .u64 a + E.glob.wrap .u64 b)) = GN.wrap .i64 (a + b) := by
    show IntKind.wrap .i64 (IntKind.wrap .u64 (IntKind.wrap .u64 a + IntKind.wrap .u64 b)) = IntKind.wrap .i64 (a + b)
    refine wrap_res ?_
    rw [u64_mod, u64_mod, u64_mod]; omega
  have w2 : E.glob.wrap .i64 (E.glob.wrap .u64 (E.glob.wrap .u64 a - E.glob.wrap .u64 b)) = GN.wrap .i64 (a - b) := by
    show IntKind.wrap .i64 (IntKind.wrap .u64 (IntKind.wrap .u64 a - IntKind.wrap .u64 b)) = IntKind.wrap .i64 (a - b)
    refine wrap_res ?_
    rw [u64_mod, u64_mod, u64_mod]; omega
  have w3 : E.glob.wrap .i64 (E.glob.wrap .u64 (E.glob.wrap .u64 a * E.glob.wrap .u64 b)) = GN.wrap .i64 (a * b) := by
    show IntKind.wrap .i64 (IntKind.wrap .u64 (IntKind.wrap .u64 a * IntKind.wrap .u64 b)) = IntKind.wrap .i64 (a * b)
    refine wrap_res ?_
    rw [u64_mod, u64_mod, u64_mod, Int.emod_emod_of_dvd _ (Int.dvd_refl _), ← Int.mul_emod]
  have w7 : ∀ k : Int, E.glob.wrap .i64 (E.glob.shl .u64 (E.glob.wrap .u64 a) k) = GN.shl .i64 a k := by
    intro k
    show IntKind.wrap .i64 (IntKind.wrap .u64 (IntKind.wrap .u64 a * 2 ^ min k.toNat IntKind.u64.bits)) = IntKind.wrap .i64 (a * 2 ^ min k.toNat IntKind.i64.bits)
    refine wrap_res ?_
    rw [u64_mod, u64_mod, Int.emod_emod_of_dvd _ (Int.dvd_refl _)]
    show _ = (a * 2 ^ min k.toNat IntKind.u64.bits) % _
    rw [Int.mul_emod, Int.emod_emod_of_dvd _ (Int.dvd_refl _), ← Int.mul_emod]
  simp only [w1, w2, w3, w7]
  unfold doV
  have key : ∀ k : Int, ((op == k) = true) = (op = k) := fun k => by rw [beq_iff_eq]
  simp only [key]
  by_cases h1 : op = 1
  · simp only [if_pos h1]; rfl
  simp only [if_neg h1]
  by_cases h2 : op = 2
  · simp only [if_pos h2]; rfl
  simp only [if_neg h2]
  by_cases h3 : op = 3
  · simp only [if_pos h3]; rfl
  simp only [if_neg h3]
  by_cases h4 : op = 4
  · simp only [if_pos h4]; rfl
  simp only [if_neg h4]
  by_cases h5 : op = 5
  · simp only [if_pos h5]; rfl
  simp only [if_neg h5]
  by_cases h6 : op = 6
  · simp only [if_pos h6]; rfl
  simp only [if_neg h6]
  by_cases h7 : op = 7
  · simp only [if_pos h7]; rfl
  simp only [if_neg h7]
  by_cases h8 : op = 8
  · simp only [if_pos h8]; rfl
  simp only [if_neg h8]
  by_cases h9 : op = 9
  · simp only [if_pos h9]; (by_cases hab : a = b <;> simp [hab])
  simp only [if_neg h9]
  by_cases h10 : op = 10
  · simp only [if_pos h10]; (by_cases hab : a = b <;> simp [hab])
  simp only [if_neg h10]
  by_cases h11 : op = 11
  · simp only [if_pos h11]; (by_cases hab : a < b <;> simp [hab])
  simp only [if_neg h11]
  rfl

theorem doV_some {op : Int} (a b : Int) (h1 : 1 ≤ op) (h2 : op ≤ 11) : ∃ v, doV op a b = some v := by
  have h : op = 1 ∨ op = 2 ∨ op = 3 ∨ op = 4 ∨ op = 5 ∨ op = 6 ∨ op = 7 ∨ op = 8 ∨ op = 9 ∨ op = 10 ∨ op = 11 := by omega
  rcases h with rfl | rfl | rfl | rfl | rfl | rfl | rfl | rfl | rfl | rfl | rfl <;> exact ⟨_, rfl⟩

/-- One thread of a program that lies there. -/
theorem ProgAt.thr {h : AHeap} {cs : List Cell} {P : PProg} (p : ProgAt h cs P) {t : Nat} {code : List Ins} (ht : P.thr[t]? = some code) :
    ∃ x, SlAt h x 9 (codeC code) code.length ∧ Low h.length x ∧ ∀ {α : Type} (f : Cell → Option α), (atK cs 2 fun q => idxSK 1 q (t : Int) fun k N o => rdH h k N fun l => atK l o f) = f x := by
  obtain ⟨a, b, c, ts, rfl, _, _, ⟨hc, hcl⟩, hts⟩ := p
  obtain ⟨x, x1, x2, x3⟩ := hts _ _ ht
  refine ⟨x, x2, x3, fun f => ?_⟩
  show (idxSK 1 c (t : Int) fun k N o => rdH h k N fun l => atK l o f) = f x
  exact hc.get1 (getI_lt ht) x1

theorem ProgAt.nthr {α : Type} {h : AHeap} {cs : List Cell} {P : PProg} (p : ProgAt h cs P) {f : Int → Option α} : (atK cs 2 fun q => lenK q f) = f P.thr.length := by
  obtain ⟨a, b, c, ts, rfl, _, _, ⟨hc, hcl⟩, hts⟩ := p
  show lenK c f = _
  exact hc.len

theorem code_of {P : PProg} {t : Nat} {code : List Ins} (ht : P.thr[t]? = some code) : P.code (t : Int) = code := by
  unfold PProg.code
  rw [if_pos (by omega), Int.toNat_natCast, List.getD_eq_getElem?_getD, ht]; rfl

theorem refnormal_R (hE : jacquardref6_normal_In E) {cs : List Cell} {P : PProg} {h : AHeap} (p : ProgAt h cs P) {t : Nat} {code : List Ins} (ht : P.thr[t]? = some code) (hlen : code.length < 4000000000000000000) (hg : GoodC code) (l : Lcl) (h0 : 0 ≤ l.pc) :
    R E 123 [.agg cs, .c (.int .i64 (t : Int)), .agg l.cs] h = some ([.agg (normL code l).cs], h) := by
  refine R_intro hE.fn ?_
  obtain ⟨x, hx, hxl, hT⟩ := p.thr ht
  have round : ∀ l : Lcl, 0 ≤ l.pc → jacquardref6_normal_F1 (R E) Lim E.glob (jacquardref6_normal_s1 t cs l.cs Lcl.zero.cs h) = match stepI code l with
      | some l' => some (.normal, jacquardref6_normal_s1 t cs l'.cs Lcl.zero.cs h)
      | none => if l.pc < code.length then some (.ret, jacquardref6_normal_x1_0 l.cs h) else some (.exit 0, jacquardref6_normal_x1_1 l.cs Lcl.zero.cs h) := by
    intro l h0
    rw [jacquardref6_normal_r1, lcl_pc, asI_ok, hT, hx.len]
    by_cases h1 : l.pc < code.length
    · obtain ⟨q, hp⟩ : ∃ q : Nat, l.pc = (q : Int) := ⟨l.pc.toNat, by omega⟩
      have hpl : q < code.length := by omega
      have hq : code[q]? = some code[q] := List.getElem?_eq_getElem hpl
      have hgi := hg _ (List.getElem_mem hpl)
      generalize code[q] = i at hq hgi
      obtain ⟨off, cs', hG0, hle, hcs⟩ := hx.insG hq
      have hG : ∀ {α : Type} (G : Nat → List Cell → Option α), (idxSK 9 x l.pc fun k N o => rdH h k N fun l => G o l) = G off cs' := by intro α G; rw [hp]; exact hG0 G
      have hst : stepI code l = if i.kind = 5 then
          some { (l.setR i.reg ((doV i.op (opV i.a l) (opV i.b l)).getD (opV i.a l))) with pc := (l.setR i.reg ((doV i.op (opV i.a l) (opV i.b l)).getD (opV i.a l))).pc + 1 }
        else if i.kind = 6 then (if opV i.a l = opV i.b l then some { l with pc := l.pc + min (max i.n 0) code.length + 1 } else some { l with pc := l.pc + 1 }) else none := by
        unfold stepI
        rw [if_pos h0, show l.pc.toNat = q by omega, hq]
      rw [hst, if_pos (decide_eq_true h1), hT, lcl_pc, asI_ok, hG, if_pos hle, hcs, if_pos ⟨rfl, rfl, rfl⟩, ins_kind, asI_ok]
      by_cases k5 : i.kind = 5
      · obtain ⟨r0, r1⟩ := hgi.reg (.inr (.inr k5))
        obtain ⟨o0, o1⟩ := hgi.op k5
        rw [if_pos (by rw [k5]; rfl), if_pos k5, if_pos (show 3 + 2 ≤ i.cs.length by rw [Ins.len]; omega), if_pos ⟨rfl, rfl⟩, ins_a, refValue_R hE.c92, c1_ok, asI_ok, ins_op, asI_ok]
        by_cases hop : i.op = 0
        · have hd : doV i.op (opV i.a l) (opV i.b l) = none := by rw [hop]; rfl
          have hpc := l.setR_pc i.reg (opV i.a l)
          rw [hd, if_neg (by rw [hop]; simp), ins_reg, asI_ok, if_pos ⟨r0, r1⟩, if_pos (by rw [Lcl.len]; omega), lcl_set r0 r1, lcl_pc, asI_ok, if_pos (by rw [Lcl.len]; omega), lcl_setpc]
          rw [show (none : Option Int).getD (opV i.a l) = opV i.a l from rfl, hpc, g_wrap_i64 (x := l.pc + 1) (by omega) (by omega)]
        · obtain ⟨v, hd⟩ := doV_some (opV i.a l) (opV i.b l) (show 1 ≤ i.op by omega) o1
          have hpc := l.setR_pc i.reg v
          rw [hd, if_pos (by rw [bne_iff_ne]; exact hop), ins_op, asI_ok, if_pos (show 6 + 2 ≤ i.cs.length by rw [Ins.len]; omega), if_pos ⟨rfl, rfl⟩, ins_b, refValue_R hE.c92, qh_ok, c1_ok, asI_ok, refDo_R hE.c93, qh_ok, c2_ok, asI_ok, asB_ok, hd, ins_reg, asI_ok, if_pos ⟨r0, r1⟩, if_pos (by rw [Lcl.len]; omega), show (some v : Option Int).getD 0 = v from rfl, lcl_set r0 r1, lcl_pc, asI_ok, if_pos (by rw [Lcl.len]; omega), lcl_setpc]
          rw [show (some v : Option Int).getD (opV i.a l) = v from rfl, hpc, g_wrap_i64 (x := l.pc + 1) (by omega) (by omega)]
      · rw [if_neg (by rw [beq_iff_eq]; exact k5), if_neg k5]
        by_cases k6 : i.kind = 6
        · obtain ⟨n0, n1⟩ := hgi.n k6
          rw [if_pos (by rw [k6]; rfl), if_pos k6, if_pos (show 3 + 2 ≤ i.cs.length by rw [Ins.len]; omega), if_pos ⟨rfl, rfl⟩, ins_a, refValue_R hE.c92, qh_ok, c1_ok, asI_ok, if_pos (show 6 + 2 ≤ i.cs.length by rw [Ins.len]; omega), if_pos ⟨rfl, rfl⟩, ins_b, refValue_R hE.c92, qh_ok, c1_ok, asI_ok]
          by_cases hab : opV i.a l = opV i.b l
          · rw [if_pos (by rw [hab]; exact beq_self_eq_true _), if_pos hab, lcl_pc, asI_ok, ins_n, asI_ok, if_pos (by rw [Lcl.len]; omega), lcl_setpc, lcl_pc, asI_ok, if_pos (by rw [Lcl.len]; omega), lcl_setpc]
            dsimp only
            rw [show min (max i.n 0) (code.length : Int) = i.n by omega, g_wrap_i64 (x := l.pc + i.n) (by omega) (by omega), g_wrap_i64 (x := l.pc + i.n + 1) (by omega) (by omega)]
          · rw [if_neg (by rw [beq_iff_eq]; exact hab), if_neg hab, lcl_pc, asI_ok, if_pos (by rw [Lcl.len]; omega), lcl_setpc, g_wrap_i64 (x := l.pc + 1) (by omega) (by omega)]
        · rw [if_neg (by rw [beq_iff_eq]; exact k6), if_neg k6, if_pos ⟨rfl, rfl⟩, if_pos ⟨rfl, rfl, rfl⟩]
          dsimp only
          rw [if_pos h1]
    · have hst : stepI code l = none := by
        unfold stepI
        rw [if_pos h0, List.getElem?_eq_none (by omega)]
      rw [hst, if_neg (by simpa using h1)]
      dsimp only
      rw [if_neg h1]
  have stop : ∀ l : Lcl, 0 ≤ l.pc → stepI code l = none → (Lim (jacquardref6_normal_F1 (R E) Lim E.glob) (jacquardref6_normal_s1 t cs l.cs Lcl.zero.cs h)).bind (fun p => jacquardref6_normal_k3 (R E) Lim E.glob h p.1 p.2) = some ([.agg l.cs], h) := by
    intro l h0 hs
    have hr := round l h0
    rw [hs] at hr
    dsimp only at hr
    split at hr
    · rw [Lim_ret hr, bind_ok, jacquardref6_normal_e1_0, if_pos ⟨rfl, rfl⟩]
    · rw [Lim_exit hr, bind_ok, jacquardref6_normal_e1_1, if_pos ⟨rfl, rfl⟩, if_pos ⟨rfl, rfl, rfl⟩, if_pos ⟨rfl, rfl⟩]
  have loop : ∀ (k : Nat) (l : Lcl), 0 ≤ l.pc → (code.length : Int) ≤ l.pc + k → (Lim (jacquardref6_normal_F1 (R E) Lim E.glob) (jacquardref6_normal_s1 t cs l.cs Lcl.zero.cs h)).bind (fun p => jacquardref6_normal_k3 (R E) Lim E.glob h p.1 p.2) = some ([.agg (nrm code k l).cs], h) := by
    intro k
    induction k with
    | zero =>
      intro l h0 hk
      rw [nrm]
      refine stop l h0 ?_
      cases hs : stepI code l with
      | none => rfl
      | some l' => have := stepI_pc hs; omega
    | succ k ih =>
      intro l h0 hk
      rw [nrm]
      cases hs : stepI code l with
      | none => exact stop l h0 hs
      | some l' =>
        have hr := round l h0
        rw [hs] at hr
        have h3 := stepI_pc hs
        have := ih l' (by omega) (by omega)
        cases hL : Lim (jacquardref6_normal_F1 (R E) Lim E.glob) (jacquardref6_normal_s1 t cs l'.cs Lcl.zero.cs h) with
        | none => rw [hL] at this; cases this
        | some p => rw [Lim_next hr hL]; rw [hL] at this; exact this
  rw [jacquardref6_normal_eq, zero5]
  exact loop code.length l h0 (by omega)

theorem there_R (hE : jacquardref6_there_In E) {cs : List Cell} {P : PProg} {h : AHeap} (p : ProgAt h cs P) (t : Int) :
    R E 110 [.agg cs, .c (.int .i64 t)] h = some ([.c (.bool (decide (0 ≤ t) && decide (t < P.thr.length)))], h) := by
  refine R_intro hE.fn ?_
  rw [jacquardref6_there_eq]
  by_cases h0 : 0 ≤ t
  · rw [show decide (t ≥ 0) = true from decide_eq_true h0, scK_ok, p.nthr, bind_ok]
    rfl
  · rw [show decide (t ≥ 0) = false from decide_eq_false h0, scK_ft]
    rfl

/-- Each thread may be. -/
def PProg.good (P : PProg) : Prop := P.fits ∧ ∀ code ∈ P.thr, GoodC code

theorem code_out {P : PProg} {t : Int} (h : ¬ (0 ≤ t ∧ t < P.thr.length)) : P.code t = [] := by
  unfold PProg.code
  split
  · rw [List.getD_eq_getElem?_getD, List.getElem?_eq_none (by omega)]; rfl
  · rfl

theorem refStart_R (hE : jacquardref6_Start_In E) {cs : List Cell} {P : PProg} {h : AHeap} (hg : P.good) (p : ProgAt h cs P) (t : Int) :
    R E 104 [.agg cs, .c (.int .i64 t)] h = some ([.agg (startL P t).cs], h) := by
  refine R_intro hE.fn ?_
  rw [jacquardref6_Start_eq, if_pos ⟨rfl, p.len⟩, there_R hE.c110 p, c1_ok, asB_ok]
  by_cases ht : 0 ≤ t ∧ t < P.thr.length
  · obtain ⟨q, hq⟩ : ∃ q : Nat, t = (q : Int) := ⟨t.toNat, by omega⟩
    have hqq : P.thr[q]? = some P.thr[q] := List.getElem?_eq_getElem (by omega)
    have hm := List.mem_of_getElem? hqq
    generalize P.thr[q] = code at hqq hm
    rw [show (decide (0 ≤ t) && decide (t < P.thr.length)) = true by simp [ht.1, ht.2], if_neg (by simp), if_pos ⟨rfl, p.len⟩, zero5, hq, refnormal_R hE.c123 p hqq (hg.1.2 _ hm) (hg.2 _ hm) Lcl.zero (by simp [Lcl.zero]), c1_ok, asA_ok, if_pos ⟨rfl, rfl, rfl⟩, if_pos ⟨rfl, rfl⟩]
    unfold startL
    rw [code_of hqq]
  · have hs : startL P t = Lcl.zero := by unfold startL; rw [code_out ht]; rfl
    rw [show (decide (0 ≤ t) && decide (t < P.thr.length)) = false by simp; omega, if_pos (show (!false) = true from rfl), zero5, if_pos ⟨rfl, rfl, rfl⟩, if_pos ⟨rfl, rfl⟩, hs]

theorem refNext_R (hE : jacquardref6_Next_In E) {cs : List Cell} {P : PProg} {h : AHeap} (hg : P.good) (p : ProgAt h cs P) (t : Int) (l : Lcl) :
    R E 81 [.agg cs, .c (.int .i64 t), .agg l.cs] h = some ([.agg ((nextI (P.code t) l).getD Ins.zero).cs, .c (.bool (nextI (P.code t) l).isSome)], h) := by
  refine R_intro hE.fn ?_
  rw [jacquardref6_Next_eq, if_pos ⟨rfl, p.len⟩, there_R hE.c110 p, qh_ok, c1_ok, asB_ok]
  by_cases ht : 0 ≤ t ∧ t < P.thr.length
  · obtain ⟨q, hq⟩ : ∃ q : Nat, t = (q : Int) := ⟨t.toNat, by omega⟩
    have hqq : P.thr[q]? = some P.thr[q] := List.getElem?_eq_getElem (by omega)
    have hm := List.mem_of_getElem? hqq
    generalize P.thr[q] = code at hqq hm
    have hgc := hg.2 _ hm
    obtain ⟨x, hx, hxl, hT⟩ := p.thr hqq
    rw [show (decide (0 ≤ t) && decide (t < P.thr.length)) = true by simp [ht.1, ht.2], Bool.not_true, scK_ok, lcl_pc, asI_ok, bind_ok]
    dsimp only
    subst hq
    rw [code_of hqq]
    by_cases h0 : 0 ≤ l.pc
    · rw [show decide (l.pc < 0) = false from decide_eq_false (by omega), scK_ok, lcl_pc, asI_ok, hT, hx.len, bind_ok]
      dsimp only
      by_cases h1 : l.pc < code.length
      · obtain ⟨m, hmm⟩ : ∃ m : Nat, l.pc = (m : Int) := ⟨l.pc.toNat, by omega⟩
        have hml : m < code.length := by omega
        have hi : code[m]? = some code[m] := List.getElem?_eq_getElem hml
        have hgi := hgc _ (List.getElem_mem hml)
        generalize code[m] = i at hi hgi
        obtain ⟨off, cs', hG0, hle, hcs⟩ := hx.insG hi
        have hG : ∀ {α : Type} (G : Nat → List Cell → Option α), (idxSK 9 x l.pc fun k N o => rdH h k N fun l => G o l) = G off cs' := by intro α G; rw [hmm]; exact hG0 G
        have hn : nextI code l = if 1 ≤ i.kind ∧ i.kind ≤ 4 then some i else none := by
          unfold nextI
          rw [if_pos h0, show l.pc.toNat = m by omega, hi]
        have hk2 := hgi.kind
        rw [show decide (l.pc ≥ (code.length : Int)) = false from decide_eq_false (by omega), if_neg (by simp), hT, lcl_pc, asI_ok, hG, if_pos hle, hcs, if_pos ⟨rfl, rfl, rfl⟩, ins_kind, asI_ok, ins_kind, asI_ok, scK_or, hn]
        by_cases hk : 1 ≤ i.kind ∧ i.kind ≤ 4
        · rw [if_neg (by simp; omega), if_pos hk, if_pos ⟨rfl, rfl⟩, if_pos ⟨rfl, rfl, rfl⟩, if_pos ⟨rfl, rfl⟩]; rfl
        · rw [if_pos (by simp; omega), if_neg hk, if_pos ⟨rfl, rfl, rfl⟩, if_pos ⟨rfl, rfl⟩]; rfl
      · have hn : nextI code l = none := by unfold nextI; rw [if_pos h0, List.getElem?_eq_none (by omega)]
        rw [show decide (l.pc ≥ (code.length : Int)) = true from decide_eq_true (by omega), if_pos rfl, hn, if_pos ⟨rfl, rfl, rfl⟩, if_pos ⟨rfl, rfl⟩]; rfl
    · have hn : nextI code l = none := by unfold nextI; rw [if_neg h0]
      rw [show decide (l.pc < 0) = true from decide_eq_true (by omega), scK_tf, if_pos rfl, hn, if_pos ⟨rfl, rfl, rfl⟩, if_pos ⟨rfl, rfl⟩]; rfl
  · have hn : nextI (P.code t) l = none := by rw [code_out ht]; unfold nextI; split <;> simp
    rw [show (decide (0 ≤ t) && decide (t < P.thr.length)) = false by simp; omega, Bool.not_false, scK_tf, scK_tf, if_pos rfl, hn, if_pos ⟨rfl, rfl, rfl⟩, if_pos ⟨rfl, rfl⟩]; rfl

theorem refAfter_R (hE : jacquardref6_After_In E) {cs : List Cell} {P : PProg} {h : AHeap} (hg : P.good) (p : ProgAt h cs P) (t : Int) (l : Lcl) (v : Int) :
    R E 107 [.agg cs, .c (.int .i64 t), .agg l.cs, .c (.int .i64 v)] h = some ([.agg (afterL (P.code t) l v).cs], h) := by
  refine R_intro hE.fn ?_
  rw [jacquardref6_After_eq, if_pos ⟨rfl, p.len⟩, if_pos ⟨rfl, rfl⟩, refNext_R hE.c81 hg p, c2_ok, asA_ok, asB_ok, if_pos ⟨rfl, rfl, rfl⟩]
  unfold afterL
  cases hn : nextI (P.code t) l with
  | none =>
    rw [show (none : Option Ins).isSome = false from rfl, if_pos (show (!false) = true from rfl), if_pos ⟨rfl, rfl⟩, if_pos ⟨rfl, rfl, rfl⟩, if_pos ⟨rfl, rfl⟩]
  | some i =>
    obtain ⟨n0, n1, n2, n3, n4⟩ := nextI_kind hn
    have ht : 0 ≤ t ∧ t < P.thr.length := by
      refine Classical.byContradiction fun hc => ?_
      rw [code_out hc] at n2; simp at n2
    obtain ⟨q, hq⟩ : ∃ q : Nat, t = (q : Int) := ⟨t.toNat, by omega⟩
    have hqq : P.thr[q]? = some P.thr[q] := List.getElem?_eq_getElem (by omega)
    have hm := List.mem_of_getElem? hqq
    generalize P.thr[q] = code at hqq hm
    subst hq
    rw [code_of hqq] at n1 n2 ⊢
    have hgi := hg.2 _ hm i (List.mem_of_getElem? n2)
    have hfit := hg.1.2 _ hm
    rw [show (some i : Option Ins).isSome = true from rfl, if_neg (by simp), show (some i : Option Ins).getD Ins.zero = i from rfl, ins_kind, asI_ok, ins_kind, asI_ok, scK_or]
    by_cases hk : i.kind = 2 ∨ i.kind = 4
    · have hpc := l.setR_pc i.reg v
      obtain ⟨r0, r1⟩ := hgi.reg (hk.imp id .inl)
      rw [if_pos (by rw [Bool.or_eq_true, beq_iff_eq, beq_iff_eq]; exact hk), ins_reg, asI_ok, if_pos ⟨r0, r1⟩, if_pos (by rw [Lcl.len]; omega), lcl_set r0 r1, lcl_pc, asI_ok, if_pos (by rw [Lcl.len]; omega), lcl_setpc, if_pos ⟨rfl, p.len⟩, if_pos ⟨rfl, rfl⟩, hpc, g_wrap_i64 (x := l.pc + 1) (by omega) (by omega), refnormal_R hE.c123 p hqq hfit (hg.2 _ hm) _ (by dsimp only; omega), c1_ok, asA_ok, if_pos ⟨rfl, rfl, rfl⟩, if_pos ⟨rfl, rfl⟩]
      dsimp only
      rw [if_pos hk]
    · rw [if_neg (by rw [Bool.or_eq_true, beq_iff_eq, beq_iff_eq]; exact hk), lcl_pc, asI_ok, if_pos (by rw [Lcl.len]; omega), lcl_setpc, if_pos ⟨rfl, p.len⟩, if_pos ⟨rfl, rfl⟩, g_wrap_i64 (x := l.pc + 1) (by omega) (by omega), refnormal_R hE.c123 p hqq hfit (hg.2 _ hm) _ (by dsimp only; omega), c1_ok, asA_ok, if_pos ⟨rfl, rfl, rfl⟩, if_pos ⟨rfl, rfl⟩]
      dsimp only
      rw [if_neg hk]

end
end Jq

namespace Jq
open Go

/- jacquard/event.Unfold: 78 -/
def event_Unfold_k2 (C : CallF) (L : LoopF) (G : Glo) (h0 : AHeap) : Ex → St → Option (List AV × AHeap) :=
  kBlk 0 (event_Unfold.fin G h0)
def event_Unfold_s1 (a1 : Int) (x2 : Cell) (x6 : Cell) (s0 : List Cell) (s1 : List Cell) (h : AHeap) : St := ⟨[.top, .v (.c (.int .i64 a1)), .v (.c x2), .loc 0 0, .top, .top, .v (.c x6), .loc 1 0, .top, .top, .top, .top, .top, .top, .top, .top, .top, .top, .top, .top, .top, .top, .top, .top, .top, .top, .top, .top, .top, .top, .top, .top, .top, .top, .top, .top, .top, .top, .top, .top, .top, .top, .top, .top, .top, .top, .top, .top, .top, .top, .top, .top, .top, .top, .top, .top, .top, .top, .top, .top, .top, .top, .top], [some s0, some s1, none, none], h⟩
def event_Unfold_F1 (C : CallF) (L : LoopF) (G : Glo) : St → Option (Ex × St) :=
  roundF (fun st f => event_Unfold_b1.exec C L G st f) [1, 2, 3, 6, 7] [0, 1] [(0, [6, 7, 8], [1])]
def event_Unfold_x1_0 (x6 : Cell) (b8 : Bool) (s1 : List Cell) (h : AHeap) : St := ⟨[.top, .top, .top, .top, .top, .top, .v (.c x6), .loc 1 0, .v (.c (.bool b8)), .top, .top, .top, .top, .top, .top, .top, .top, .top, .top, .top, .top, .top, .top, .top, .top, .top, .top, .top, .top, .top, .top, .top, .top, .top, .top, .top, .top, .top, .top, .top, .top, .top, .top, .top, .top, .top, .top, .top, .top, .top, .top, .top, .top, .top, .top, .top, .top, .top, .top, .top, .top, .top, .top], [none, some s1, none, none], h⟩
theorem event_Unfold_r1 (C : CallF) (L : LoopF) (G : Glo) (a1 : Int) (x2 : Cell) (x6 : Cell) (s0 : List Cell) (s1 : List Cell) (h : AHeap) :
    event_Unfold_F1 C L G (event_Unfold_s1 a1 x2 x6 s0 s1 h) =
    if 0 = 0 ∧ s0.length = 3 then if 0 = 0 ∧ s1.length = 5 then c2 (C 105 [(.agg s0), (.c (.int .i64 a1)), (.agg s1)] h) fun y_5 y_6 h_4 => asA y_5 fun l_7 => asB y_6 fun b_8 => if 0 = 0 ∧ (List.replicate 9 (Cell.int .i64 0)).length = 9 ∧ l_7.length = 9 then if (!b_8) = true then if 0 = 0 ∧ s1.length = 5 then if 0 = 0 ∧ s1.length = 5 ∧ s1.length = 5 then some (.ret, (event_Unfold_x1_0 x6 false s1 h_4)) else none else none else lenK x2 fun n_9 => if (decide (n_9 > 0)) = true then idxSK 1 x2 0 fun k_10 N_11 o_12 => rdH h_4 k_10 N_11 fun l_13 => atK l_13 o_12 fun q_14 => asI .i64 (.c q_14) fun n_15 => if 0 = 0 ∧ l_7.length = 9 then if 0 = 0 ∧ s1.length = 5 then c2 (C 109 [(.agg l_7), (.agg s1), (.c (.int .i64 n_15))] h_4) fun y_17 y_18 h_16 => asA y_17 fun l_19 => asB y_18 fun b_20 => if 0 = 0 ∧ [Cell.int .i64 0, Cell.int .i64 0, Cell.int .i64 0, Cell.int .i64 0, Cell.int .i64 0, Cell.int .i64 0].length = 6 ∧ l_19.length = 6 then if b_20 = true then lenK x2 fun n_21 => if (n_21 == 0) = true then if 0 = 0 ∧ s1.length = 5 then if 0 = 0 ∧ s1.length = 5 ∧ s1.length = 5 then some (.ret, (event_Unfold_x1_0 x6 true s1 h_16)) else none else none else sliceK h_16 1 true false x2 [.v (.c (.int .i64 1))] fun x_22 => lenK x6 fun n_23 => if 0 < l_19.length then if 1 < (l_19.set 0 (.int .i64 a1)).length then if 0 = 0 ∧ ((l_19.set 0 (.int .i64 a1)).set 1 (.int .i64 n_23)).length = 6 then if ((l_19.set 0 (.int .i64 a1)).set 1 (.int .i64 n_23)).length = 6 ∧ 0 + 6 ≤ [Cell.int .i64 0, Cell.int .i64 0, Cell.int .i64 0, Cell.int .i64 0, Cell.int .i64 0, Cell.int .i64 0].length then if (splice [Cell.int .i64 0, Cell.int .i64 0, Cell.int .i64 0, Cell.int .i64 0, Cell.int .i64 0, Cell.int .i64 0] 0 ((l_19.set 0 (.int .i64 a1)).set 1 (.int .i64 n_23))).length = 1 * 6 then appK 6 48 x6 (splice [Cell.int .i64 0, Cell.int .i64 0, Cell.int .i64 0, Cell.int .i64 0, Cell.int .i64 0, Cell.int .i64 0] 0 ((l_19.set 0 (.int .i64 a1)).set 1 (.int .i64 n_23))) h_16 fun x_24 h_25 => if 0 = 0 ∧ s0.length = 3 then if 0 = 0 ∧ s1.length = 5 then c1 (C 106 [(.agg s0), (.c (.int .i64 a1)), (.agg s1), (.c (.int .i64 n_15))] h_25) fun y_27 h_26 => asA y_27 fun l_28 => if 0 = 0 ∧ s1.length = 5 ∧ l_28.length = 5 then some (.normal, (event_Unfold_s1 a1 x_22 x_24 s0 l_28 h_26)) else none else none else none else none else none else none else none else none else lenK x6 fun n_29 => if 0 < l_19.length then if 1 < (l_19.set 0 (.int .i64 a1)).length then if 0 = 0 ∧ ((l_19.set 0 (.int .i64 a1)).set 1 (.int .i64 n_29)).length = 6 then if ((l_19.set 0 (.int .i64 a1)).set 1 (.int .i64 n_29)).length = 6 ∧ 0 + 6 ≤ [Cell.int .i64 0, Cell.int .i64 0, Cell.int .i64 0, Cell.int .i64 0, Cell.int .i64 0, Cell.int .i64 0].length then if (splice [Cell.int .i64 0, Cell.int .i64 0, Cell.int .i64 0, Cell.int .i64 0, Cell.int .i64 0, Cell.int .i64 0] 0 ((l_19.set 0 (.int .i64 a1)).set 1 (.int .i64 n_29))).length = 1 * 6 then appK 6 48 x6 (splice [Cell.int .i64 0, Cell.int .i64 0, Cell.int .i64 0, Cell.int .i64 0, Cell.int .i64 0, Cell.int .i64 0] 0 ((l_19.set 0 (.int .i64 a1)).set 1 (.int .i64 n_29))) h_16 fun x_30 h_31 => if 0 = 0 ∧ s0.length = 3 then if 0 = 0 ∧ s1.length = 5 then c1 (C 106 [(.agg s0), (.c (.int .i64 a1)), (.agg s1), (.c (.int .i64 n_15))] h_31) fun y_33 h_32 => asA y_33 fun l_34 => if 0 = 0 ∧ s1.length = 5 ∧ l_34.length = 5 then some (.normal, (event_Unfold_s1 a1 x2 x_30 s0 l_34 h_32)) else none else none else none else none else none else none else none else none else none else none else none else if 0 = 0 ∧ l_7.length = 9 then if 0 = 0 ∧ s1.length = 5 then c2 (C 109 [(.agg l_7), (.agg s1), (.c (.int .i64 0))] h_4) fun y_36 y_37 h_35 => asA y_36 fun l_38 => asB y_37 fun b_39 => if 0 = 0 ∧ [Cell.int .i64 0, Cell.int .i64 0, Cell.int .i64 0, Cell.int .i64 0, Cell.int .i64 0, Cell.int .i64 0].length = 6 ∧ l_38.length = 6 then if b_39 = true then lenK x2 fun n_40 => if (n_40 == 0) = true then if 0 = 0 ∧ s1.length = 5 then if 0 = 0 ∧ s1.length = 5 ∧ s1.length = 5 then some (.ret, (event_Unfold_x1_0 x6 true s1 h_35)) else none else none else sliceK h_35 1 true false x2 [.v (.c (.int .i64 1))] fun x_41 => lenK x6 fun n_42 => if 0 < l_38.length then if 1 < (l_38.set 0 (.int .i64 a1)).length then if 0 = 0 ∧ ((l_38.set 0 (.int .i64 a1)).set 1 (.int .i64 n_42)).length = 6 then if ((l_38.set 0 (.int .i64 a1)).set 1 (.int .i64 n_42)).length = 6 ∧ 0 + 6 ≤ [Cell.int .i64 0, Cell.int .i64 0, Cell.int .i64 0, Cell.int .i64 0, Cell.int .i64 0, Cell.int .i64 0].length then if (splice [Cell.int .i64 0, Cell.int .i64 0, Cell.int .i64 0, Cell.int .i64 0, Cell.int .i64 0, Cell.int .i64 0] 0 ((l_38.set 0 (.int .i64 a1)).set 1 (.int .i64 n_42))).length = 1 * 6 then appK 6 48 x6 (splice [Cell.int .i64 0, Cell.int .i64 0, Cell.int .i64 0, Cell.int .i64 0, Cell.int .i64 0, Cell.int .i64 0] 0 ((l_38.set 0 (.int .i64 a1)).set 1 (.int .i64 n_42))) h_35 fun x_43 h_44 => if 0 = 0 ∧ s0.length = 3 then if 0 = 0 ∧ s1.length = 5 then c1 (C 106 [(.agg s0), (.c (.int .i64 a1)), (.agg s1), (.c (.int .i64 0))] h_44) fun y_46 h_45 => asA y_46 fun l_47 => if 0 = 0 ∧ s1.length = 5 ∧ l_47.length = 5 then some (.normal, (event_Unfold_s1 a1 x_41 x_43 s0 l_47 h_45)) else none else none else none else none else none else none else none else none else lenK x6 fun n_48 => if 0 < l_38.length then if 1 < (l_38.set 0 (.int .i64 a1)).length then if 0 = 0 ∧ ((l_38.set 0 (.int .i64 a1)).set 1 (.int .i64 n_48)).length = 6 then if ((l_38.set 0 (.int .i64 a1)).set 1 (.int .i64 n_48)).length = 6 ∧ 0 + 6 ≤ [Cell.int .i64 0, Cell.int .i64 0, Cell.int .i64 0, Cell.int .i64 0, Cell.int .i64 0, Cell.int .i64 0].length then if (splice [Cell.int .i64 0, Cell.int .i64 0, Cell.int .i64 0, Cell.int .i64 0, Cell.int .i64 0, Cell.int .i64 0] 0 ((l_38.set 0 (.int .i64 a1)).set 1 (.int .i64 n_48))).length = 1 * 6 then appK 6 48 x6 (splice [Cell.int .i64 0, Cell.int .i64 0, Cell.int .i64 0, Cell.int .i64 0, Cell.int .i64 0, Cell.int .i64 0] 0 ((l_38.set 0 (.int .i64 a1)).set 1 (.int .i64 n_48))) h_35 fun x_49 h_50 => if 0 = 0 ∧ s0.length = 3 then if 0 = 0 ∧ s1.length = 5 then c1 (C 106 [(.agg s0), (.c (.int .i64 a1)), (.agg s1), (.c (.int .i64 0))] h_50) fun y_52 h_51 => asA y_52 fun l_53 => if 0 = 0 ∧ s1.length = 5 ∧ l_53.length = 5 then some (.normal, (event_Unfold_s1 a1 x2 x_49 s0 l_53 h_51)) else none else none else none else none else none else none else none else none else none else none else none else none else none else none := by kernel_rfl
theorem event_Unfold_e1_0 (C : CallF) (L : LoopF) (G : Glo) (h0 : AHeap) (x6 : Cell) (b8 : Bool) (s1 : List Cell) (h : AHeap) :
    (event_Unfold_k2 C L G h0) .ret (event_Unfold_x1_0 x6 b8 s1 h) =
    if 0 = 0 ∧ s1.length = 5 then some ([(.c x6), (.agg s1), (.c (.bool b8))], h) else none := by kernel_rfl
set_option maxRecDepth 100000 in
theorem event_Unfold_eq (C : CallF) (L : LoopF) (G : Glo) (l0 : List Cell) (a1 : Int) (x2 : Cell) (h0 : AHeap) :
    event_Unfold.body C L G [(.agg l0), (.c (.int .i64 a1)), (.c x2)] h0 =
    if 0 = 0 ∧ l0.length = 3 then c1 (C 94 [(.agg l0), (.c (.int .i64 a1))] h0) fun y_2 h_1 => asA y_2 fun l_3 => if 0 = 0 ∧ [Cell.int .i64 0, Cell.int .i64 0, Cell.int .i64 0, Cell.int .i64 0, Cell.int .i64 0].length = 5 ∧ l_3.length = 5 then (L (event_Unfold_F1 C L G) (event_Unfold_s1 a1 x2 .nils l0 l_3 h_1)).bind fun p_54 => (event_Unfold_k2 C L G h0) p_54.1 p_54.2 else none else none := by kernel_rfl

/- jacquard/event.Reads: 79 -/
set_option maxRecDepth 100000 in
theorem event_Reads_eq (C : CallF) (L : LoopF) (G : Glo) (l0 : List Cell) (h0 : AHeap) :
    event_Reads.body C L G [(.agg l0)] h0 =
    atK l0 2 fun q_1 => asI .i64 (.c q_1) fun n_2 => scK (n_2 == 1) false (atK l0 2 fun q_3 => asI .i64 (.c q_3) fun n_4 => some ((n_4 == 4), h0)) true h0 fun b_5 h_6 => scK b_5 false (atK l0 2 fun q_7 => asI .i64 (.c q_7) fun n_8 => some ((n_8 == 5), h_6)) true h_6 fun b_9 h_10 => some ([(.c (.bool b_9))], h_10) := by kernel_rfl

/- jacquard/event.Writes: 80 -/
set_option maxRecDepth 100000 in
theorem event_Writes_eq (C : CallF) (L : LoopF) (G : Glo) (l0 : List Cell) (h0 : AHeap) :
    event_Writes.body C L G [(.agg l0)] h0 =
    atK l0 2 fun q_1 => asI .i64 (.c q_1) fun n_2 => scK (n_2 == 2) false (atK l0 2 fun q_3 => asI .i64 (.c q_3) fun n_4 => some ((n_4 == 4), h0)) true h0 fun b_5 h_6 => some ([(.c (.bool b_5))], h_6) := by kernel_rfl

/- jacquard/event.Fences: 82 -/
set_option maxRecDepth 100000 in
theorem event_Fences_eq (C : CallF) (L : LoopF) (G : Glo) (l0 : List Cell) (h0 : AHeap) :
    event_Fences.body C L G [(.agg l0)] h0 =
    atK l0 2 fun q_1 => asI .i64 (.c q_1) fun n_2 => scK (n_2 == 3) false (atK l0 2 fun q_3 => asI .i64 (.c q_3) fun n_4 => some ((n_4 == 4), h0)) true h0 fun b_5 h_6 => scK b_5 false (atK l0 2 fun q_7 => asI .i64 (.c q_7) fun n_8 => some ((n_8 == 5), h_6)) true h_6 fun b_9 h_10 => some ([(.c (.bool b_9))], h_10) := by kernel_rfl

/- jacquard/event.Same: 84 -/
set_option maxRecDepth 100000 in
theorem event_Same_eq (C : CallF) (L : LoopF) (G : Glo) (x0 : Cell) (x1 : Cell) (h0 : AHeap) :
    event_Same.body C L G [(.c x0), (.c x1)] h0 =
    c1 (C 112 [(.c x0), (.c x1)] h0) fun y_2 h_1 => asB y_2 fun b_3 => some ([(.c (.bool b_3))], h_1) := by kernel_rfl

/- jacquard/event.Inits: 88 -/
def event_Inits_k2 (C : CallF) (L : LoopF) (G : Glo) (h0 : AHeap) : Ex → St → Option (List AV × AHeap) :=
  kSeq (fun st => event_Inits_p1.exec C L G st (event_Inits.fin G h0)) (event_Inits.fin G h0)
def event_Inits_k3 (C : CallF) (L : LoopF) (G : Glo) (h0 : AHeap) : Ex → St → Option (List AV × AHeap) :=
  kBlk 0 (event_Inits_k2 C L G h0)
def event_Inits_s1 (x3 : Cell) (x7 : Cell) (a8 : Int) (a9 : Int) (h : AHeap) : St := ⟨[.top, .top, .top, .v (.c x3), .top, .top, .top, .v (.c x7), .v (.c (.int .i64 a8)), .v (.c (.int .i64 a9)), .top, .top, .top, .top, .top, .top, .top, .top, .top, .top, .top, .top, .top], [none], h⟩
def event_Inits_F1 (C : CallF) (L : LoopF) (G : Glo) : St → Option (Ex × St) :=
  roundF (fun st f => event_Inits_b1.exec C L G st f) [3, 7, 8, 9] [] [(1, [3], [])]
def event_Inits_x1_1 (x3 : Cell) (h : AHeap) : St := ⟨[.top, .top, .top, .v (.c x3), .top, .top, .top, .top, .top, .top, .top, .top, .top, .top, .top, .top, .top, .top, .top, .top, .top, .top, .top], [none], h⟩
theorem event_Inits_r1 (C : CallF) (L : LoopF) (G : Glo) (x3 : Cell) (x7 : Cell) (a8 : Int) (a9 : Int) (h : AHeap) :
    event_Inits_F1 C L G (event_Inits_s1 x3 x7 a8 a9 h) =
    if (decide (a9 < a8)) = true then idxSK 1 x7 a9 fun k_3 N_4 o_5 => rdH h k_3 N_4 fun l_6 => atK l_6 o_5 fun q_7 => asI .i64 (.c q_7) fun n_8 => if (splice (splice (splice (splice (splice [Cell.int .i64 0, Cell.int .i64 0, Cell.int .i64 0, Cell.int .i64 0, Cell.int .i64 0, Cell.int .i64 0] 0 ([(.int .i64 (-1))] : List Cell)) 1 ([(.int .i64 a9)] : List Cell)) 2 ([(.int .i64 2)] : List Cell)) 3 ([(.int .i64 a9)] : List Cell)) 5 ([(.int .i64 n_8)] : List Cell)).length = 6 ∧ 0 + 6 ≤ [Cell.int .i64 0, Cell.int .i64 0, Cell.int .i64 0, Cell.int .i64 0, Cell.int .i64 0, Cell.int .i64 0].length then if (splice [Cell.int .i64 0, Cell.int .i64 0, Cell.int .i64 0, Cell.int .i64 0, Cell.int .i64 0, Cell.int .i64 0] 0 (splice (splice (splice (splice (splice [Cell.int .i64 0, Cell.int .i64 0, Cell.int .i64 0, Cell.int .i64 0, Cell.int .i64 0, Cell.int .i64 0] 0 ([(.int .i64 (-1))] : List Cell)) 1 ([(.int .i64 a9)] : List Cell)) 2 ([(.int .i64 2)] : List Cell)) 3 ([(.int .i64 a9)] : List Cell)) 5 ([(.int .i64 n_8)] : List Cell))).length = 1 * 6 then appK 6 48 x3 (splice [Cell.int .i64 0, Cell.int .i64 0, Cell.int .i64 0, Cell.int .i64 0, Cell.int .i64 0, Cell.int .i64 0] 0 (splice (splice (splice (splice (splice [Cell.int .i64 0, Cell.int .i64 0, Cell.int .i64 0, Cell.int .i64 0, Cell.int .i64 0, Cell.int .i64 0] 0 ([(.int .i64 (-1))] : List Cell)) 1 ([(.int .i64 a9)] : List Cell)) 2 ([(.int .i64 2)] : List Cell)) 3 ([(.int .i64 a9)] : List Cell)) 5 ([(.int .i64 n_8)] : List Cell))) h fun x_9 h_10 => some (.normal, (event_Inits_s1 x_9 x7 a8 (G.wrap .i64 (a9 + 1)) h_10)) else none else none else some ((.exit 0), (event_Inits_x1_1 x3 h)) := by kernel_rfl
theorem event_Inits_e1_1 (C : CallF) (L : LoopF) (G : Glo) (h0 : AHeap) (x3 : Cell) (h : AHeap) :
    (event_Inits_k3 C L G h0) (.exit 0) (event_Inits_x1_1 x3 h) =
    some ([(.c x3)], h) := by kernel_rfl
set_option maxRecDepth 100000 in
theorem event_Inits_eq (C : CallF) (L : LoopF) (G : Glo) (l0 : List Cell) (h0 : AHeap) :
    event_Inits.body C L G [(.agg l0)] h0 =
    atK l0 1 fun q_1 => lenK q_1 fun n_2 => (L (event_Inits_F1 C L G) (event_Inits_s1 .nils q_1 n_2 0 h0)).bind fun p_11 => (event_Inits_k3 C L G h0) p_11.1 p_11.2 := by kernel_rfl

/- jacquard/event.PO: 90 -/
def event_PO_k2 (C : CallF) (L : LoopF) (G : Glo) (h0 : AHeap) : Ex → St → Option (List AV × AHeap) :=
  kSeq (fun st => event_PO_p1.exec C L G st (event_PO.fin G h0)) (event_PO.fin G h0)
def event_PO_k3 (C : CallF) (L : LoopF) (G : Glo) (h0 : AHeap) : Ex → St → Option (List AV × AHeap) :=
  kBlk 0 (event_PO_k2 C L G h0)
def event_PO_s2 (x0 : Cell) (x15 : Cell) (a16 : Int) (a17 : Int) (s0 : List Cell) (s1 : List Cell) (h : AHeap) : St := ⟨[.v (.c x0), .top, .loc 0 0, .loc 1 0, .top, .top, .top, .top, .top, .top, .top, .top, .top, .top, .top, .v (.c x15), .v (.c (.int .i64 a16)), .v (.c (.int .i64 a17)), .top, .top, .top, .top, .top, .top, .top, .top, .top, .top, .top, .top, .top, .top, .top, .top, .top, .top, .top, .top, .top, .top, .top, .top, .top, .top, .top, .top, .top, .top, .top, .top, .top, .top, .top, .top, .top, .top, .top, .top, .top, .top, .top, .top, .top], [some s0, some s1, none, none], h⟩
def event_PO_F2 (C : CallF) (L : LoopF) (G : Glo) : St → Option (Ex × St) :=
  roundF (fun st f => event_PO_b2.exec C L G st f) [0, 2, 3, 15, 16, 17] [0, 1] [(1, [2, 3], [0, 1])]
def event_PO_k4 (C : CallF) (L : LoopF) (G : Glo) : Ex → St → Option (Ex × St) :=
  kSeq (fun st => event_PO_p2.exec C L G st (kLoop [0, 2, 3, 15, 16, 17] [0, 1] [(1, [2, 3], [0, 1])])) (kLoop [0, 2, 3, 15, 16, 17] [0, 1] [(1, [2, 3], [0, 1])])
def event_PO_k5 (C : CallF) (L : LoopF) (G : Glo) : Ex → St → Option (Ex × St) :=
  kBlk 1 (event_PO_k4 C L G)
def event_PO_k6 (C : CallF) (L : LoopF) (G : Glo) : Ex → St → Option (Ex × St) :=
  kBlk 2 (event_PO_k5 C L G)
def event_PO_s1 (x0 : Cell) (a4 : Int) (x15 : Cell) (a16 : Int) (a17 : Int) (x22 : Cell) (a23 : Int) (a24 : Int) (s0 : List Cell) (s1 : List Cell) (s2 : List Cell) (h : AHeap) : St := ⟨[.v (.c x0), .top, .loc 0 0, .loc 1 0, .v (.c (.int .i64 a4)), .loc 2 0, .top, .top, .top, .top, .top, .top, .top, .top, .top, .v (.c x15), .v (.c (.int .i64 a16)), .v (.c (.int .i64 a17)), .top, .top, .top, .top, .v (.c x22), .v (.c (.int .i64 a23)), .v (.c (.int .i64 a24)), .top, .top, .top, .top, .top, .top, .top, .top, .top, .top, .top, .top, .top, .top, .top, .top, .top, .top, .top, .top, .top, .top, .top, .top, .top, .top, .top, .top, .top, .top, .top, .top, .top, .top, .top, .top, .top, .top], [some s0, some s1, some s2, none], h⟩
def event_PO_F1 (C : CallF) (L : LoopF) (G : Glo) : St → Option (Ex × St) :=
  roundF (fun st f => event_PO_b1.exec C L G st f) [0, 2, 3, 4, 5, 15, 16, 17, 22, 23, 24] [0, 1, 2] [(3, [0, 2, 3, 15, 16, 17], [0, 1])]
def event_PO_x1_3 (x0 : Cell) (x15 : Cell) (a16 : Int) (a17 : Int) (s0 : List Cell) (s1 : List Cell) (h : AHeap) : St := ⟨[.v (.c x0), .top, .loc 0 0, .loc 1 0, .top, .top, .top, .top, .top, .top, .top, .top, .top, .top, .top, .v (.c x15), .v (.c (.int .i64 a16)), .v (.c (.int .i64 a17)), .top, .top, .top, .top, .top, .top, .top, .top, .top, .top, .top, .top, .top, .top, .top, .top, .top, .top, .top, .top, .top, .top, .top, .top, .top, .top, .top, .top, .top, .top, .top, .top, .top, .top, .top, .top, .top, .top, .top, .top, .top, .top, .top, .top, .top], [some s0, some s1, none, none], h⟩
def event_PO_x2_1 (s0 : List Cell) (s1 : List Cell) (h : AHeap) : St := ⟨[.top, .top, .loc 0 0, .loc 1 0, .top, .top, .top, .top, .top, .top, .top, .top, .top, .top, .top, .top, .top, .top, .top, .top, .top, .top, .top, .top, .top, .top, .top, .top, .top, .top, .top, .top, .top, .top, .top, .top, .top, .top, .top, .top, .top, .top, .top, .top, .top, .top, .top, .top, .top, .top, .top, .top, .top, .top, .top, .top, .top, .top, .top, .top, .top, .top, .top], [some s0, some s1, none, none], h⟩
theorem event_PO_r1 (C : CallF) (L : LoopF) (G : Glo) (x0 : Cell) (a4 : Int) (x15 : Cell) (a16 : Int) (a17 : Int) (x22 : Cell) (a23 : Int) (a24 : Int) (s0 : List Cell) (s1 : List Cell) (s2 : List Cell) (h : AHeap) :
    event_PO_F1 C L G (event_PO_s1 x0 a4 x15 a16 a17 x22 a23 a24 s0 s1 s2 h) =
    if (decide (a24 < a23)) = true then idxSK 6 x22 a24 fun k_15 N_16 o_17 => rdH h k_15 N_16 fun l_18 => if o_17 + 6 ≤ l_18.length then if 0 = 0 ∧ [Cell.int .i64 0, Cell.int .i64 0, Cell.int .i64 0, Cell.int .i64 0, Cell.int .i64 0, Cell.int .i64 0].length = 6 ∧ ((l_18.drop o_17).take 6).length = 6 then atK s2 0 fun q_19 => asI .i64 (.c q_19) fun n_20 => scK (decide (n_20 < 0)) true (atK ((l_18.drop o_17).take 6) 0 fun q_21 => asI .i64 (.c q_21) fun n_22 => some ((decide (n_22 ≥ 0)), h)) false h fun b_23 h_24 => scK b_23 false (atK s2 0 fun q_25 => asI .i64 (.c q_25) fun n_26 => scK (decide (n_26 ≥ 0)) true (atK s2 0 fun q_27 => asI .i64 (.c q_27) fun n_28 => atK ((l_18.drop o_17).take 6) 0 fun q_29 => asI .i64 (.c q_29) fun n_30 => some ((n_28 == n_30), h_24)) false h_24 fun b_31 h_32 => scK b_31 true (atK s2 1 fun q_33 => asI .i64 (.c q_33) fun n_34 => atK ((l_18.drop o_17).take 6) 1 fun q_35 => asI .i64 (.c q_35) fun n_36 => some ((decide (n_34 < n_36)), h_32)) false h_32 fun b_37 h_38 => some (b_37, h_38)) true h_24 fun b_39 h_40 => if b_39 = true then if 0 = 0 ∧ s1.length = 65 then c1 (C 10 [(.agg s1), (.c (.int .i64 a4)), (.c (.int .i64 a24))] h_40) fun y_42 h_41 => asA y_42 fun l_43 => if 0 = 0 ∧ s1.length = 65 ∧ l_43.length = 65 then some (.normal, (event_PO_s1 x0 a4 x15 a16 a17 x22 a23 (G.wrap .i64 (a24 + 1)) s0 l_43 s2 h_41)) else none else none else some (.normal, (event_PO_s1 x0 a4 x15 a16 a17 x22 a23 (G.wrap .i64 (a24 + 1)) s0 s1 s2 h_40)) else none else none else some ((.exit 2), (event_PO_x1_3 x0 x15 a16 a17 s0 s1 h)) := by kernel_rfl
theorem event_PO_e1_3 (C : CallF) (L : LoopF) (G : Glo) (x0 : Cell) (x15 : Cell) (a16 : Int) (a17 : Int) (s0 : List Cell) (s1 : List Cell) (h : AHeap) :
    (event_PO_k6 C L G) (.exit 2) (event_PO_x1_3 x0 x15 a16 a17 s0 s1 h) =
    some (.normal, (event_PO_s2 x0 x15 a16 (G.wrap .i64 (a17 + 1)) s0 s1 h)) := by kernel_rfl
theorem event_PO_r2 (C : CallF) (L : LoopF) (G : Glo) (x0 : Cell) (x15 : Cell) (a16 : Int) (a17 : Int) (s0 : List Cell) (s1 : List Cell) (h : AHeap) :
    event_PO_F2 C L G (event_PO_s2 x0 x15 a16 a17 s0 s1 h) =
    if (decide (a17 < a16)) = true then idxSK 6 x15 a17 fun k_10 N_11 o_12 => rdH h k_10 N_11 fun l_13 => if o_12 + 6 ≤ l_13.length then if 0 = 0 ∧ [Cell.int .i64 0, Cell.int .i64 0, Cell.int .i64 0, Cell.int .i64 0, Cell.int .i64 0, Cell.int .i64 0].length = 6 ∧ ((l_13.drop o_12).take 6).length = 6 then lenK x0 fun n_14 => (L (event_PO_F1 C L G) (event_PO_s1 x0 a17 x15 a16 a17 x0 n_14 0 s0 s1 ((l_13.drop o_12).take 6) h)).bind fun p_44 => (event_PO_k6 C L G) p_44.1 p_44.2 else none else none else some ((.exit 0), (event_PO_x2_1 s0 s1 h)) := by kernel_rfl
theorem event_PO_e2_1 (C : CallF) (L : LoopF) (G : Glo) (h0 : AHeap) (s0 : List Cell) (s1 : List Cell) (h : AHeap) :
    (event_PO_k3 C L G h0) (.exit 0) (event_PO_x2_1 s0 s1 h) =
    if 0 = 0 ∧ s1.length = 65 then if 0 = 0 ∧ s0.length = 65 ∧ s1.length = 65 then if 0 = 0 ∧ s1.length = 65 then some ([(.agg s1)], h) else none else none else none := by kernel_rfl
set_option maxRecDepth 100000 in
theorem event_PO_eq (C : CallF) (L : LoopF) (G : Glo) (x0 : Cell) (h0 : AHeap) :
    event_PO.body C L G [(.c x0)] h0 =
    lenK x0 fun n_1 => if (decide (n_1 > 64)) = true then c1 (C 9 [(.c (.int .i64 0))] h0) fun y_3 h_2 => asA y_3 fun l_4 => if 0 = 0 ∧ ([Cell.int .i64 0] ++ List.replicate 64 (Cell.int .u64 0)).length = 65 ∧ l_4.length = 65 then if 0 = 0 ∧ l_4.length = 65 then some ([(.agg l_4)], h_2) else none else none else lenK x0 fun n_5 => c1 (C 9 [(.c (.int .i64 n_5))] h0) fun y_7 h_6 => asA y_7 fun l_8 => if 0 = 0 ∧ ([Cell.int .i64 0] ++ List.replicate 64 (Cell.int .u64 0)).length = 65 ∧ l_8.length = 65 then lenK x0 fun n_9 => (L (event_PO_F2 C L G) (event_PO_s2 x0 x0 n_9 0 ([Cell.int .i64 0] ++ List.replicate 64 (Cell.int .u64 0)) l_8 h_6)).bind fun p_45 => (event_PO_k3 C L G h0) p_45.1 p_45.2 else none := by kernel_rfl

/- jacquard/event.Of: 109 -/
set_option maxRecDepth 100000 in
theorem event_Of_eq (C : CallF) (L : LoopF) (G : Glo) (l0 : List Cell) (l1 : List Cell) (a2 : Int) (h0 : AHeap) :
    event_Of.body C L G [(.agg l0), (.agg l1), (.c (.int .i64 a2))] h0 =
    atK l0 0 fun q_1 => asI .i64 (.c q_1) fun n_2 => if (n_2 == 1) = true then atK l0 2 fun q_3 => asI .i64 (.c q_3) fun n_4 => if 3 + 2 ≤ l0.length then if 0 = 0 ∧ l1.length = 5 then c1 (qh h0 (C 108 [(.agg ((l0.drop 3).take 2)), (.agg l1)] h0)) fun y_6 h_5 => asI .i64 y_6 fun n_7 => if 0 = 0 ∧ [Cell.int .i64 0, Cell.int .i64 0, Cell.int .i64 0, Cell.int .i64 0, Cell.int .i64 0, Cell.int .i64 0].length = 6 ∧ (splice (splice (splice [Cell.int .i64 0, Cell.int .i64 0, Cell.int .i64 0, Cell.int .i64 0, Cell.int .i64 0, Cell.int .i64 0] 2 ([(.int .i64 2)] : List Cell)) 3 ([(.int .i64 n_4)] : List Cell)) 5 ([(.int .i64 n_7)] : List Cell)).length = 6 then if 0 = 0 ∧ (splice (splice (splice [Cell.int .i64 0, Cell.int .i64 0, Cell.int .i64 0, Cell.int .i64 0, Cell.int .i64 0, Cell.int .i64 0] 2 ([(.int .i64 2)] : List Cell)) 3 ([(.int .i64 n_4)] : List Cell)) 5 ([(.int .i64 n_7)] : List Cell)).length = 6 then some ([(.agg (splice (splice (splice [Cell.int .i64 0, Cell.int .i64 0, Cell.int .i64 0, Cell.int .i64 0, Cell.int .i64 0, Cell.int .i64 0] 2 ([(.int .i64 2)] : List Cell)) 3 ([(.int .i64 n_4)] : List Cell)) 5 ([(.int .i64 n_7)] : List Cell))), (.c (.bool false))], h0) else none else none else none else none else if (n_2 == 2) = true then atK l0 2 fun q_8 => asI .i64 (.c q_8) fun n_9 => if 0 = 0 ∧ [Cell.int .i64 0, Cell.int .i64 0, Cell.int .i64 0, Cell.int .i64 0, Cell.int .i64 0, Cell.int .i64 0].length = 6 ∧ (splice (splice (splice [Cell.int .i64 0, Cell.int .i64 0, Cell.int .i64 0, Cell.int .i64 0, Cell.int .i64 0, Cell.int .i64 0] 2 ([(.int .i64 1)] : List Cell)) 3 ([(.int .i64 n_9)] : List Cell)) 4 ([(.int .i64 a2)] : List Cell)).length = 6 then if 0 = 0 ∧ (splice (splice (splice [Cell.int .i64 0, Cell.int .i64 0, Cell.int .i64 0, Cell.int .i64 0, Cell.int .i64 0, Cell.int .i64 0] 2 ([(.int .i64 1)] : List Cell)) 3 ([(.int .i64 n_9)] : List Cell)) 4 ([(.int .i64 a2)] : List Cell)).length = 6 then some ([(.agg (splice (splice (splice [Cell.int .i64 0, Cell.int .i64 0, Cell.int .i64 0, Cell.int .i64 0, Cell.int .i64 0, Cell.int .i64 0] 2 ([(.int .i64 1)] : List Cell)) 3 ([(.int .i64 n_9)] : List Cell)) 4 ([(.int .i64 a2)] : List Cell))), (.c (.bool true))], h0) else none else none else if (n_2 == 4) = true then if 3 + 2 ≤ l0.length then if 0 = 0 ∧ l1.length = 5 then c1 (C 108 [(.agg ((l0.drop 3).take 2)), (.agg l1)] h0) fun y_11 h_10 => asI .i64 y_11 fun n_12 => if (n_12 == a2) = true then atK l0 2 fun q_13 => asI .i64 (.c q_13) fun n_14 => if 6 + 2 ≤ l0.length then if 0 = 0 ∧ l1.length = 5 then c1 (qh h_10 (C 108 [(.agg ((l0.drop 6).take 2)), (.agg l1)] h_10)) fun y_16 h_15 => asI .i64 y_16 fun n_17 => if 0 = 0 ∧ [Cell.int .i64 0, Cell.int .i64 0, Cell.int .i64 0, Cell.int .i64 0, Cell.int .i64 0, Cell.int .i64 0].length = 6 ∧ (splice (splice (splice (splice [Cell.int .i64 0, Cell.int .i64 0, Cell.int .i64 0, Cell.int .i64 0, Cell.int .i64 0, Cell.int .i64 0] 2 ([(.int .i64 4)] : List Cell)) 3 ([(.int .i64 n_14)] : List Cell)) 4 ([(.int .i64 a2)] : List Cell)) 5 ([(.int .i64 n_17)] : List Cell)).length = 6 then if 0 = 0 ∧ (splice (splice (splice (splice [Cell.int .i64 0, Cell.int .i64 0, Cell.int .i64 0, Cell.int .i64 0, Cell.int .i64 0, Cell.int .i64 0] 2 ([(.int .i64 4)] : List Cell)) 3 ([(.int .i64 n_14)] : List Cell)) 4 ([(.int .i64 a2)] : List Cell)) 5 ([(.int .i64 n_17)] : List Cell)).length = 6 then some ([(.agg (splice (splice (splice (splice [Cell.int .i64 0, Cell.int .i64 0, Cell.int .i64 0, Cell.int .i64 0, Cell.int .i64 0, Cell.int .i64 0] 2 ([(.int .i64 4)] : List Cell)) 3 ([(.int .i64 n_14)] : List Cell)) 4 ([(.int .i64 a2)] : List Cell)) 5 ([(.int .i64 n_17)] : List Cell))), (.c (.bool true))], h_10) else none else none else none else none else atK l0 2 fun q_18 => asI .i64 (.c q_18) fun n_19 => if 0 = 0 ∧ [Cell.int .i64 0, Cell.int .i64 0, Cell.int .i64 0, Cell.int .i64 0, Cell.int .i64 0, Cell.int .i64 0].length = 6 ∧ (splice (splice (splice [Cell.int .i64 0, Cell.int .i64 0, Cell.int .i64 0, Cell.int .i64 0, Cell.int .i64 0, Cell.int .i64 0] 2 ([(.int .i64 5)] : List Cell)) 3 ([(.int .i64 n_19)] : List Cell)) 4 ([(.int .i64 a2)] : List Cell)).length = 6 then if 0 = 0 ∧ (splice (splice (splice [Cell.int .i64 0, Cell.int .i64 0, Cell.int .i64 0, Cell.int .i64 0, Cell.int .i64 0, Cell.int .i64 0] 2 ([(.int .i64 5)] : List Cell)) 3 ([(.int .i64 n_19)] : List Cell)) 4 ([(.int .i64 a2)] : List Cell)).length = 6 then some ([(.agg (splice (splice (splice [Cell.int .i64 0, Cell.int .i64 0, Cell.int .i64 0, Cell.int .i64 0, Cell.int .i64 0, Cell.int .i64 0] 2 ([(.int .i64 5)] : List Cell)) 3 ([(.int .i64 n_19)] : List Cell)) 4 ([(.int .i64 a2)] : List Cell))), (.c (.bool true))], h_10) else none else none else none else none else if 0 = 0 ∧ [Cell.int .i64 0, Cell.int .i64 0, Cell.int .i64 0, Cell.int .i64 0, Cell.int .i64 0, Cell.int .i64 0].length = 6 ∧ (splice [Cell.int .i64 0, Cell.int .i64 0, Cell.int .i64 0, Cell.int .i64 0, Cell.int .i64 0, Cell.int .i64 0] 2 ([(.int .i64 3)] : List Cell)).length = 6 then if 0 = 0 ∧ (splice [Cell.int .i64 0, Cell.int .i64 0, Cell.int .i64 0, Cell.int .i64 0, Cell.int .i64 0, Cell.int .i64 0] 2 ([(.int .i64 3)] : List Cell)).length = 6 then some ([(.agg (splice [Cell.int .i64 0, Cell.int .i64 0, Cell.int .i64 0, Cell.int .i64 0, Cell.int .i64 0, Cell.int .i64 0] 2 ([(.int .i64 3)] : List Cell))), (.c (.bool false))], h0) else none else none := by kernel_rfl


end Jq

/- Events: what an instruction does; a thread unfolded. -/
namespace Jq
open Go

structure Evt where
  t : Int
  i : Int
  kind : Int
  loc : Int
  r : Int
  w : Int
  deriving DecidableEq

def Evt.cs (e : Evt) : List Cell := [.int .i64 e.t, .int .i64 e.i, .int .i64 e.kind, .int .i64 e.loc, .int .i64 e.r, .int .i64 e.w]
def evsC (l : List Evt) : List Cell := l.flatMap Evt.cs
theorem Evt.len (e : Evt) : e.cs.length = 6 := rfl
theorem evsC_len : ∀ l : List Evt, (evsC l).length = l.length * 6
  | [] => rfl
  | s :: l => by simp only [evsC, List.flatMap_cons, List.length_append]; rw [show (l.flatMap _).length = _ from evsC_len l, Evt.len]; simp; omega
theorem evsC_at : ∀ (l : List Evt) (i : Nat) (s : Evt), l[i]? = some s → ((evsC l).drop (i * 6)).take 6 = s.cs
  | [], _, _, h => by simp at h
  | q :: l, 0, s, h => by simp at h; subst h; rfl
  | q :: l, i + 1, s, h => by
    have := evsC_at l i s (by simpa using h)
    have e : evsC (q :: l) = q.cs ++ evsC l := rfl
    rw [e, List.drop_append, List.drop_of_length_le (by rw [Evt.len]; omega), List.nil_append, show (i + 1) * 6 - q.cs.length = i * 6 by rw [Evt.len]; omega]
    exact this
theorem evsC_snoc (l : List Evt) (s : Evt) : evsC (l ++ [s]) = evsC l ++ s.cs := by simp [evsC]
theorem evsC_cell {l : List Evt} {i j : Nat} {s : Evt} {c : Cell} (h : l[i]? = some s) (hj : j < 6) (hc : s.cs[j]? = some c) : (evsC l)[i * 6 + j]? = some c := by
  rw [← hc, ← evsC_at l i s h, List.getElem?_take, if_pos hj, List.getElem?_drop]

/-- One event, wherever it is looked at. -/
theorem SlAt.evG {h : AHeap} {x : Cell} {l : List Evt} (s : SlAt h x 6 (evsC l) l.length) {i : Nat} {q : Evt} (hq : l[i]? = some q) :
    ∃ off cs', (∀ {α : Type} (G : Nat → List Cell → Option α), (idxSK 6 x (i : Int) fun k N o => rdH h k N fun l => G o l) = G off cs') ∧ off + 6 ≤ cs'.length ∧ (cs'.drop off).take 6 = q.cs := by
  obtain ⟨off, cs', h1, h2, h3⟩ := s.elG (getI_lt hq)
  exact ⟨off, cs', h1, h2, h3.trans (evsC_at l i q hq)⟩
theorem SlAt.evF {α : Type} {h : AHeap} {x : Cell} {l : List Evt} (s : SlAt h x 6 (evsC l) l.length) {i j : Nat} {q : Evt} {c : Cell} (hq : l[i]? = some q) (hj : j < 6) (hc : q.cs[j]? = some c) {f : Cell → Option α} :
    (idxSK 6 x (i : Int) fun k N o => rdH h k N fun l => atK l (o + j) f) = f c := s.get (getI_lt hq) hj (evsC_cell hq hj hc)

/-- The event of an instruction that reads v. -/
def evOf (i : Ins) (l : Lcl) (v : Int) : Evt :=
  if i.kind = 1 then ⟨0, 0, 2, i.loc, 0, opV i.a l⟩
  else if i.kind = 2 then ⟨0, 0, 1, i.loc, v, 0⟩
  else if i.kind = 4 then (if opV i.a l = v then ⟨0, 0, 4, i.loc, v, opV i.b l⟩ else ⟨0, 0, 5, i.loc, v, 0⟩)
  else ⟨0, 0, 3, 0, 0, 0⟩

def rdI (i : Ins) : Bool := decide (i.kind = 2 ∨ i.kind = 4)

/-- A thread unfolded: its events, where it is, and whether it would read more. -/
def unf (code : List Ins) (t : Int) : Nat → Lcl → List Int → List Evt → List Evt × Lcl × Bool
  | 0, l, _, out => (out, l, false)
  | k + 1, l, rs, out => match nextI code l with
    | none => (out, l, false)
    | some i =>
      if rdI i = true then match rs with
        | [] => (out, l, true)
        | v :: rs => unf code t k (afterL code l v) rs (out ++ [{ evOf i l v with t := t, i := out.length }])
      else unf code t k (afterL code l 0) rs (out ++ [{ evOf i l 0 with t := t, i := out.length }])

theorem nrm_pc {code : List Ins} : ∀ (k : Nat) (l : Lcl), l.pc ≤ (nrm code k l).pc
  | 0, l => by rw [nrm]; omega
  | k + 1, l => by
    rw [nrm]
    cases hs : stepI code l with
    | none => show l.pc ≤ l.pc; omega
    | some l' =>
      have h1 := stepI_pc hs
      have h2 := nrm_pc (code := code) k l'
      show l.pc ≤ (nrm code k l').pc
      omega

theorem afterL_pc {code : List Ins} {l : Lcl} {i : Ins} (h : nextI code l = some i) (v : Int) : l.pc + 1 ≤ (afterL code l v).pc := by
  unfold afterL
  rw [h]
  exact nrm_pc _ _

theorem evOf_novalue {i : Ins} (h : rdI i = false) (l : Lcl) (v w : Int) : evOf i l v = evOf i l w := by
  unfold rdI at h
  rw [decide_eq_false_iff_not] at h
  unfold evOf
  split
  · rfl
  · rw [if_neg (by omega), if_neg (by omega), if_neg (by omega), if_neg (by omega)]
theorem afterL_novalue {code : List Ins} {l : Lcl} {i : Ins} (hn : nextI code l = some i) (h : rdI i = false) (v w : Int) : afterL code l v = afterL code l w := by
  unfold rdI at h
  rw [decide_eq_false_iff_not] at h
  unfold afterL
  rw [hn]
  dsimp only
  rw [if_neg h, if_neg h]

theorem normL_pc (code : List Ins) (l : Lcl) : l.pc ≤ (normL code l).pc := nrm_pc _ _

section
variable {E : Env}

theorem evOf_prog (hE : event_Of_In E) (i : Ins) (l : Lcl) (v : Int) (h : AHeap) : R E 109 [.agg i.cs, .agg l.cs, .c (.int .i64 v)] h = some ([.agg (evOf i l v).cs, .c (.bool (rdI i))], h) := by
  refine R_intro hE.fn ?_
  have n3 : (3 + 2 ≤ i.cs.length) := by rw [Ins.len]; omega
  have n6 : (6 + 2 ≤ i.cs.length) := by rw [Ins.len]; omega
  unfold evOf rdI
  rw [event_Of_eq, ins_kind, asI_ok]
  by_cases k1 : i.kind = 1
  · rw [if_pos (by rw [k1]; rfl), if_pos k1, ins_loc, asI_ok, if_pos n3, if_pos ⟨rfl, rfl⟩, ins_a, Value_R hE.c108, qh_ok, c1_ok, asI_ok, if_pos ⟨rfl, rfl, rfl⟩, if_pos ⟨rfl, rfl⟩, show decide (i.kind = 2 ∨ i.kind = 4) = false from decide_eq_false (by omega)]
    rfl
  · rw [if_neg (by rw [beq_iff_eq]; exact k1), if_neg k1]
    by_cases k2 : i.kind = 2
    · rw [if_pos (by rw [k2]; rfl), if_pos k2, ins_loc, asI_ok, if_pos ⟨rfl, rfl, rfl⟩, if_pos ⟨rfl, rfl⟩, show decide (i.kind = 2 ∨ i.kind = 4) = true from decide_eq_true (by omega)]
      rfl
    · rw [if_neg (by rw [beq_iff_eq]; exact k2), if_neg k2]
      by_cases k4 : i.kind = 4
      · rw [if_pos (by rw [k4]; rfl), if_pos k4, if_pos n3, if_pos ⟨rfl, rfl⟩, ins_a, Value_R hE.c108, c1_ok, asI_ok, show decide (i.kind = 2 ∨ i.kind = 4) = true from decide_eq_true (by omega)]
        by_cases hv : opV i.a l = v
        · rw [if_pos (by rw [hv]; exact beq_self_eq_true _), if_pos hv, ins_loc, asI_ok, if_pos n6, if_pos ⟨rfl, rfl⟩, ins_b, Value_R hE.c108, qh_ok, c1_ok, asI_ok, if_pos ⟨rfl, rfl, rfl⟩, if_pos ⟨rfl, rfl⟩]
          rfl
        · rw [if_neg (by rw [beq_iff_eq]; exact hv), if_neg hv, ins_loc, asI_ok, if_pos ⟨rfl, rfl, rfl⟩, if_pos ⟨rfl, rfl⟩]
          rfl
      · rw [if_neg (by rw [beq_iff_eq]; exact k4), if_neg k4, if_pos ⟨rfl, rfl, rfl⟩, if_pos ⟨rfl, rfl⟩, show decide (i.kind = 2 ∨ i.kind = 4) = false from decide_eq_false (by omega)]
        rfl

theorem evOf_ref (hE : jacquardref6_Event_In E) (i : Ins) (l : Lcl) (v : Int) (h : AHeap) : R E 111 [.agg i.cs, .agg l.cs, .c (.int .i64 v)] h = some ([.agg (evOf i l v).cs], h) := by
  refine R_intro hE.fn ?_
  have n3 : (3 + 2 ≤ i.cs.length) := by rw [Ins.len]; omega
  have n6 : (6 + 2 ≤ i.cs.length) := by rw [Ins.len]; omega
  unfold evOf
  rw [jacquardref6_Event_eq, ins_kind, asI_ok]
  by_cases k1 : i.kind = 1
  · rw [if_pos (by rw [k1]; rfl), if_pos k1, ins_loc, asI_ok, if_pos n3, if_pos ⟨rfl, rfl⟩, ins_a, refValue_R hE.c92, qh_ok, c1_ok, asI_ok, if_pos ⟨rfl, rfl, rfl⟩, if_pos ⟨rfl, rfl⟩]
    rfl
  · rw [if_neg (by rw [beq_iff_eq]; exact k1), if_neg k1]
    by_cases k2 : i.kind = 2
    · rw [if_pos (by rw [k2]; rfl), if_pos k2, ins_loc, asI_ok, if_pos ⟨rfl, rfl, rfl⟩, if_pos ⟨rfl, rfl⟩]
      rfl
    · rw [if_neg (by rw [beq_iff_eq]; exact k2), if_neg k2]
      by_cases k4 : i.kind = 4
      · rw [if_pos (by rw [k4]; rfl), if_pos k4, if_pos n3, if_pos ⟨rfl, rfl⟩, ins_a, refValue_R hE.c92, c1_ok, asI_ok]
        by_cases hv : opV i.a l = v
        · rw [if_pos (by rw [hv]; exact beq_self_eq_true _), if_pos hv, ins_loc, asI_ok, if_pos n6, if_pos ⟨rfl, rfl⟩, ins_b, refValue_R hE.c92, qh_ok, c1_ok, asI_ok, if_pos ⟨rfl, rfl, rfl⟩, if_pos ⟨rfl, rfl⟩]
          rfl
        · rw [if_neg (by rw [beq_iff_eq]; exact fun e => hv e.symm), if_neg hv, ins_loc, asI_ok, if_pos ⟨rfl, rfl, rfl⟩, if_pos ⟨rfl, rfl⟩]
          rfl
      · rw [if_neg (by rw [beq_iff_eq]; exact k4), if_neg k4, if_pos ⟨rfl, rfl, rfl⟩, if_pos ⟨rfl, rfl⟩]
        rfl

/-- A row that can be cut, whatever is made behind it. -/
def SlOkE (h : AHeap) (esz : Nat) (x : Cell) : Prop := ∀ k N off len, x = .sl k N off len → ∀ h', Kp h.length h h' → okSl h' esz k N = true

theorem SlOk.e {h : AHeap} {x : Cell} (s : SlOk h x) (esz : Nat) : SlOkE h esz x := fun k N off len e h' hk => s k N off len e h' hk esz

theorem SlOkE.mono {h h' : AHeap} {esz : Nat} {x : Cell} (s : SlOkE h esz x) (hk : Kp h.length h h') : SlOkE h' esz x :=
  fun k N off len e h2 hk2 => s k N off len e h2 (hk.trans (hk2.mono hk.1))

theorem Own.okE {n : Nat} {h : AHeap} {x : Cell} {esz len : Nat} {cs : List Cell} (o : Own n h x esz cs len) : SlOkE h esz x := by
  intro k N off len' e h' hk
  rcases o.2 with ⟨rfl, _⟩ | ⟨k', rfl, _, hb⟩
  · cases e
  · cases e
    unfold okSl
    rw [hk.blk (blk_lt' hb), hb]; simp

/-- All but the first. -/
theorem SlAt.tail {α : Type} {h0 h : AHeap} {x : Cell} {esz len : Nat} {cs : List Cell} (s : SlAt h x esz cs (len + 1)) (hok : SlOkE h0 esz x) (hp : Kp h0.length h0 h) (hl : Low h0.length x) :
    ∃ x', (∀ f : Cell → Option α, sliceK h esz true false x [.v (.c (.int .i64 1))] f = f x') ∧ SlAt h x' esz (cs.drop esz) len ∧ Low h0.length x' ∧ SlOkE h0 esz x' := by
  have hlen : (cs.drop esz).length = len * esz := by rw [List.length_drop, s.1, Nat.succ_mul]; omega
  rcases s.2 with ⟨_, h0⟩ | ⟨k, N, off, rfl, hb⟩
  · omega
  · refine ⟨.sl k N (off + 1 * esz) (len + 1 - 1), fun f => ?_, ⟨hlen, .inr ⟨k, N, off + 1 * esz, rfl, ?_⟩⟩, ?_, ?_⟩
    · unfold sliceK
      simp only [hok k N off _ rfl h hp, if_true]
      unfold boundsK
      simp only
      rw [if_pos ⟨by omega, by omega⟩]
      rfl
    · rcases hb with h0 | ⟨b, hb, hN, hle, hat⟩
      · omega
      · rw [Nat.succ_mul] at hle hat
        refine .inr ⟨b, hb, hN, by omega, fun j hj => ?_⟩
        rw [List.getElem?_drop, ← hat (esz + j) (by omega)]
        congr 1; omega
    · rcases hl with h1 | h1
      · omega
      · exact .inr h1
    · intro k' N' off' len' hk'
      cases hk'
      exact hok k N off _ rfl

theorem intC_drop (k : IntKind) (l : List Int) (n : Nat) : (intC k l).drop n = intC k (l.drop n) := by simp [intC]

/-- No thread is long. -/
def PProg.small (P : PProg) : Prop := P.thr.length ≤ 1000 ∧ ∀ code ∈ P.thr, code.length ≤ 1000
theorem PProg.small.fits {P : PProg} (h : P.small) : P.fits := ⟨by have := h.1; omega, fun c hc => by have := h.2 c hc; omega⟩
theorem PProg.small.code {P : PProg} (h : P.small) (t : Int) : (P.code t).length ≤ 1000 := by
  unfold PProg.code
  split
  · rw [List.getD_eq_getElem?_getD]
    cases hq : P.thr[t.toNat]? with
    | none => show (0 : Nat) ≤ _; omega
    | some c => exact h.2 c (List.mem_of_getElem? hq)
  · show (0 : Nat) ≤ _; omega

theorem ev_put {t n : Int} {e : Evt} : (e.cs.set 0 (.int .i64 t)).set 1 (.int .i64 n) = ({ e with t := t, i := n } : Evt).cs := rfl
theorem ev_len16 (e : Evt) : e.cs.length = 1 * 6 := rfl
theorem ev_splice {e : Evt} : splice [Cell.int .i64 0, Cell.int .i64 0, Cell.int .i64 0, Cell.int .i64 0, Cell.int .i64 0, Cell.int .i64 0] 0 e.cs = e.cs := rfl

theorem Unfold_R (hE : event_Unfold_In E) {cs : List Cell} {P : PProg} {h : AHeap} (hsm : P.small) (p : ProgAt h cs P) (t : Int) {x : Cell} {rs : List Int} (hx : SlAt h x 1 (intC .i64 rs) rs.length) (hlx : Low h.length x) (hok : SlOkE h 1 x) :
    ∃ y h', R E 78 [.agg cs, .c (.int .i64 t), .c x] h = some ([.c y, .agg (unf (P.code t) t 1001 (startL P t) rs []).2.1.cs, .c (.bool (unf (P.code t) t 1001 (startL P t) rs []).2.2)], h') ∧
      Own h.length h' y 6 (evsC (unf (P.code t) t 1001 (startL P t) rs []).1) (unf (P.code t) t 1001 (startL P t) rs []).1.length ∧ Kp h.length h h' := by
  have hm : maxBytes ≥ 1001 * 48 := by unfold maxBytes; omega
  have hcode := hsm.code t
  have hfit := hsm.fits
  have loop : ∀ (k : Nat) (l : Lcl) (rs : List Int) (out : List Evt) (x y : Cell) (h1 : AHeap), 0 ≤ l.pc → (out.length : Int) ≤ l.pc → ((P.code t).length : Int) < l.pc + k → Kp h.length h h1 →
      SlAt h1 x 1 (intC .i64 rs) rs.length → Low h.length x → SlOkE h 1 x → Own h.length h1 y 6 (evsC out) out.length →
      ∃ y' h', (Lim (event_Unfold_F1 (R E) Lim E.glob) (event_Unfold_s1 t x y cs l.cs h1)).bind (fun p => event_Unfold_k2 (R E) Lim E.glob h p.1 p.2) = some ([.c y', .agg (unf (P.code t) t k l rs out).2.1.cs, .c (.bool (unf (P.code t) t k l rs out).2.2)], h') ∧
        Own h.length h' y' 6 (evsC (unf (P.code t) t k l rs out).1) (unf (P.code t) t k l rs out).1.length ∧ Kp h.length h h' := by
    intro k
    induction k with
    | zero =>
      intro l rs out x y h1 h0 h2 h3 hk hx hlx hok hy
      have hn : nextI (P.code t) l = none := by
        cases hq : nextI (P.code t) l with
        | none => rfl
        | some i => have := nextI_kind hq; omega
      refine ⟨y, h1, ?_, hy, hk⟩
      have hr : event_Unfold_F1 (R E) Lim E.glob (event_Unfold_s1 t x y cs l.cs h1) = some (.ret, event_Unfold_x1_0 y false l.cs h1) := by
        rw [event_Unfold_r1, if_pos ⟨rfl, p.len⟩, if_pos ⟨rfl, rfl⟩, PNext_R hE.c105 (p.keep hk), c2_ok, asA_ok, asB_ok, if_pos ⟨rfl, rfl, rfl⟩, hn, show (none : Option Ins).isSome = false from rfl, if_pos (show (!false) = true from rfl), if_pos ⟨rfl, rfl⟩, if_pos ⟨rfl, rfl, rfl⟩]
      rw [Lim_ret hr, bind_ok, event_Unfold_e1_0, if_pos ⟨rfl, rfl⟩]; rfl
    | succ k ih =>
      intro l rs out x y h1 h0 h2 h3 hk hx hlx hok hy
      rw [unf]
      cases hn : nextI (P.code t) l with
      | none =>
        refine ⟨y, h1, ?_, hy, hk⟩
        have hr : event_Unfold_F1 (R E) Lim E.glob (event_Unfold_s1 t x y cs l.cs h1) = some (.ret, event_Unfold_x1_0 y false l.cs h1) := by
          rw [event_Unfold_r1, if_pos ⟨rfl, p.len⟩, if_pos ⟨rfl, rfl⟩, PNext_R hE.c105 (p.keep hk), c2_ok, asA_ok, asB_ok, if_pos ⟨rfl, rfl, rfl⟩, hn, show (none : Option Ins).isSome = false from rfl, if_pos (show (!false) = true from rfl), if_pos ⟨rfl, rfl⟩, if_pos ⟨rfl, rfl, rfl⟩]
        rw [Lim_ret hr, bind_ok, event_Unfold_e1_0, if_pos ⟨rfl, rfl⟩]
      | some i =>
        have hnk := nextI_kind hn
        have hpc := fun v => afterL_pc hn v
        have hob : out.length < 1000 := by omega
        dsimp only
        cases rs with
        | nil =>
          have e0 : decide ((([] : List Int).length : Int) > 0) = false := rfl
          have e1 : ((([] : List Int).length : Int) == 0) = true := rfl
          by_cases hrd : rdI i = true
          · rw [if_pos hrd]
            refine ⟨y, h1, ?_, hy, hk⟩
            have hr : event_Unfold_F1 (R E) Lim E.glob (event_Unfold_s1 t x y cs l.cs h1) = some (.ret, event_Unfold_x1_0 y true l.cs h1) := by
              rw [event_Unfold_r1, if_pos ⟨rfl, p.len⟩, if_pos ⟨rfl, rfl⟩, PNext_R hE.c105 (p.keep hk), c2_ok, asA_ok, asB_ok, if_pos ⟨rfl, rfl, rfl⟩, hn, show (some i : Option Ins).isSome = true from rfl, if_neg (by simp), hx.len, e0, if_neg (by simp), if_pos ⟨rfl, rfl⟩, if_pos ⟨rfl, rfl⟩, show (some i : Option Ins).getD Ins.zero = i from rfl, evOf_prog hE.c109, c2_ok, asA_ok, asB_ok, if_pos ⟨rfl, rfl, rfl⟩, if_pos hrd, hx.len, if_pos e1, if_pos ⟨rfl, rfl⟩, if_pos ⟨rfl, rfl, rfl⟩]
            rw [Lim_ret hr, bind_ok, event_Unfold_e1_0, if_pos ⟨rfl, rfl⟩]
          · rw [if_neg hrd]
            obtain ⟨y2, h2', ha, hy2, hk2, _⟩ := hy.app (bytes := 48) (xs := ({ evOf i l 0 with t := t, i := out.length } : Evt).cs) hk.1 rfl (by omega) (by omega) (by omega)
            have hr : event_Unfold_F1 (R E) Lim E.glob (event_Unfold_s1 t x y cs l.cs h1) = some (.normal, event_Unfold_s1 t x y2 cs (afterL (P.code t) l 0).cs h2') := by
              rw [event_Unfold_r1, if_pos ⟨rfl, p.len⟩, if_pos ⟨rfl, rfl⟩, PNext_R hE.c105 (p.keep hk), c2_ok, asA_ok, asB_ok, if_pos ⟨rfl, rfl, rfl⟩, hn, show (some i : Option Ins).isSome = true from rfl, if_neg (by simp), hx.len, e0, if_neg (by simp), if_pos ⟨rfl, rfl⟩, if_pos ⟨rfl, rfl⟩, show (some i : Option Ins).getD Ins.zero = i from rfl, evOf_prog hE.c109, c2_ok, asA_ok, asB_ok, if_pos ⟨rfl, rfl, rfl⟩, if_neg hrd, hy.at.len, if_pos (by rw [Evt.len]; omega), if_pos (by rw [List.length_set, Evt.len]; omega), ev_put, if_pos ⟨rfl, rfl⟩, if_pos ⟨rfl, by simp⟩, ev_splice, if_pos (ev_len16 _), ha, if_pos ⟨rfl, p.len⟩, if_pos ⟨rfl, rfl⟩, PAfter_R hE.c106 hfit (p.keep (hk.trans hk2)), c1_ok, asA_ok, if_pos ⟨rfl, rfl, rfl⟩]
            rw [← evsC_snoc] at hy2
            obtain ⟨y3, h3', q1, q2, q3⟩ := ih (afterL (P.code t) l 0) [] (out ++ [{ evOf i l 0 with t := t, i := out.length }]) x y2 h2' (by have := hpc 0; omega) (by have := hpc 0; rw [List.length_append, List.length_singleton]; omega) (by have := hpc 0; omega) (hk.trans hk2) (hx.keep (n := h.length) hlx hk2) hlx hok (by rw [List.length_append, List.length_singleton]; exact hy2)
            refine ⟨y3, h3', ?_, q2, q3⟩
            cases hL : Lim (event_Unfold_F1 (R E) Lim E.glob) (event_Unfold_s1 t x y2 cs (afterL (P.code t) l 0).cs h2') with
            | none => rw [hL] at q1; cases q1
            | some w => rw [Lim_next hr hL]; rw [hL] at q1; exact q1
        | cons v rs =>
          have e0 : decide (((v :: rs).length : Int) > 0) = true := decide_eq_true (by rw [List.length_cons]; omega)
          have e1 : (((v :: rs).length : Int) == 0) = false := by rw [beq_eq_false_iff_ne, List.length_cons]; omega
          have g0 : ∀ {α : Type} (f : Cell → Option α), (idxSK 1 x 0 fun k N o => rdH h1 k N fun l => atK l o f) = f (.int .i64 v) := fun f => hx.get0 (by simp) rfl
          by_cases hrd : rdI i = true
          · rw [if_pos hrd]
            obtain ⟨x2, hs2, hx2, hlx2, hok2⟩ := SlAt.tail (α := Ex × St) (len := rs.length) (by rw [List.length_cons] at hx; exact hx) hok hk hlx
            have hx2' : SlAt h1 x2 1 (intC .i64 rs) rs.length := by rw [intC_drop] at hx2; exact hx2
            obtain ⟨y2, h2', ha, hy2, hk2, _⟩ := hy.app (bytes := 48) (xs := ({ evOf i l v with t := t, i := out.length } : Evt).cs) hk.1 rfl (by omega) (by omega) (by omega)
            have hr : event_Unfold_F1 (R E) Lim E.glob (event_Unfold_s1 t x y cs l.cs h1) = some (.normal, event_Unfold_s1 t x2 y2 cs (afterL (P.code t) l v).cs h2') := by
              rw [event_Unfold_r1, if_pos ⟨rfl, p.len⟩, if_pos ⟨rfl, rfl⟩, PNext_R hE.c105 (p.keep hk), c2_ok, asA_ok, asB_ok, if_pos ⟨rfl, rfl, rfl⟩, hn, show (some i : Option Ins).isSome = true from rfl, if_neg (by simp), hx.len, e0, if_pos rfl, g0, asI_ok, if_pos ⟨rfl, rfl⟩, if_pos ⟨rfl, rfl⟩, show (some i : Option Ins).getD Ins.zero = i from rfl, evOf_prog hE.c109, c2_ok, asA_ok, asB_ok, if_pos ⟨rfl, rfl, rfl⟩, if_pos hrd, hx.len, e1, if_neg (by simp), hs2, hy.at.len, if_pos (by rw [Evt.len]; omega), if_pos (by rw [List.length_set, Evt.len]; omega), ev_put, if_pos ⟨rfl, rfl⟩, if_pos ⟨rfl, by simp⟩, ev_splice, if_pos (ev_len16 _), ha, if_pos ⟨rfl, p.len⟩, if_pos ⟨rfl, rfl⟩, PAfter_R hE.c106 hfit (p.keep (hk.trans hk2)), c1_ok, asA_ok, if_pos ⟨rfl, rfl, rfl⟩]
            rw [← evsC_snoc] at hy2
            obtain ⟨y3, h3', q1, q2, q3⟩ := ih (afterL (P.code t) l v) rs (out ++ [{ evOf i l v with t := t, i := out.length }]) x2 y2 h2' (by have := hpc v; omega) (by have := hpc v; rw [List.length_append, List.length_singleton]; omega) (by have := hpc v; omega) (hk.trans hk2) (hx2'.keep (n := h.length) hlx2 hk2) hlx2 hok2 (by rw [List.length_append, List.length_singleton]; exact hy2)
            refine ⟨y3, h3', ?_, q2, q3⟩
            cases hL : Lim (event_Unfold_F1 (R E) Lim E.glob) (event_Unfold_s1 t x2 y2 cs (afterL (P.code t) l v).cs h2') with
            | none => rw [hL] at q1; cases q1
            | some w => rw [Lim_next hr hL]; rw [hL] at q1; exact q1
          · have hrd' : rdI i = false := by simpa using hrd
            rw [if_neg hrd]
            obtain ⟨y2, h2', ha, hy2, hk2, _⟩ := hy.app (bytes := 48) (xs := ({ evOf i l 0 with t := t, i := out.length } : Evt).cs) hk.1 rfl (by omega) (by omega) (by omega)
            have hr : event_Unfold_F1 (R E) Lim E.glob (event_Unfold_s1 t x y cs l.cs h1) = some (.normal, event_Unfold_s1 t x y2 cs (afterL (P.code t) l 0).cs h2') := by
              rw [event_Unfold_r1, if_pos ⟨rfl, p.len⟩, if_pos ⟨rfl, rfl⟩, PNext_R hE.c105 (p.keep hk), c2_ok, asA_ok, asB_ok, if_pos ⟨rfl, rfl, rfl⟩, hn, show (some i : Option Ins).isSome = true from rfl, if_neg (by simp), hx.len, e0, if_pos rfl, g0, asI_ok, if_pos ⟨rfl, rfl⟩, if_pos ⟨rfl, rfl⟩, show (some i : Option Ins).getD Ins.zero = i from rfl, evOf_prog hE.c109, evOf_novalue hrd' l v 0, c2_ok, asA_ok, asB_ok, if_pos ⟨rfl, rfl, rfl⟩, if_neg hrd, hy.at.len, if_pos (by rw [Evt.len]; omega), if_pos (by rw [List.length_set, Evt.len]; omega), ev_put, if_pos ⟨rfl, rfl⟩, if_pos ⟨rfl, by simp⟩, ev_splice, if_pos (ev_len16 _), ha, if_pos ⟨rfl, p.len⟩, if_pos ⟨rfl, rfl⟩, PAfter_R hE.c106 hfit (p.keep (hk.trans hk2)), afterL_novalue hn hrd' v 0, c1_ok, asA_ok, if_pos ⟨rfl, rfl, rfl⟩]
            rw [← evsC_snoc] at hy2
            obtain ⟨y3, h3', q1, q2, q3⟩ := ih (afterL (P.code t) l 0) (v :: rs) (out ++ [{ evOf i l 0 with t := t, i := out.length }]) x y2 h2' (by have := hpc 0; omega) (by have := hpc 0; rw [List.length_append, List.length_singleton]; omega) (by have := hpc 0; omega) (hk.trans hk2) (hx.keep (n := h.length) hlx hk2) hlx hok (by rw [List.length_append, List.length_singleton]; exact hy2)
            refine ⟨y3, h3', ?_, q2, q3⟩
            cases hL : Lim (event_Unfold_F1 (R E) Lim E.glob) (event_Unfold_s1 t x y2 cs (afterL (P.code t) l 0).cs h2') with
            | none => rw [hL] at q1; cases q1
            | some w => rw [Lim_next hr hL]; rw [hL] at q1; exact q1
  have hs0 : 0 ≤ (startL P t).pc := by have := normL_pc (P.code t) Lcl.zero; exact this
  obtain ⟨y', h', q1, q2, q3⟩ := loop 1001 (startL P t) rs [] x .nils h hs0 (by simpa using hs0) (by omega) (Kp.refl _ _) hx hlx hok (Own.nil _ _ _)
  refine ⟨y', h', R_intro hE.fn ?_, q2, q3⟩
  rw [event_Unfold_eq, if_pos ⟨rfl, p.len⟩, PStart_R hE.c94 hfit p, c1_ok, asA_ok, if_pos ⟨rfl, rfl, rfl⟩]
  exact q1

end
end Jq

namespace Jq
open Go

/- jacquard/jacquardlaw10.awake: 77 -/
set_option maxRecDepth 100000 in
theorem jacquardlaw10_awake_eq (C : CallF) (L : LoopF) (G : Glo)  (h0 : AHeap) :
    jacquardlaw10_awake.body C L G [] h0 =
    if (splice [Cell.int .u8 0] 0 ([(.int .u8 120)] : List Cell)).length = 1 * 1 then markK (.sl h0.length ((splice [Cell.int .u8 0] 0 ([(.int .u8 120)] : List Cell)).length) 0 1) (h0 ++ [some (Blk.mk true 1 (splice [Cell.int .u8 0] 0 ([(.int .u8 120)] : List Cell)))]) fun x_1 h_2 => if (splice [Cell.int .i64 0] 0 ([(.int .i64 4)] : List Cell)).length = 1 * 1 then if (splice (splice (List.replicate 9 (Cell.int .i64 0)) 0 ([(.int .i64 2)] : List Cell)) 1 ([(.int .i64 1)] : List Cell)).length = 9 ∧ 0 + 9 ≤ (List.replicate 9 (Cell.int .i64 0)).length then if (splice (List.replicate 9 (Cell.int .i64 0)) 0 (splice (splice (List.replicate 9 (Cell.int .i64 0)) 0 ([(.int .i64 2)] : List Cell)) 1 ([(.int .i64 1)] : List Cell))).length = 1 * 9 then if (splice [Cell.nils] 0 ([(.sl ((h_2 ++ [some (Blk.mk true 1 (splice [Cell.int .i64 0] 0 ([(.int .i64 4)] : List Cell)))]).length) ((splice (List.replicate 9 (Cell.int .i64 0)) 0 (splice (splice (List.replicate 9 (Cell.int .i64 0)) 0 ([(.int .i64 2)] : List Cell)) 1 ([(.int .i64 1)] : List Cell))).length) 0 1)] : List Cell)).length = 1 * 1 then if 0 = 0 ∧ [Cell.nils, Cell.nils, Cell.nils].length = 3 ∧ (splice (splice (splice [Cell.nils, Cell.nils, Cell.nils] 0 ([x_1] : List Cell)) 1 ([(.sl h_2.length ((splice [Cell.int .i64 0] 0 ([(.int .i64 4)] : List Cell)).length) 0 1)] : List Cell)) 2 ([(.sl (((h_2 ++ [some (Blk.mk true 1 (splice [Cell.int .i64 0] 0 ([(.int .i64 4)] : List Cell)))]) ++ [some (Blk.mk true 9 (splice (List.replicate 9 (Cell.int .i64 0)) 0 (splice (splice (List.replicate 9 (Cell.int .i64 0)) 0 ([(.int .i64 2)] : List Cell)) 1 ([(.int .i64 1)] : List Cell))))]).length) ((splice [Cell.nils] 0 ([(.sl ((h_2 ++ [some (Blk.mk true 1 (splice [Cell.int .i64 0] 0 ([(.int .i64 4)] : List Cell)))]).length) ((splice (List.replicate 9 (Cell.int .i64 0)) 0 (splice (splice (List.replicate 9 (Cell.int .i64 0)) 0 ([(.int .i64 2)] : List Cell)) 1 ([(.int .i64 1)] : List Cell))).length) 0 1)] : List Cell)).length) 0 1)] : List Cell)).length = 3 then if 0 = 0 ∧ (splice (splice (splice [Cell.nils, Cell.nils, Cell.nils] 0 ([x_1] : List Cell)) 1 ([(.sl h_2.length ((splice [Cell.int .i64 0] 0 ([(.int .i64 4)] : List Cell)).length) 0 1)] : List Cell)) 2 ([(.sl (((h_2 ++ [some (Blk.mk true 1 (splice [Cell.int .i64 0] 0 ([(.int .i64 4)] : List Cell)))]) ++ [some (Blk.mk true 9 (splice (List.replicate 9 (Cell.int .i64 0)) 0 (splice (splice (List.replicate 9 (Cell.int .i64 0)) 0 ([(.int .i64 2)] : List Cell)) 1 ([(.int .i64 1)] : List Cell))))]).length) ((splice [Cell.nils] 0 ([(.sl ((h_2 ++ [some (Blk.mk true 1 (splice [Cell.int .i64 0] 0 ([(.int .i64 4)] : List Cell)))]).length) ((splice (List.replicate 9 (Cell.int .i64 0)) 0 (splice (splice (List.replicate 9 (Cell.int .i64 0)) 0 ([(.int .i64 2)] : List Cell)) 1 ([(.int .i64 1)] : List Cell))).length) 0 1)] : List Cell)).length) 0 1)] : List Cell)).length = 3 then if (splice [Cell.int .i64 0] 0 ([(.int .i64 5)] : List Cell)).length = 1 * 1 then c3 (C 78 [(.agg (splice (splice (splice [Cell.nils, Cell.nils, Cell.nils] 0 ([x_1] : List Cell)) 1 ([(.sl h_2.length ((splice [Cell.int .i64 0] 0 ([(.int .i64 4)] : List Cell)).length) 0 1)] : List Cell)) 2 ([(.sl (((h_2 ++ [some (Blk.mk true 1 (splice [Cell.int .i64 0] 0 ([(.int .i64 4)] : List Cell)))]) ++ [some (Blk.mk true 9 (splice (List.replicate 9 (Cell.int .i64 0)) 0 (splice (splice (List.replicate 9 (Cell.int .i64 0)) 0 ([(.int .i64 2)] : List Cell)) 1 ([(.int .i64 1)] : List Cell))))]).length) ((splice [Cell.nils] 0 ([(.sl ((h_2 ++ [some (Blk.mk true 1 (splice [Cell.int .i64 0] 0 ([(.int .i64 4)] : List Cell)))]).length) ((splice (List.replicate 9 (Cell.int .i64 0)) 0 (splice (splice (List.replicate 9 (Cell.int .i64 0)) 0 ([(.int .i64 2)] : List Cell)) 1 ([(.int .i64 1)] : List Cell))).length) 0 1)] : List Cell)).length) 0 1)] : List Cell))), (.c (.int .i64 0)), (.c (.sl ((((h_2 ++ [some (Blk.mk true 1 (splice [Cell.int .i64 0] 0 ([(.int .i64 4)] : List Cell)))]) ++ [some (Blk.mk true 9 (splice (List.replicate 9 (Cell.int .i64 0)) 0 (splice (splice (List.replicate 9 (Cell.int .i64 0)) 0 ([(.int .i64 2)] : List Cell)) 1 ([(.int .i64 1)] : List Cell))))]) ++ [some (Blk.mk true 1 (splice [Cell.nils] 0 ([(.sl ((h_2 ++ [some (Blk.mk true 1 (splice [Cell.int .i64 0] 0 ([(.int .i64 4)] : List Cell)))]).length) ((splice (List.replicate 9 (Cell.int .i64 0)) 0 (splice (splice (List.replicate 9 (Cell.int .i64 0)) 0 ([(.int .i64 2)] : List Cell)) 1 ([(.int .i64 1)] : List Cell))).length) 0 1)] : List Cell)))]).length) ((splice [Cell.int .i64 0] 0 ([(.int .i64 5)] : List Cell)).length) 0 1))] ((((h_2 ++ [some (Blk.mk true 1 (splice [Cell.int .i64 0] 0 ([(.int .i64 4)] : List Cell)))]) ++ [some (Blk.mk true 9 (splice (List.replicate 9 (Cell.int .i64 0)) 0 (splice (splice (List.replicate 9 (Cell.int .i64 0)) 0 ([(.int .i64 2)] : List Cell)) 1 ([(.int .i64 1)] : List Cell))))]) ++ [some (Blk.mk true 1 (splice [Cell.nils] 0 ([(.sl ((h_2 ++ [some (Blk.mk true 1 (splice [Cell.int .i64 0] 0 ([(.int .i64 4)] : List Cell)))]).length) ((splice (List.replicate 9 (Cell.int .i64 0)) 0 (splice (splice (List.replicate 9 (Cell.int .i64 0)) 0 ([(.int .i64 2)] : List Cell)) 1 ([(.int .i64 1)] : List Cell))).length) 0 1)] : List Cell)))]) ++ [some (Blk.mk true 1 (splice [Cell.int .i64 0] 0 ([(.int .i64 5)] : List Cell)))])) fun y_4 y_5 y_6 h_3 => asC y_4 fun x_7 => asA y_5 fun l_8 => asB y_6 fun b_9 => if 0 = 0 ∧ [Cell.int .i64 0, Cell.int .i64 0, Cell.int .i64 0, Cell.int .i64 0, Cell.int .i64 0].length = 5 ∧ l_8.length = 5 then if 0 = 0 ∧ (splice (splice (splice [Cell.nils, Cell.nils, Cell.nils] 0 ([x_1] : List Cell)) 1 ([(.sl h_2.length ((splice [Cell.int .i64 0] 0 ([(.int .i64 4)] : List Cell)).length) 0 1)] : List Cell)) 2 ([(.sl (((h_2 ++ [some (Blk.mk true 1 (splice [Cell.int .i64 0] 0 ([(.int .i64 4)] : List Cell)))]) ++ [some (Blk.mk true 9 (splice (List.replicate 9 (Cell.int .i64 0)) 0 (splice (splice (List.replicate 9 (Cell.int .i64 0)) 0 ([(.int .i64 2)] : List Cell)) 1 ([(.int .i64 1)] : List Cell))))]).length) ((splice [Cell.nils] 0 ([(.sl ((h_2 ++ [some (Blk.mk true 1 (splice [Cell.int .i64 0] 0 ([(.int .i64 4)] : List Cell)))]).length) ((splice (List.replicate 9 (Cell.int .i64 0)) 0 (splice (splice (List.replicate 9 (Cell.int .i64 0)) 0 ([(.int .i64 2)] : List Cell)) 1 ([(.int .i64 1)] : List Cell))).length) 0 1)] : List Cell)).length) 0 1)] : List Cell)).length = 3 then c1 (C 88 [(.agg (splice (splice (splice [Cell.nils, Cell.nils, Cell.nils] 0 ([x_1] : List Cell)) 1 ([(.sl h_2.length ((splice [Cell.int .i64 0] 0 ([(.int .i64 4)] : List Cell)).length) 0 1)] : List Cell)) 2 ([(.sl (((h_2 ++ [some (Blk.mk true 1 (splice [Cell.int .i64 0] 0 ([(.int .i64 4)] : List Cell)))]) ++ [some (Blk.mk true 9 (splice (List.replicate 9 (Cell.int .i64 0)) 0 (splice (splice (List.replicate 9 (Cell.int .i64 0)) 0 ([(.int .i64 2)] : List Cell)) 1 ([(.int .i64 1)] : List Cell))))]).length) ((splice [Cell.nils] 0 ([(.sl ((h_2 ++ [some (Blk.mk true 1 (splice [Cell.int .i64 0] 0 ([(.int .i64 4)] : List Cell)))]).length) ((splice (List.replicate 9 (Cell.int .i64 0)) 0 (splice (splice (List.replicate 9 (Cell.int .i64 0)) 0 ([(.int .i64 2)] : List Cell)) 1 ([(.int .i64 1)] : List Cell))).length) 0 1)] : List Cell)).length) 0 1)] : List Cell)))] h_3) fun y_11 h_10 => asC y_11 fun x_12 => lenK x_7 fun n_13 => scK (n_13 == 1) true (idxSK 6 x_7 0 fun k_14 N_15 o_16 => rdH h_10 k_14 N_15 fun l_17 => if o_16 + 6 ≤ l_17.length then if alike ((l_17.drop o_16).take 6) ([Cell.int .i64 0, Cell.int .i64 0, Cell.int .i64 0, Cell.int .i64 0, Cell.int .i64 0, Cell.int .i64 0]) = true ∧ alike (splice (splice [Cell.int .i64 0, Cell.int .i64 0, Cell.int .i64 0, Cell.int .i64 0, Cell.int .i64 0, Cell.int .i64 0] 2 ([(.int .i64 1)] : List Cell)) 4 ([(.int .i64 5)] : List Cell)) ([Cell.int .i64 0, Cell.int .i64 0, Cell.int .i64 0, Cell.int .i64 0, Cell.int .i64 0, Cell.int .i64 0]) = true then some ((decide (((l_17.drop o_16).take 6) = (splice (splice [Cell.int .i64 0, Cell.int .i64 0, Cell.int .i64 0, Cell.int .i64 0, Cell.int .i64 0, Cell.int .i64 0] 2 ([(.int .i64 1)] : List Cell)) 4 ([(.int .i64 5)] : List Cell)))), h_10) else none else none) false h_10 fun b_18 h_19 => scK b_18 true (atK l_8 2 fun q_20 => asI .i64 (.c q_20) fun n_21 => some ((n_21 == 5), h_19)) false h_19 fun b_22 h_23 => scK b_22 true (some ((!b_9), h_23)) false h_23 fun b_24 h_25 => scK b_24 true (lenK x_12 fun n_26 => some ((n_26 == 1), h_25)) false h_25 fun b_27 h_28 => scK b_27 true (idxSK 6 x_12 0 fun k_29 N_30 o_31 => rdH h_28 k_29 N_30 fun l_32 => if o_31 + 6 ≤ l_32.length then if alike ((l_32.drop o_31).take 6) ([Cell.int .i64 0, Cell.int .i64 0, Cell.int .i64 0, Cell.int .i64 0, Cell.int .i64 0, Cell.int .i64 0]) = true ∧ alike (splice (splice (splice [Cell.int .i64 0, Cell.int .i64 0, Cell.int .i64 0, Cell.int .i64 0, Cell.int .i64 0, Cell.int .i64 0] 0 ([(.int .i64 (-1))] : List Cell)) 2 ([(.int .i64 2)] : List Cell)) 5 ([(.int .i64 4)] : List Cell)) ([Cell.int .i64 0, Cell.int .i64 0, Cell.int .i64 0, Cell.int .i64 0, Cell.int .i64 0, Cell.int .i64 0]) = true then some ((decide (((l_32.drop o_31).take 6) = (splice (splice (splice [Cell.int .i64 0, Cell.int .i64 0, Cell.int .i64 0, Cell.int .i64 0, Cell.int .i64 0, Cell.int .i64 0] 0 ([(.int .i64 (-1))] : List Cell)) 2 ([(.int .i64 2)] : List Cell)) 5 ([(.int .i64 4)] : List Cell)))), h_28) else none else none) false h_28 fun b_33 h_34 => finish true h0 [(.c (.bool b_33))] h_34 else none else none else none else none else none else none else none else none else none else none := by kernel_rfl

/- jacquard/jacquardlaw10.EventCounts: 211 -/
def jacquardlaw10_EventCounts_k2 (C : CallF) (L : LoopF) (G : Glo) (h0 : AHeap) : Ex → St → Option (List AV × AHeap) :=
  kSeq (fun st => jacquardlaw10_EventCounts_p1.exec C L G st (jacquardlaw10_EventCounts.fin G h0)) (jacquardlaw10_EventCounts.fin G h0)
def jacquardlaw10_EventCounts_k3 (C : CallF) (L : LoopF) (G : Glo) (h0 : AHeap) : Ex → St → Option (List AV × AHeap) :=
  kBlk 0 (jacquardlaw10_EventCounts_k2 C L G h0)
def jacquardlaw10_EventCounts_s1 (a1 : Int) (x2 : Cell) (x8 : Cell) (b10 : Bool) (a11 : Int) (a12 : Int) (s0 : List Cell) (s1 : List Cell) (h : AHeap) : St := ⟨[.top, .v (.c (.int .i64 a1)), .v (.c x2), .top, .top, .top, .top, .loc 0 0, .v (.c x8), .loc 1 0, .v (.c (.bool b10)), .v (.c (.int .i64 a11)), .v (.c (.int .i64 a12)), .top, .top, .top, .top, .top, .top, .top, .top, .top, .top, .top, .top, .top, .top, .top, .top, .top, .top, .top, .top, .top, .top, .top, .top, .top, .top, .top, .top, .top, .top, .top, .top, .top, .top, .top, .top, .top, .top, .top, .top, .top, .top, .top, .top, .top, .top, .top, .top, .top, .top, .top, .top, .top, .top, .top, .top, .top, .top, .top, .top, .top, .top, .top, .top, .top, .top, .top, .top, .top, .top, .top, .top, .top, .top, .top, .top, .top, .top, .top, .top, .top, .top, .top, .top, .top, .top, .top, .top, .top, .top, .top, .top, .top, .top, .top, .top, .top, .top, .top, .top, .top, .top, .top, .top, .top, .top, .top, .top, .top, .top, .top, .top, .top, .top, .top, .top, .top, .top, .top, .top, .top, .top, .top, .top, .top, .top, .top, .top, .top, .top, .top, .top, .top, .top, .top, .top, .top], [some s0, some s1, none], h⟩
def jacquardlaw10_EventCounts_F1 (C : CallF) (L : LoopF) (G : Glo) : St → Option (Ex × St) :=
  roundF (fun st f => jacquardlaw10_EventCounts_b1.exec C L G st f) [1, 2, 7, 8, 9, 10, 11, 12] [0, 1] [(0, [6], []), (1, [1, 2, 7, 8, 9, 10, 11], [0, 1])]
def jacquardlaw10_EventCounts_x1_0 (b6 : Bool) (h : AHeap) : St := ⟨[.top, .top, .top, .top, .top, .top, .v (.c (.bool b6)), .top, .top, .top, .top, .top, .top, .top, .top, .top, .top, .top, .top, .top, .top, .top, .top, .top, .top, .top, .top, .top, .top, .top, .top, .top, .top, .top, .top, .top, .top, .top, .top, .top, .top, .top, .top, .top, .top, .top, .top, .top, .top, .top, .top, .top, .top, .top, .top, .top, .top, .top, .top, .top, .top, .top, .top, .top, .top, .top, .top, .top, .top, .top, .top, .top, .top, .top, .top, .top, .top, .top, .top, .top, .top, .top, .top, .top, .top, .top, .top, .top, .top, .top, .top, .top, .top, .top, .top, .top, .top, .top, .top, .top, .top, .top, .top, .top, .top, .top, .top, .top, .top, .top, .top, .top, .top, .top, .top, .top, .top, .top, .top, .top, .top, .top, .top, .top, .top, .top, .top, .top, .top, .top, .top, .top, .top, .top, .top, .top, .top, .top, .top, .top, .top, .top, .top, .top, .top, .top, .top, .top, .top, .top], [none, none, none], h⟩
def jacquardlaw10_EventCounts_x1_1 (a1 : Int) (x2 : Cell) (x8 : Cell) (b10 : Bool) (a11 : Int) (s0 : List Cell) (s1 : List Cell) (h : AHeap) : St := ⟨[.top, .v (.c (.int .i64 a1)), .v (.c x2), .top, .top, .top, .top, .loc 0 0, .v (.c x8), .loc 1 0, .v (.c (.bool b10)), .v (.c (.int .i64 a11)), .top, .top, .top, .top, .top, .top, .top, .top, .top, .top, .top, .top, .top, .top, .top, .top, .top, .top, .top, .top, .top, .top, .top, .top, .top, .top, .top, .top, .top, .top, .top, .top, .top, .top, .top, .top, .top, .top, .top, .top, .top, .top, .top, .top, .top, .top, .top, .top, .top, .top, .top, .top, .top, .top, .top, .top, .top, .top, .top, .top, .top, .top, .top, .top, .top, .top, .top, .top, .top, .top, .top, .top, .top, .top, .top, .top, .top, .top, .top, .top, .top, .top, .top, .top, .top, .top, .top, .top, .top, .top, .top, .top, .top, .top, .top, .top, .top, .top, .top, .top, .top, .top, .top, .top, .top, .top, .top, .top, .top, .top, .top, .top, .top, .top, .top, .top, .top, .top, .top, .top, .top, .top, .top, .top, .top, .top, .top, .top, .top, .top, .top, .top, .top, .top, .top, .top, .top, .top], [some s0, some s1, none], h⟩
theorem jacquardlaw10_EventCounts_r1 (C : CallF) (L : LoopF) (G : Glo) (a1 : Int) (x2 : Cell) (x8 : Cell) (b10 : Bool) (a11 : Int) (a12 : Int) (s0 : List Cell) (s1 : List Cell) (h : AHeap) :
    jacquardlaw10_EventCounts_F1 C L G (jacquardlaw10_EventCounts_s1 a1 x2 x8 b10 a11 a12 s0 s1 h) =
    lenK x8 fun n_17 => if (decide (a12 < n_17)) = true then idxSK 6 x8 a12 fun k_18 N_19 o_20 => rdH h k_18 N_19 fun l_21 => atK l_21 (o_20 + 0) fun q_22 => asI .i64 (.c q_22) fun n_23 => scK (n_23 != a1) false (idxSK 6 x8 a12 fun k_24 N_25 o_26 => rdH h k_24 N_25 fun l_27 => atK l_27 (o_26 + 1) fun q_28 => asI .i64 (.c q_28) fun n_29 => some ((n_29 != a12), h)) true h fun b_30 h_31 => scK b_30 false (idxSK 6 x8 a12 fun k_32 N_33 o_34 => rdH h_31 k_32 N_33 fun l_35 => atK l_35 (o_34 + 2) fun q_36 => asI .i64 (.c q_36) fun n_37 => some ((decide (n_37 < 1)), h_31)) true h_31 fun b_38 h_39 => scK b_38 false (idxSK 6 x8 a12 fun k_40 N_41 o_42 => rdH h_39 k_40 N_41 fun l_43 => atK l_43 (o_42 + 2) fun q_44 => asI .i64 (.c q_44) fun n_45 => some ((decide (n_45 > 5)), h_39)) true h_39 fun b_46 h_47 => if b_46 = true then some (.ret, (jacquardlaw10_EventCounts_x1_0 false h_47)) else idxSK 6 x8 a12 fun k_48 N_49 o_50 => rdH h_47 k_48 N_49 fun l_51 => if o_50 + 6 ≤ l_51.length then c1 (C 79 [(.agg ((l_51.drop o_50).take 6))] h_47) fun y_53 h_52 => asB y_53 fun b_54 => if b_54 = true then lenK x2 fun n_55 => scK (decide (a11 ≥ n_55)) false (idxSK 6 x8 a12 fun k_56 N_57 o_58 => rdH h_52 k_56 N_57 fun l_59 => atK l_59 (o_58 + 4) fun q_60 => asI .i64 (.c q_60) fun n_61 => idxSK 1 x2 a11 fun k_62 N_63 o_64 => rdH h_52 k_62 N_63 fun l_65 => atK l_65 o_64 fun q_66 => asI .i64 (.c q_66) fun n_67 => some ((n_61 != n_67), h_52)) true h_52 fun b_68 h_69 => if b_68 = true then some (.ret, (jacquardlaw10_EventCounts_x1_0 false h_69)) else idxSK 6 x8 a12 fun k_70 N_71 o_72 => rdH h_69 k_70 N_71 fun l_73 => if o_72 + 6 ≤ l_73.length then c1 (C 80 [(.agg ((l_73.drop o_72).take 6))] h_69) fun y_75 h_74 => asB y_75 fun b_76 => scK (!b_76) true (idxSK 6 x8 a12 fun k_77 N_78 o_79 => rdH h_74 k_77 N_78 fun l_80 => atK l_80 (o_79 + 5) fun q_81 => asI .i64 (.c q_81) fun n_82 => some ((n_82 != 0), h_74)) false h_74 fun b_83 h_84 => if b_83 = true then some (.ret, (jacquardlaw10_EventCounts_x1_0 false h_84)) else some (.normal, (jacquardlaw10_EventCounts_s1 a1 x2 x8 b10 (G.wrap .i64 (a11 + 1)) (G.wrap .i64 (a12 + 1)) s0 s1 h_84)) else none else idxSK 6 x8 a12 fun k_85 N_86 o_87 => rdH h_52 k_85 N_86 fun l_88 => atK l_88 (o_87 + 4) fun q_89 => asI .i64 (.c q_89) fun n_90 => if (n_90 != 0) = true then some (.ret, (jacquardlaw10_EventCounts_x1_0 false h_52)) else idxSK 6 x8 a12 fun k_91 N_92 o_93 => rdH h_52 k_91 N_92 fun l_94 => if o_93 + 6 ≤ l_94.length then c1 (C 80 [(.agg ((l_94.drop o_93).take 6))] h_52) fun y_96 h_95 => asB y_96 fun b_97 => scK (!b_97) true (idxSK 6 x8 a12 fun k_98 N_99 o_100 => rdH h_95 k_98 N_99 fun l_101 => atK l_101 (o_100 + 5) fun q_102 => asI .i64 (.c q_102) fun n_103 => some ((n_103 != 0), h_95)) false h_95 fun b_104 h_105 => if b_104 = true then some (.ret, (jacquardlaw10_EventCounts_x1_0 false h_105)) else some (.normal, (jacquardlaw10_EventCounts_s1 a1 x2 x8 b10 a11 (G.wrap .i64 (a12 + 1)) s0 s1 h_105)) else none else none else some ((.exit 0), (jacquardlaw10_EventCounts_x1_1 a1 x2 x8 b10 a11 s0 s1 h)) := by kernel_rfl
theorem jacquardlaw10_EventCounts_e1_0 (C : CallF) (L : LoopF) (G : Glo) (h0 : AHeap) (b6 : Bool) (h : AHeap) :
    (jacquardlaw10_EventCounts_k3 C L G h0) .ret (jacquardlaw10_EventCounts_x1_0 b6 h) =
    some ([(.c (.bool b6))], h) := by kernel_rfl
theorem jacquardlaw10_EventCounts_e1_1 (C : CallF) (L : LoopF) (G : Glo) (h0 : AHeap) (a1 : Int) (x2 : Cell) (x8 : Cell) (b10 : Bool) (a11 : Int) (s0 : List Cell) (s1 : List Cell) (h : AHeap) :
    (jacquardlaw10_EventCounts_k3 C L G h0) (.exit 0) (jacquardlaw10_EventCounts_x1_1 a1 x2 x8 b10 a11 s0 s1 h) =
    if 0 = 0 ∧ s0.length = 3 then if 0 = 0 ∧ s1.length = 5 then c2 (C 81 [(.agg s0), (.c (.int .i64 a1)), (.agg s1)] h) fun y_107 y_108 h_106 => asA y_107 fun l_109 => asB y_108 fun b_110 => if 0 = 0 ∧ (List.replicate 9 (Cell.int .i64 0)).length = 9 ∧ l_109.length = 9 then scK (!b10) false (lenK x2 fun n_111 => some ((a11 == n_111), h_106)) true h_106 fun b_112 h_113 => scK b_112 true (some ((b_110 == b10), h_113)) false h_113 fun b_114 h_115 => scK b_114 true (lenK x8 fun n_116 => atK s0 2 fun q_117 => idxSK 1 q_117 a1 fun k_118 N_119 o_120 => rdH h_115 k_118 N_119 fun l_121 => atK l_121 o_120 fun q_122 => lenK q_122 fun n_123 => some ((decide (n_116 ≤ n_123)), h_115)) false h_115 fun b_124 h_125 => scK b_124 true (c1 (C 77 [] h_125) fun y_127 h_126 => asB y_127 fun b_128 => some (b_128, h_126)) false h_125 fun b_129 h_130 => some ([(.c (.bool b_129))], h_130) else none else none else none := by kernel_rfl
set_option maxRecDepth 100000 in
theorem jacquardlaw10_EventCounts_eq (C : CallF) (L : LoopF) (G : Glo) (x0 : Cell) (a1 : Int) (x2 : Cell) (h0 : AHeap) :
    jacquardlaw10_EventCounts.body C L G [(.c x0), (.c (.int .i64 a1)), (.c x2)] h0 =
    c1 (C 76 [(.c x0), (.c (.int .i64 12))] h0) fun y_2 h_1 => asA y_2 fun l_3 => if 0 = 0 ∧ [Cell.nils, Cell.nils, Cell.nils].length = 3 ∧ l_3.length = 3 then atK l_3 2 fun q_4 => lenK q_4 fun n_5 => if n_5 = 0 then none else lenK x2 fun n_6 => if (decide (n_6 > 30)) = true then c1 (C 77 [] h_1) fun y_8 h_7 => asB y_8 fun b_9 => some ([(.c (.bool b_9))], h_7) else if 0 = 0 ∧ l_3.length = 3 then c3 (C 78 [(.agg l_3), (.c (.int .i64 (G.rem .i64 (G.band .i64 a1 255) n_5))), (.c x2)] h_1) fun y_11 y_12 y_13 h_10 => asC y_11 fun x_14 => asA y_12 fun l_15 => asB y_13 fun b_16 => if 0 = 0 ∧ [Cell.int .i64 0, Cell.int .i64 0, Cell.int .i64 0, Cell.int .i64 0, Cell.int .i64 0].length = 5 ∧ l_15.length = 5 then (L (jacquardlaw10_EventCounts_F1 C L G) (jacquardlaw10_EventCounts_s1 (G.rem .i64 (G.band .i64 a1 255) n_5) x2 x_14 b_16 0 0 l_3 l_15 h_10)).bind fun p_131 => (jacquardlaw10_EventCounts_k3 C L G h0) p_131.1 p_131.2 else none else none else none := by kernel_rfl

/- jacquard/jacquardlaw10.EventKinds: 212 -/
set_option maxRecDepth 100000 in
theorem jacquardlaw10_EventKinds_eq (C : CallF) (L : LoopF) (G : Glo) (a0 : Int) (h0 : AHeap) :
    jacquardlaw10_EventKinds.body C L G [(.c (.int .i64 a0))] h0 =
    if 0 = 0 ∧ [Cell.int .i64 0, Cell.int .i64 0, Cell.int .i64 0, Cell.int .i64 0, Cell.int .i64 0, Cell.int .i64 0].length = 6 ∧ (splice [Cell.int .i64 0, Cell.int .i64 0, Cell.int .i64 0, Cell.int .i64 0, Cell.int .i64 0, Cell.int .i64 0] 2 ([(.int .i64 a0)] : List Cell)).length = 6 then if 0 = 0 ∧ (splice [Cell.int .i64 0, Cell.int .i64 0, Cell.int .i64 0, Cell.int .i64 0, Cell.int .i64 0, Cell.int .i64 0] 2 ([(.int .i64 a0)] : List Cell)).length = 6 then c1 (qh h0 (C 79 [(.agg (splice [Cell.int .i64 0, Cell.int .i64 0, Cell.int .i64 0, Cell.int .i64 0, Cell.int .i64 0, Cell.int .i64 0] 2 ([(.int .i64 a0)] : List Cell)))] h0)) fun y_2 h_1 => asB y_2 fun b_3 => if 0 = 0 ∧ (splice [Cell.int .i64 0, Cell.int .i64 0, Cell.int .i64 0, Cell.int .i64 0, Cell.int .i64 0, Cell.int .i64 0] 2 ([(.int .i64 a0)] : List Cell)).length = 6 then c1 (qh h0 (C 80 [(.agg (splice [Cell.int .i64 0, Cell.int .i64 0, Cell.int .i64 0, Cell.int .i64 0, Cell.int .i64 0, Cell.int .i64 0] 2 ([(.int .i64 a0)] : List Cell)))] h0)) fun y_5 h_4 => asB y_5 fun b_6 => if 0 = 0 ∧ (splice [Cell.int .i64 0, Cell.int .i64 0, Cell.int .i64 0, Cell.int .i64 0, Cell.int .i64 0, Cell.int .i64 0] 2 ([(.int .i64 a0)] : List Cell)).length = 6 then c1 (qh h0 (C 82 [(.agg (splice [Cell.int .i64 0, Cell.int .i64 0, Cell.int .i64 0, Cell.int .i64 0, Cell.int .i64 0, Cell.int .i64 0] 2 ([(.int .i64 a0)] : List Cell)))] h0)) fun y_8 h_7 => asB y_8 fun b_9 => scK (a0 == 1) false (some ((a0 == 4), h0)) true h0 fun b_10 h_11 => scK b_10 false (some ((a0 == 5), h_11)) true h_11 fun b_12 h_13 => scK (b_3 == b_12) true (scK (a0 == 2) false (some ((a0 == 4), h_13)) true h_13 fun b_14 h_15 => some ((b_6 == b_14), h_15)) false h_13 fun b_16 h_17 => scK b_16 true (scK (a0 == 3) false (some ((a0 == 4), h_17)) true h_17 fun b_18 h_19 => scK b_18 false (some ((a0 == 5), h_19)) true h_19 fun b_20 h_21 => some ((b_9 == b_20), h_21)) false h_17 fun b_22 h_23 => scK b_22 true (c1 (C 77 [] h_23) fun y_25 h_24 => asB y_25 fun b_26 => some (b_26, h_24)) false h_23 fun b_27 h_28 => some ([(.c (.bool b_27))], h_28) else none else none else none else none := by kernel_rfl

/- jacquard/jacquardlaw10.EventOrders: 214 -/
set_option maxRecDepth 100000 in
theorem jacquardlaw10_EventOrders_eq (C : CallF) (L : LoopF) (G : Glo) (x0 : Cell) (h0 : AHeap) :
    jacquardlaw10_EventOrders.body C L G [(.c x0)] h0 =
    lenK x0 fun n_1 => if (decide (n_1 > 80)) = true then c1 (C 77 [] h0) fun y_3 h_2 => asB y_3 fun b_4 => some ([(.c (.bool b_4))], h_2) else lenK x0 fun n_5 => if (decide (n_5 > 64)) = true then c1 (C 90 [(.c x0)] h0) fun y_7 h_6 => asA y_7 fun l_8 => c1 (C 14 [(.agg l_8)] h_6) fun y_10 h_9 => asI .i64 y_10 fun n_11 => scK (n_11 == 0) true (c1 (C 77 [] h_9) fun y_13 h_12 => asB y_13 fun b_14 => some (b_14, h_12)) false h_9 fun b_15 h_16 => some ([(.c (.bool b_15))], h_16) else c1 (C 90 [(.c x0)] h0) fun y_18 h_17 => asA y_18 fun l_19 => c1 (C 91 [(.c x0)] h_17) fun y_21 h_20 => asA y_21 fun l_22 => c1 (C 69 [(.agg l_19), (.agg l_22)] h_20) fun y_24 h_23 => asB y_24 fun b_25 => scK b_25 true (c1 (C 84 [(.c x0), (.c x0)] h_23) fun y_27 h_26 => asB y_27 fun b_28 => some (b_28, h_26)) false h_23 fun b_29 h_30 => scK b_29 true (c1 (C 77 [] h_30) fun y_32 h_31 => asB y_32 fun b_33 => some (b_33, h_31)) false h_30 fun b_34 h_35 => some ([(.c (.bool b_34))], h_35) := by kernel_rfl


end Jq

namespace Jq
open Go

/- slices.Equal(()jacquard/api.Ev,jacquard/api.Ev): 112 -/
def slices_Equal_sEv_Ev_k2 (C : CallF) (L : LoopF) (G : Glo) (h0 : AHeap) : Ex → St → Option (List AV × AHeap) :=
  kSeq (fun st => slices_Equal_sEv_Ev_p1.exec C L G st (slices_Equal_sEv_Ev.fin G h0)) (slices_Equal_sEv_Ev.fin G h0)
def slices_Equal_sEv_Ev_k3 (C : CallF) (L : LoopF) (G : Glo) (h0 : AHeap) : Ex → St → Option (List AV × AHeap) :=
  kBlk 0 (slices_Equal_sEv_Ev_k2 C L G h0)
def slices_Equal_sEv_Ev_s1 (x0 : Cell) (x1 : Cell) (a12 : Int) (a13 : Int) (h : AHeap) : St := ⟨[.v (.c x0), .v (.c x1), .top, .top, .top, .top, .top, .top, .top, .top, .top, .top, .v (.c (.int .i64 a12)), .v (.c (.int .i64 a13)), .top, .top, .top, .top, .top, .top, .top, .top, .top, .top, .top, .top], [], h⟩
def slices_Equal_sEv_Ev_F1 (C : CallF) (L : LoopF) (G : Glo) : St → Option (Ex × St) :=
  roundF (fun st f => slices_Equal_sEv_Ev_b1.exec C L G st f) [0, 1, 12, 13] [] [(0, [4], []), (1, [], [])]
def slices_Equal_sEv_Ev_x1_0 (b4 : Bool) (h : AHeap) : St := ⟨[.top, .top, .top, .top, .v (.c (.bool b4)), .top, .top, .top, .top, .top, .top, .top, .top, .top, .top, .top, .top, .top, .top, .top, .top, .top, .top, .top, .top, .top], [], h⟩
def slices_Equal_sEv_Ev_x1_1 (h : AHeap) : St := ⟨[.top, .top, .top, .top, .top, .top, .top, .top, .top, .top, .top, .top, .top, .top, .top, .top, .top, .top, .top, .top, .top, .top, .top, .top, .top, .top], [], h⟩
theorem slices_Equal_sEv_Ev_r1 (C : CallF) (L : LoopF) (G : Glo) (x0 : Cell) (x1 : Cell) (a12 : Int) (a13 : Int) (h : AHeap) :
    slices_Equal_sEv_Ev_F1 C L G (slices_Equal_sEv_Ev_s1 x0 x1 a12 a13 h) =
    if (decide (a13 < a12)) = true then idxSK 6 x0 a13 fun k_4 N_5 o_6 => rdH h k_4 N_5 fun l_7 => if o_6 + 6 ≤ l_7.length then idxSK 6 x1 a13 fun k_8 N_9 o_10 => rdH h k_8 N_9 fun l_11 => if o_10 + 6 ≤ l_11.length then if alike ((l_7.drop o_6).take 6) ([Cell.int .i64 0, Cell.int .i64 0, Cell.int .i64 0, Cell.int .i64 0, Cell.int .i64 0, Cell.int .i64 0]) = true ∧ alike ((l_11.drop o_10).take 6) ([Cell.int .i64 0, Cell.int .i64 0, Cell.int .i64 0, Cell.int .i64 0, Cell.int .i64 0, Cell.int .i64 0]) = true then if (!(decide (((l_7.drop o_6).take 6) = ((l_11.drop o_10).take 6)))) = true then some (.ret, (slices_Equal_sEv_Ev_x1_0 false h)) else some (.normal, (slices_Equal_sEv_Ev_s1 x0 x1 a12 (G.wrap .i64 (a13 + 1)) h)) else none else none else none else some ((.exit 0), (slices_Equal_sEv_Ev_x1_1 h)) := by kernel_rfl
theorem slices_Equal_sEv_Ev_e1_0 (C : CallF) (L : LoopF) (G : Glo) (h0 : AHeap) (b4 : Bool) (h : AHeap) :
    (slices_Equal_sEv_Ev_k3 C L G h0) .ret (slices_Equal_sEv_Ev_x1_0 b4 h) =
    some ([(.c (.bool b4))], h) := by kernel_rfl
theorem slices_Equal_sEv_Ev_e1_1 (C : CallF) (L : LoopF) (G : Glo) (h0 : AHeap) (h : AHeap) :
    (slices_Equal_sEv_Ev_k3 C L G h0) (.exit 0) (slices_Equal_sEv_Ev_x1_1 h) =
    some ([(.c (.bool true))], h) := by kernel_rfl
set_option maxRecDepth 100000 in
theorem slices_Equal_sEv_Ev_eq (C : CallF) (L : LoopF) (G : Glo) (x0 : Cell) (x1 : Cell) (h0 : AHeap) :
    slices_Equal_sEv_Ev.body C L G [(.c x0), (.c x1)] h0 =
    lenK x0 fun n_1 => lenK x1 fun n_2 => if (n_1 != n_2) = true then some ([(.c (.bool false))], h0) else lenK x0 fun n_3 => (L (slices_Equal_sEv_Ev_F1 C L G) (slices_Equal_sEv_Ev_s1 x0 x1 n_3 0 h0)).bind fun p_12 => (slices_Equal_sEv_Ev_k3 C L G h0) p_12.1 p_12.2 := by kernel_rfl


end Jq

/- Events: those at the beginning; their order; whether two rows are the same; laws of them. -/
namespace Jq
open Go

def initsE (l : List Int) : List Evt := (List.range l.length).map fun (i : Nat) => ⟨-1, i, 2, i, 0, l.getD i 0⟩

theorem initsE_len (l : List Int) : (initsE l).length = l.length := by simp [initsE]
theorem initsE_get {l : List Int} {i : Nat} (hi : i < l.length) : (initsE l)[i]? = some ⟨-1, i, 2, i, 0, l.getD i 0⟩ := by
  unfold initsE; rw [List.getElem?_map, List.getElem?_range hi]; rfl

theorem getDI {l : List Int} {i : Nat} (hi : i < l.length) : l[i]? = some (l.getD i 0) := by
  rw [List.getD_eq_getElem?_getD, List.getElem?_eq_getElem hi]; rfl

theorem takeI_succ {α : Type} {l : List α} {i : Nat} {p : α} (h : l[i]? = some p) : l.take (i + 1) = l.take i ++ [p] := by
  rw [List.take_add_one, h]; rfl

def shEv : Sh := .agg (Sh.rep (.i .i64) 6)
theorem ev_of {h : AHeap} {c : List Cell} (o : okC h shEv c) : ∃ s : Evt, c = s.cs := by
  obtain ⟨x0, y0, rfl, ⟨a0, rfl, _⟩, x1, y1, rfl, ⟨a1, rfl, _⟩, x2, y2, rfl, ⟨a2, rfl, _⟩, x3, y3, rfl, ⟨a3, rfl, _⟩, x4, y4, rfl, ⟨a4, rfl, _⟩, x5, y5, rfl, ⟨a5, rfl, _⟩, h7⟩ := o
  have : y5 = [] := h7
  subst this
  exact ⟨⟨a0, a1, a2, a3, a4, a5⟩, rfl⟩
theorem okL_evs {h : AHeap} : ∀ (len : Nat) (xs : List Cell), okL (okC h shEv) len xs → ∃ l : List Evt, xs = evsC l ∧ l.length = len
  | 0, xs, h => ⟨[], h, rfl⟩
  | len + 1, xs, ⟨x, y, h1, hx, hy⟩ => by
    obtain ⟨l, h2, h3⟩ := okL_evs len y hy
    obtain ⟨s, rfl⟩ := ev_of hx
    exact ⟨s :: l, by rw [h1, h2]; rfl, by simp [h3]⟩
theorem arg_evs {h : AHeap} {cs : List Cell} (o : okC h (.sl shEv) cs) : ∃ x l, av1 (.sl shEv) cs = .c x ∧ SlAt h x 6 (evsC l) l.length ∧ Low h.length x ∧ l.length ≤ maxLen := by
  obtain ⟨x, xs, len, h1, h2, hm, h3, h4⟩ := arg_row o
  obtain ⟨l, rfl, rfl⟩ := okL_evs len xs h2
  exact ⟨x, l, h1, h3, h4, hm⟩

section
variable {E : Env}

theorem ProgAt.initG {h : AHeap} {cs : List Cell} {P : PProg} (p : ProgAt h cs P) : ∃ b, SlAt h b 1 (intC .i64 P.init) P.init.length ∧ Low h.length b ∧ ∀ {α : Type} (f : Cell → Option α), atK cs 1 f = f b := by
  obtain ⟨a, b, c, ts, rfl, _, ⟨hb, hbl⟩, _⟩ := p
  exact ⟨b, hb, hbl, fun _ => rfl⟩
theorem ProgAt.locsG {h : AHeap} {cs : List Cell} {P : PProg} (p : ProgAt h cs P) : ∃ b, SlAt h b 1 (intC .u8 P.locs) P.locs.length ∧ Low h.length b ∧ ∀ {α : Type} (f : Cell → Option α), atK cs 0 f = f b := by
  obtain ⟨a, b, c, ts, rfl, ⟨hb, hbl⟩, _⟩ := p
  exact ⟨a, hb, hbl, fun _ => rfl⟩

theorem ev_init {i v : Int} : splice (splice (splice (splice (splice [Cell.int .i64 0, Cell.int .i64 0, Cell.int .i64 0, Cell.int .i64 0, Cell.int .i64 0, Cell.int .i64 0] 0 ([(.int .i64 (-1))] : List Cell)) 1 ([(.int .i64 i)] : List Cell)) 2 ([(.int .i64 2)] : List Cell)) 3 ([(.int .i64 i)] : List Cell)) 5 ([(.int .i64 v)] : List Cell) = (Evt.mk (-1) i 2 i 0 v).cs := rfl

theorem Inits_R (hE : event_Inits_In E) {cs : List Cell} {P : PProg} {h : AHeap} (p : ProgAt h cs P) (hl : P.init.length ≤ 1000) :
    ∃ y h', R E 88 [.agg cs] h = some ([.c y], h') ∧ Own h.length h' y 6 (evsC (initsE P.init)) P.init.length ∧ Kp h.length h h' := by
  obtain ⟨b, hb, hbl, hB⟩ := p.initG
  have hm : maxBytes ≥ 1001 * 48 := by unfold maxBytes; omega
  obtain ⟨st, ⟨y, h1, rfl, hy, hk⟩, hL⟩ := Lim_inv (F := event_Inits_F1 (R E) Lim E.glob) (fun i st => ∃ y h1, st = event_Inits_s1 y b P.init.length (i : Int) h1 ∧ Own h.length h1 y 6 (evsC ((initsE P.init).take i)) i ∧ Kp h.length h h1) 0 P.init.length (by omega)
    (fun i st _ hi => by
      rintro ⟨y, h1, rfl, hy, hk⟩
      obtain ⟨y2, h2, ha, hy2, hk2, _⟩ := hy.app (bytes := 48) (xs := (Evt.mk (-1) i 2 i 0 (P.init.getD i 0)).cs) hk.1 rfl (by omega) (by omega) (by omega)
      refine ⟨_, ?_, y2, h2, rfl, ?_, hk.trans hk2⟩
      · rw [event_Inits_r1, if_pos (by simp; omega), (hb.keep hbl hk).get1 hi (intC_get (getDI hi)), asI_ok, ev_init, if_pos ⟨rfl, by simp⟩, ev_splice, if_pos (ev_len16 _), ha, g_succ (by omega)]
      · rw [takeI_succ (initsE_get hi), evsC_snoc]; exact hy2) (st := event_Inits_s1 .nils b P.init.length ((0 : Nat) : Int) h) ⟨.nils, h, rfl, by rw [List.take_zero]; exact Own.nil _ _ _, Kp.refl _ _⟩
  have hfin : event_Inits_F1 (R E) Lim E.glob (event_Inits_s1 y b P.init.length (P.init.length : Int) h1) = some (.exit 0, event_Inits_x1_1 y h1) := by
    rw [event_Inits_r1, if_neg (by simp)]
  have hr := hL _ (Lim_exit hfin)
  refine ⟨y, h1, R_intro hE.fn ?_, ?_, hk⟩
  · rw [event_Inits_eq, hB, hb.len, show (0 : Int) = ((0 : Nat) : Int) from rfl, hr, bind_ok, event_Inits_e1_1]
  · rw [List.take_of_length_le (by rw [initsE_len]; exact Nat.le_refl _)] at hy; exact hy

theorem refInits_R (hE : jacquardref6_Inits_In E) {cs : List Cell} {P : PProg} {h : AHeap} (p : ProgAt h cs P) (hl : P.init.length ≤ 1000) (hll : P.locs.length = P.init.length) :
    ∃ y h', R E 89 [.agg cs] h = some ([.c y], h') ∧ Own h.length h' y 6 (evsC (initsE P.init)) P.init.length ∧ Kp h.length h h' := by
  obtain ⟨b, hb, hbl, hB⟩ := p.initG
  obtain ⟨a, ha, hal, hA⟩ := p.locsG
  have hm : maxBytes ≥ 1001 * 48 := by unfold maxBytes; omega
  obtain ⟨st, ⟨y, h1, rfl, hy, hk⟩, hL⟩ := Lim_inv (F := jacquardref6_Inits_F1 (R E) Lim E.glob) (fun i st => ∃ y h1, st = jacquardref6_Inits_s1 y (i : Int) cs h1 ∧ Own h.length h1 y 6 (evsC ((initsE P.init).take i)) i ∧ Kp h.length h h1) 0 P.init.length (by omega)
    (fun i st _ hi => by
      rintro ⟨y, h1, rfl, hy, hk⟩
      obtain ⟨y2, h2, hap, hy2, hk2, _⟩ := hy.app (bytes := 48) (xs := (Evt.mk (-1) i 2 i 0 (P.init.getD i 0)).cs) hk.1 rfl (by omega) (by omega) (by omega)
      refine ⟨_, ?_, y2, h2, rfl, ?_, hk.trans hk2⟩
      · rw [jacquardref6_Inits_r1, hA, ha.len, if_pos (by simp; omega), hB, (hb.keep hbl hk).get1 hi (intC_get (getDI hi)), asI_ok, ev_init, if_pos ⟨rfl, by simp⟩, ev_splice, if_pos (ev_len16 _), hap, g_succ (by omega)]
      · rw [takeI_succ (initsE_get hi), evsC_snoc]; exact hy2) (st := jacquardref6_Inits_s1 .nils ((0 : Nat) : Int) cs h) ⟨.nils, h, rfl, by rw [List.take_zero]; exact Own.nil _ _ _, Kp.refl _ _⟩
  have hfin : jacquardref6_Inits_F1 (R E) Lim E.glob (jacquardref6_Inits_s1 y (P.init.length : Int) cs h1) = some (.exit 0, jacquardref6_Inits_x1_1 y h1) := by
    rw [jacquardref6_Inits_r1, hA, ha.len, if_neg (by simp; omega)]
  have hr := hL _ (Lim_exit hfin)
  refine ⟨y, h1, R_intro hE.fn ?_, ?_, hk⟩
  · rw [jacquardref6_Inits_eq, show (0 : Int) = ((0 : Nat) : Int) from rfl, hr, bind_ok, jacquardref6_Inits_e1_1]
  · rw [List.take_of_length_le (by rw [initsE_len]; exact Nat.le_refl _)] at hy; exact hy

theorem alike_ev (e : Evt) : alike e.cs [Cell.int .i64 0, Cell.int .i64 0, Cell.int .i64 0, Cell.int .i64 0, Cell.int .i64 0, Cell.int .i64 0] = true := rfl

theorem rdE_eq {k : Int} {e : Evt} (h : e.kind = k) {α : Type} {f : Cell → Option α} : atK e.cs 2 f = f (.int .i64 k) := by subst h; rfl

def evRd (e : Evt) : Bool := e.kind == 1 || e.kind == 4 || e.kind == 5
def evWr (e : Evt) : Bool := e.kind == 2 || e.kind == 4
def evFn (e : Evt) : Bool := e.kind == 3 || e.kind == 4 || e.kind == 5

theorem evReads_R (hE : event_Reads_In E) (e : Evt) (h : AHeap) : R E 79 [.agg e.cs] h = some ([.c (.bool (evRd e))], h) := by
  refine R_intro hE.fn ?_
  rw [event_Reads_eq]
  simp only [rdE_eq (e := e) rfl, asI_ok, scK_or]; rfl
theorem evWrites_R (hE : event_Writes_In E) (e : Evt) (h : AHeap) : R E 80 [.agg e.cs] h = some ([.c (.bool (evWr e))], h) := by
  refine R_intro hE.fn ?_
  rw [event_Writes_eq]
  simp only [rdE_eq (e := e) rfl, asI_ok, scK_or]; rfl
theorem evFences_R (hE : event_Fences_In E) (e : Evt) (h : AHeap) : R E 82 [.agg e.cs] h = some ([.c (.bool (evFn e))], h) := by
  refine R_intro hE.fn ?_
  rw [event_Fences_eq]
  simp only [rdE_eq (e := e) rfl, asI_ok, scK_or]; rfl
theorem refReads_R (hE : jacquardref6_Reads_In E) (e : Evt) (h : AHeap) : R E 85 [.agg e.cs] h = some ([.c (.bool (evRd e))], h) := by
  refine R_intro hE.fn ?_
  rw [jacquardref6_Reads_eq]
  simp only [rdE_eq (e := e) rfl, asI_ok, scK_or]; rfl
theorem refWritesE_R (hE : jacquardref6_Writes_In E) (e : Evt) (h : AHeap) : R E 86 [.agg e.cs] h = some ([.c (.bool (evWr e))], h) := by
  refine R_intro hE.fn ?_
  rw [jacquardref6_Writes_eq]
  simp only [rdE_eq (e := e) rfl, asI_ok, scK_or]; rfl
theorem refFences_R (hE : jacquardref6_Fences_In E) (e : Evt) (h : AHeap) : R E 87 [.agg e.cs] h = some ([.c (.bool (evFn e))], h) := by
  refine R_intro hE.fn ?_
  rw [jacquardref6_Fences_eq]
  simp only [rdE_eq (e := e) rfl, asI_ok, scK_or]; rfl

theorem ev_inj {a b : Evt} : a.cs = b.cs ↔ a = b := by
  constructor
  · intro h
    simp only [Evt.cs, List.cons.injEq, Cell.int.injEq, true_and, and_true] at h
    obtain ⟨t, i, k, l, r, w⟩ := a
    obtain ⟨t', i', k', l', r', w'⟩ := b
    simp only at h
    obtain ⟨rfl, rfl, rfl, rfl, rfl, rfl⟩ := h
    rfl
  · rintro rfl; rfl

/-- The same rows are told to be. -/
theorem EqualEv_R (hE : slices_Equal_sEv_Ev_In E) {x y : Cell} {l : List Evt} {h : AHeap} (hx : SlAt h x 6 (evsC l) l.length) (hy : SlAt h y 6 (evsC l) l.length) (hl : l.length < 9223372036854775807) :
    R E 112 [.c x, .c y] h = some ([.c (.bool true)], h) := by
  refine R_intro hE.fn ?_
  have loop : Lim (slices_Equal_sEv_Ev_F1 (R E) Lim E.glob) (slices_Equal_sEv_Ev_s1 x y l.length ((0 : Nat) : Int) h) = some (.exit 0, slices_Equal_sEv_Ev_x1_1 h) := by
    refine Lim_count (fun i => slices_Equal_sEv_Ev_s1 x y l.length (i : Int) h) 0 l.length (by omega) (fun i _ hi => ?_) (Lim_exit ?_)
    · have hq : l[i]? = some l[i] := List.getElem?_eq_getElem hi
      generalize l[i] = e at hq
      obtain ⟨o1, c1, g1, h1, e1⟩ := hx.evG hq
      obtain ⟨o2, c2, g2, h2, e2⟩ := hy.evG hq
      rw [slices_Equal_sEv_Ev_r1, if_pos (by simp; omega), g1, if_pos h1, g2, if_pos h2, e1, e2, if_pos ⟨alike_ev e, alike_ev e⟩, show (!(decide (e.cs = e.cs))) = false by simp, if_neg (by simp), g_succ (by omega)]
    · rw [slices_Equal_sEv_Ev_r1, if_neg (by simp)]
  rw [show ((0 : Nat) : Int) = 0 from rfl] at loop
  rw [slices_Equal_sEv_Ev_eq, hx.len, hy.len, bne_self_eq_false, if_neg (by simp), hx.len, loop, bind_ok, slices_Equal_sEv_Ev_e1_1]

theorem SameEv_R (hE : event_Same_In E) {x y : Cell} {l : List Evt} {h : AHeap} (hx : SlAt h x 6 (evsC l) l.length) (hy : SlAt h y 6 (evsC l) l.length) (hl : l.length < 9223372036854775807) :
    R E 84 [.c x, .c y] h = some ([.c (.bool true)], h) := by
  refine R_intro hE.fn ?_
  rw [event_Same_eq, EqualEv_R hE.c112 hx hy hl, c1_ok, asB_ok]

/-- Is one ahead of another by their threads? -/
def poB (a b : Evt) : Bool := (decide (a.t < 0) && decide (b.t ≥ 0)) || (decide (a.t ≥ 0) && a.t == b.t && decide (a.i < b.i))
def poL (l : List Evt) (a b : Nat) : Bool := poB (l.getD a ⟨0, 0, 0, 0, 0, 0⟩) (l.getD b ⟨0, 0, 0, 0, 0, 0⟩)

theorem ev_t {α : Type} {e : Evt} {f : Cell → Option α} : atK e.cs 0 f = f (.int .i64 e.t) := rfl
theorem ev_i {α : Type} {e : Evt} {f : Cell → Option α} : atK e.cs 1 f = f (.int .i64 e.i) := rfl
theorem getDE {l : List Evt} {i : Nat} (hi : i < l.length) : l[i]? = some (l.getD i ⟨0, 0, 0, 0, 0, 0⟩) := by
  rw [List.getD_eq_getElem?_getD, List.getElem?_eq_getElem hi]; rfl

end
end Jq

/- Tests in memory; their locations; made ready as the document says. -/
namespace Jq
open Go

structure Atm where
  thread : Int
  reg : Int
  loc : Int
  value : Int
def Atm.cs (a : Atm) : List Cell := [.int .i64 a.thread, .int .i64 a.reg, .int .i64 a.loc, .int .i64 a.value]
def atmC (l : List Atm) : List Cell := l.flatMap Atm.cs
theorem Atm.len (a : Atm) : a.cs.length = 4 := rfl
theorem atmC_len : ∀ l : List Atm, (atmC l).length = l.length * 4
  | [] => rfl
  | s :: l => by simp only [atmC, List.flatMap_cons, List.length_append]; rw [show (l.flatMap _).length = _ from atmC_len l, Atm.len]; simp; omega
theorem atmC_at : ∀ (l : List Atm) (i : Nat) (s : Atm), l[i]? = some s → ((atmC l).drop (i * 4)).take 4 = s.cs
  | [], _, _, h => by simp at h
  | q :: l, 0, s, h => by simp at h; subst h; rfl
  | q :: l, i + 1, s, h => by
    have := atmC_at l i s (by simpa using h)
    have e : atmC (q :: l) = q.cs ++ atmC l := rfl
    rw [e, List.drop_append, List.drop_of_length_le (by rw [Atm.len]; omega), List.nil_append, show (i + 1) * 4 - q.cs.length = i * 4 by rw [Atm.len]; omega]
    exact this
theorem atmC_cell {l : List Atm} {i j : Nat} {s : Atm} {c : Cell} (h : l[i]? = some s) (hj : j < 4) (hc : s.cs[j]? = some c) : (atmC l)[i * 4 + j]? = some c := by
  rw [← hc, ← atmC_at l i s h, List.getElem?_take, if_pos hj, List.getElem?_drop]
theorem codeC_cell {l : List Ins} {i j : Nat} {s : Ins} {c : Cell} (h : l[i]? = some s) (hj : j < 9) (hc : s.cs[j]? = some c) : (codeC l)[i * 9 + j]? = some c := by
  rw [← hc, ← codeC_at l i s h, List.getElem?_take, if_pos hj, List.getElem?_drop]

structure PTest where
  name : ByteArray
  inits : List (Int × Int)
  thr : List (List Ins)
  ck : Int
  any : List (List Atm)

/-- Rows that lie there. -/
def RowsOf {α : Type} (esz : Nat) (C : List α → List Cell) (h : AHeap) (x : Cell) (rows : List (List α)) : Prop :=
  ∃ ts, SlAt h x 1 ts rows.length ∧ Low h.length x ∧ ∀ (t : Nat) (r : List α), rows[t]? = some r → ∃ y : Cell, ts[t]? = some y ∧ SlAt h y esz (C r) r.length ∧ Low h.length y

theorem RowsOf.keep {α : Type} {esz : Nat} {C : List α → List Cell} {h h' : AHeap} {x : Cell} {rows : List (List α)} (r : RowsOf esz C h x rows) (hk : Kp h.length h h') : RowsOf esz C h' x rows := by
  obtain ⟨ts, h1, h2, h3⟩ := r
  exact ⟨ts, h1.keep h2 hk, Low_mono hk.1 h2, fun t r hr => by
    obtain ⟨y, y1, y2, y3⟩ := h3 t r hr
    exact ⟨y, y1, y2.keep y3 hk, Low_mono hk.1 y3⟩⟩

theorem RowsOf.get {α β : Type} {esz : Nat} {C : List α → List Cell} {h : AHeap} {x : Cell} {rows : List (List α)} (r : RowsOf esz C h x rows) {t : Nat} {row : List α} (ht : rows[t]? = some row) :
    ∃ y, SlAt h y esz (C row) row.length ∧ Low h.length y ∧ ∀ (f : Cell → Option β), (idxSK 1 x (t : Int) fun k N o => rdH h k N fun l => atK l o f) = f y := by
  obtain ⟨ts, h1, h2, h3⟩ := r
  obtain ⟨y, y1, y2, y3⟩ := h3 t row ht
  exact ⟨y, y2, y3, fun f => h1.get1 (getI_lt ht) y1⟩

theorem RowsOf.len {α β : Type} {esz : Nat} {C : List α → List Cell} {h : AHeap} {x : Cell} {rows : List (List α)} (r : RowsOf esz C h x rows) {f : Int → Option β} : lenK x f = f rows.length := by
  obtain ⟨ts, h1, _⟩ := r; exact h1.len

/-- A test lies there. -/
def TestAt (h : AHeap) (cs : List Cell) (T : PTest) : Prop :=
  ∃ a b c, cs = [.str T.name, a, b, .int .i64 T.ck, c] ∧ (SlAt h a 2 (pairC T.inits) T.inits.length ∧ Low h.length a) ∧ RowsOf 9 codeC h b T.thr ∧ RowsOf 4 atmC h c T.any

theorem TestAt.keep {h h' : AHeap} {cs : List Cell} {T : PTest} (p : TestAt h cs T) (hk : Kp h.length h h') : TestAt h' cs T := by
  obtain ⟨a, b, c, e, ⟨a1, a2⟩, hb, hc⟩ := p
  exact ⟨a, b, c, e, ⟨a1.keep a2 hk, Low_mono hk.1 a2⟩, hb.keep hk, hc.keep hk⟩

theorem TestAt.len {h : AHeap} {cs : List Cell} {T : PTest} (p : TestAt h cs T) : cs.length = 5 := by
  obtain ⟨a, b, c, rfl, _⟩ := p; rfl

/-- Nothing of a test is long. -/
structure PTest.small (T : PTest) : Prop where
  inits : T.inits.length ≤ 1000
  thr : T.thr.length ≤ 1000
  code : ∀ c ∈ T.thr, c.length ≤ 1000
  any : T.any.length ≤ 1000
  row : ∀ c ∈ T.any, c.length ≤ 1000

/-- Is a letter named? -/
def thereT (T : PTest) (b : Nat) : Bool := (T.inits.any fun p => p.1 % 256 == (b : Int)) || (T.thr.any fun c => c.any fun i => i.loc % 256 == (b : Int)) || (T.any.any fun c => c.any fun a => a.loc % 256 == (b : Int))

/-- The locations, in order. -/
def locsF (S : Nat → Bool) (n : Nat) : List Int := ((List.range n).filter fun c => S (97 + c)).map fun (c : Nat) => ((97 + c : Nat) : Int)
def locsT (T : PTest) : List Int := locsF (thereT T) 26

theorem locsF_succ (S : Nat → Bool) (n : Nat) : locsF S (n + 1) = if S (97 + n) = true then locsF S n ++ [((97 + n : Nat) : Int)] else locsF S n := by
  unfold locsF
  rw [List.range_succ, List.filter_append, List.filter_cons, List.filter_nil]
  split <;> simp

theorem locsF_len (S : Nat → Bool) : ∀ n, (locsF S n).length ≤ n
  | 0 => by simp [locsF]
  | n + 1 => by
    have := locsF_len S n
    rw [locsF_succ]; split
    · rw [List.length_append, List.length_singleton]; omega
    · omega

theorem locsF_mem {S : Nat → Bool} {n : Nat} {x : Int} : x ∈ locsF S n ↔ ∃ c, c < n ∧ S (97 + c) = true ∧ x = ((97 + c : Nat) : Int) := by
  unfold locsF
  rw [List.mem_map]
  constructor
  · rintro ⟨c, hc, rfl⟩
    rw [List.mem_filter] at hc
    exact ⟨c, by simpa using hc.1, hc.2, rfl⟩
  · rintro ⟨c, h1, h2, rfl⟩
    exact ⟨c, by rw [List.mem_filter]; exact ⟨by simpa using h1, h2⟩, rfl⟩

theorem boolL_congr {s t : Nat → Bool} {n : Nat} (h : ∀ i, i < n → s i = t i) : boolL s n = boolL t n := List.map_congr_left fun i hi => by rw [h i (by simpa using hi)]

theorem mark_next {S S' : Nat → Bool} {v : Int} (h : ∀ b : Nat, b < 256 → S' b = (S b || (v % 256 == (b : Int)))) :
    (boolL S 256).set (0 + (v % 256).toNat * 1) (.bool true) = boolL S' 256 := by
  rw [show 0 + (v % 256).toNat * 1 = (v % 256).toNat by omega, boolL_set]
  refine boolL_congr fun i hi => ?_
  rw [h i hi]
  by_cases e : i = (v % 256).toNat
  · rw [if_pos e, show (v % 256 == (i : Int)) = true by rw [beq_iff_eq]; omega, Bool.or_true]
  · rw [if_neg e, show (v % 256 == (i : Int)) = false by rw [beq_eq_false_iff_ne]; omega, Bool.or_false]

theorem any_take_succ {α : Type} {l : List α} {i : Nat} {p : α} (h : l[i]? = some p) (f : α → Bool) : (l.take (i + 1)).any f = ((l.take i).any f || f p) := by
  rw [takeI_succ h, List.any_append]; simp

section
variable {E : Env}

theorem refLocs_R (hE : jacquardref2_Locs_In E) {cs : List Cell} {T : PTest} {h : AHeap} (p : TestAt h cs T) (hs : T.small) :
    ∃ y h', R E 121 [.agg cs] h = some ([.c y], h') ∧ Own h.length h' y 1 (intC .u8 (locsT T)) (locsT T).length ∧ Kp h.length h h' := by
  obtain ⟨a, b, c, rfl, ⟨ha, hal⟩, hb, hc⟩ := p
  have a1 : ∀ {α : Type} (f : Cell → Option α), atK [.str T.name, a, b, .int .i64 T.ck, c] 1 f = f a := fun _ => rfl
  have a2 : ∀ {α : Type} (f : Cell → Option α), atK [.str T.name, a, b, .int .i64 T.ck, c] 2 f = f b := fun _ => rfl
  have a4 : ∀ {α : Type} (f : Cell → Option α), atK [.str T.name, a, b, .int .i64 T.ck, c] 4 f = f c := fun _ => rfl
  have w : ∀ v : Int, 0 ≤ v % 256 ∧ v % 256 < ((256 : Nat) : Int) := fun v => by omega
  have w2 : ∀ (v : Int) (S : Nat → Bool), 0 + Int.toNat (v % 256) * 1 < (boolL S 256).length := fun v S => by rw [boolL_len]; omega
  have loop1 : Lim (jacquardref2_Locs_F1 (R E) Lim E.glob) (jacquardref2_Locs_s1 ((0 : Nat) : Int) [.str T.name, a, b, .int .i64 T.ck, c] (boolL (fun q => (T.inits.take 0).any fun p => p.1 % 256 == (q : Int)) 256) h) = some (.exit 0, jacquardref2_Locs_x1_1 [.str T.name, a, b, .int .i64 T.ck, c] (boolL (fun q => (T.inits.take T.inits.length).any fun p => p.1 % 256 == (q : Int)) 256) h) := by
    refine Lim_count (fun i => jacquardref2_Locs_s1 (i : Int) [.str T.name, a, b, .int .i64 T.ck, c] (boolL (fun q => (T.inits.take i).any fun p => p.1 % 256 == (q : Int)) 256) h) 0 T.inits.length (by omega) (fun i _ hi => ?_) (Lim_exit ?_)
    · have hq : T.inits[i]? = some T.inits[i] := List.getElem?_eq_getElem hi
      generalize T.inits[i] = q at hq
      have := hs.inits
      rw [jacquardref2_Locs_r1, a1, ha.len, if_pos (by simp; omega), a1, ha.get hi (by omega) (pairC_get _ _ _ hq).1, asI_ok, g_band255, if_pos (w _), if_pos (w2 _ _), g_succ (by omega), mark_next (S' := fun r => (T.inits.take (i + 1)).any fun p => p.1 % 256 == (r : Int)) (fun r _ => any_take_succ hq _)]
    · rw [jacquardref2_Locs_r1, a1, ha.len, if_neg (by simp)]
  rw [List.take_length] at loop1
  generalize hS1 : (fun q : Nat => T.inits.any fun p => p.1 % 256 == (q : Int)) = S1 at loop1
  have loop2 : ∀ (t : Nat) (code : List Ins) (S : Nat → Bool), T.thr[t]? = some code → Lim (jacquardref2_Locs_F2 (R E) Lim E.glob) (jacquardref2_Locs_s2 (t : Int) ((0 : Nat) : Int) [.str T.name, a, b, .int .i64 T.ck, c] (boolL (fun q => S q || (code.take 0).any fun i => i.loc % 256 == (q : Int)) 256) h) = some (.exit 4, jacquardref2_Locs_x2_5 (t : Int) [.str T.name, a, b, .int .i64 T.ck, c] (boolL (fun q => S q || (code.take code.length).any fun i => i.loc % 256 == (q : Int)) 256) h) := by
    intro t code S ht
    obtain ⟨y, y1, y2, y3⟩ := hb.get (β := Ex × St) ht
    refine Lim_count (fun i => jacquardref2_Locs_s2 (t : Int) (i : Int) [.str T.name, a, b, .int .i64 T.ck, c] (boolL (fun q => S q || (code.take i).any fun i => i.loc % 256 == (q : Int)) 256) h) 0 code.length (by omega) (fun i _ hi => ?_) (Lim_exit ?_)
    · have hq : code[i]? = some code[i] := List.getElem?_eq_getElem hi
      generalize code[i] = q at hq
      have := hs.code code (List.mem_of_getElem? ht)
      rw [jacquardref2_Locs_r2, a2, y3, y1.len, if_pos (by simp; omega), a2, y3, y1.get hi (by omega) (codeC_cell hq (by omega) (c := .int .i64 q.loc) rfl), asI_ok, g_band255, if_pos (w _), if_pos (w2 _ _), g_succ (by omega), mark_next (S' := fun r => S r || (code.take (i + 1)).any fun i => i.loc % 256 == (r : Int)) (fun r _ => by rw [any_take_succ hq, Bool.or_assoc])]
    · rw [jacquardref2_Locs_r2, a2, y3, y1.len, if_neg (by simp)]
  have loop3 : Lim (jacquardref2_Locs_F3 (R E) Lim E.glob) (jacquardref2_Locs_s3 ((0 : Nat) : Int) [.str T.name, a, b, .int .i64 T.ck, c] (boolL (fun q => S1 q || (T.thr.take 0).any fun c => c.any fun i => i.loc % 256 == (q : Int)) 256) h) = some (.exit 2, jacquardref2_Locs_x3_3 [.str T.name, a, b, .int .i64 T.ck, c] (boolL (fun q => S1 q || (T.thr.take T.thr.length).any fun c => c.any fun i => i.loc % 256 == (q : Int)) 256) h) := by
    refine Lim_count (fun t => jacquardref2_Locs_s3 (t : Int) [.str T.name, a, b, .int .i64 T.ck, c] (boolL (fun q => S1 q || (T.thr.take t).any fun c => c.any fun i => i.loc % 256 == (q : Int)) 256) h) 0 T.thr.length (by omega) (fun t _ ht => ?_) (Lim_exit ?_)
    · have hq : T.thr[t]? = some T.thr[t] := List.getElem?_eq_getElem ht
      generalize T.thr[t] = code at hq
      have := hs.thr
      have l2 := loop2 t code (fun q => S1 q || (T.thr.take t).any fun c => c.any fun i => i.loc % 256 == (q : Int)) hq
      rw [List.take_length, show ((0 : Nat) : Int) = 0 from rfl] at l2
      have e0 : boolL (fun q => (S1 q || (T.thr.take t).any fun c => c.any fun i => i.loc % 256 == (q : Int)) || (code.take 0).any fun i => i.loc % 256 == (q : Int)) 256 = boolL (fun q => S1 q || (T.thr.take t).any fun c => c.any fun i => i.loc % 256 == (q : Int)) 256 := boolL_congr fun q _ => by simp
      rw [e0] at l2
      rw [jacquardref2_Locs_r3, a2, hb.len, if_pos (by simp; omega), l2, bind_ok, jacquardref2_Locs_e2_5, g_succ (by omega)]
      congr 3
      exact boolL_congr fun q _ => by rw [any_take_succ hq, Bool.or_assoc]
    · rw [jacquardref2_Locs_r3, a2, hb.len, if_neg (by simp)]
  rw [List.take_length] at loop3
  have e3 : boolL (fun q => S1 q || (T.thr.take 0).any fun c => c.any fun i => i.loc % 256 == (q : Int)) 256 = boolL S1 256 := boolL_congr fun q _ => by simp
  rw [e3, show ((0 : Nat) : Int) = 0 from rfl] at loop3
  generalize hS2 : (fun q : Nat => S1 q || T.thr.any fun c => c.any fun i => i.loc % 256 == (q : Int)) = S2 at loop3
  have loop4 : ∀ (t : Nat) (row : List Atm) (S : Nat → Bool), T.any[t]? = some row → Lim (jacquardref2_Locs_F4 (R E) Lim E.glob) (jacquardref2_Locs_s4 (t : Int) ((0 : Nat) : Int) [.str T.name, a, b, .int .i64 T.ck, c] (boolL (fun q => S q || (row.take 0).any fun i => i.loc % 256 == (q : Int)) 256) h) = some (.exit 8, jacquardref2_Locs_x4_9 (t : Int) [.str T.name, a, b, .int .i64 T.ck, c] (boolL (fun q => S q || (row.take row.length).any fun i => i.loc % 256 == (q : Int)) 256) h) := by
    intro t row S ht
    obtain ⟨y, y1, y2, y3⟩ := hc.get (β := Ex × St) ht
    refine Lim_count (fun i => jacquardref2_Locs_s4 (t : Int) (i : Int) [.str T.name, a, b, .int .i64 T.ck, c] (boolL (fun q => S q || (row.take i).any fun i => i.loc % 256 == (q : Int)) 256) h) 0 row.length (by omega) (fun i _ hi => ?_) (Lim_exit ?_)
    · have hq : row[i]? = some row[i] := List.getElem?_eq_getElem hi
      generalize row[i] = q at hq
      have := hs.row row (List.mem_of_getElem? ht)
      rw [jacquardref2_Locs_r4, a4, y3, y1.len, if_pos (by simp; omega), a4, y3, y1.get hi (by omega) (atmC_cell hq (by omega) (c := .int .i64 q.loc) rfl), asI_ok, g_band255, if_pos (w _), if_pos (w2 _ _), g_succ (by omega), mark_next (S' := fun r => S r || (row.take (i + 1)).any fun i => i.loc % 256 == (r : Int)) (fun r _ => by rw [any_take_succ hq, Bool.or_assoc])]
    · rw [jacquardref2_Locs_r4, a4, y3, y1.len, if_neg (by simp)]
  have loop5 : Lim (jacquardref2_Locs_F5 (R E) Lim E.glob) (jacquardref2_Locs_s5 ((0 : Nat) : Int) [.str T.name, a, b, .int .i64 T.ck, c] (boolL (fun q => S2 q || (T.any.take 0).any fun c => c.any fun i => i.loc % 256 == (q : Int)) 256) h) = some (.exit 6, jacquardref2_Locs_x5_7 (boolL (fun q => S2 q || (T.any.take T.any.length).any fun c => c.any fun i => i.loc % 256 == (q : Int)) 256) h) := by
    refine Lim_count (fun t => jacquardref2_Locs_s5 (t : Int) [.str T.name, a, b, .int .i64 T.ck, c] (boolL (fun q => S2 q || (T.any.take t).any fun c => c.any fun i => i.loc % 256 == (q : Int)) 256) h) 0 T.any.length (by omega) (fun t _ ht => ?_) (Lim_exit ?_)
    · have hq : T.any[t]? = some T.any[t] := List.getElem?_eq_getElem ht
      generalize T.any[t] = row at hq
      have := hs.any
      have l2 := loop4 t row (fun q => S2 q || (T.any.take t).any fun c => c.any fun i => i.loc % 256 == (q : Int)) hq
      rw [List.take_length, show ((0 : Nat) : Int) = 0 from rfl] at l2
      have e0 : boolL (fun q => (S2 q || (T.any.take t).any fun c => c.any fun i => i.loc % 256 == (q : Int)) || (row.take 0).any fun i => i.loc % 256 == (q : Int)) 256 = boolL (fun q => S2 q || (T.any.take t).any fun c => c.any fun i => i.loc % 256 == (q : Int)) 256 := boolL_congr fun q _ => by simp
      rw [e0] at l2
      rw [jacquardref2_Locs_r5, a4, hc.len, if_pos (by simp; omega), l2, bind_ok, jacquardref2_Locs_e4_9, g_succ (by omega)]
      congr 3
      exact boolL_congr fun q _ => by rw [any_take_succ hq, Bool.or_assoc]
    · rw [jacquardref2_Locs_r5, a4, hc.len, if_neg (by simp)]
  rw [List.take_length] at loop5
  have e5 : boolL (fun q => S2 q || (T.any.take 0).any fun c => c.any fun i => i.loc % 256 == (q : Int)) 256 = boolL S2 256 := boolL_congr fun q _ => by simp
  rw [e5, show ((0 : Nat) : Int) = 0 from rfl] at loop5
  have hS3 : (fun q : Nat => S2 q || T.any.any fun c => c.any fun i => i.loc % 256 == (q : Int)) = thereT T := by
    funext q; rw [← hS2, ← hS1]; rfl
  rw [hS3] at loop5
  have hm : maxBytes ≥ 100 := by unfold maxBytes; omega
  obtain ⟨st, ⟨y, h1, rfl, hy, hk⟩, hL⟩ := Lim_inv (F := jacquardref2_Locs_F6 (R E) Lim E.glob) (fun i st => ∃ y h1, st = jacquardref2_Locs_s6 y ((97 + i : Nat) : Int) (boolL (thereT T) 256) h1 ∧ Own h.length h1 y 1 (intC .u8 (locsF (thereT T) i)) (locsF (thereT T) i).length ∧ Kp h.length h h1) 0 26 (by omega)
    (fun i st _ hi => by
      rintro ⟨y, h1, rfl, hy, hk⟩
      have hlen := locsF_len (thereT T) i
      have hw : E.glob.wrap .i32 (((97 + i : Nat) : Int) + 1) = ((97 + (i + 1) : Nat) : Int) := by
        show IntKind.wrap .i32 _ = _
        simp only [IntKind.wrap, IntKind.signed, IntKind.bits, Bool.true_and]
        split
        · rename_i hh; have hh := of_decide_eq_true hh; omega
        · omega
      have hw8 : E.glob.wrap .u8 ((97 + i : Nat) : Int) = ((97 + i : Nat) : Int) := by
        show IntKind.wrap .u8 _ = _
        simp only [IntKind.wrap, IntKind.signed, IntKind.bits, Bool.false_and, Bool.false_eq_true, if_false]; omega
      have hrd : jacquardref2_Locs_F6 (R E) Lim E.glob (jacquardref2_Locs_s6 y ((97 + i : Nat) : Int) (boolL (thereT T) 256) h1) = if thereT T (97 + i) = true then appK 1 1 y [.int .u8 ((97 + i : Nat) : Int)] h1 fun x h' => some (.normal, jacquardref2_Locs_s6 x ((97 + (i + 1) : Nat) : Int) (boolL (thereT T) 256) h') else some (.normal, jacquardref2_Locs_s6 y ((97 + (i + 1) : Nat) : Int) (boolL (thereT T) 256) h1) := by
        rw [jacquardref2_Locs_r6, if_pos (by simp; omega), if_pos ⟨by omega, by omega⟩, show 0 + Int.toNat ((97 + i : Nat) : Int) * 1 = 97 + i by omega, atK_ok (boolL_get (show 97 + i < 256 by omega)), asB_ok, hw, hw8]
        rfl
      rw [hrd]
      by_cases ht : thereT T (97 + i) = true
      · obtain ⟨y2, h2, hap, hy2, hk2, _⟩ := hy.app (bytes := 1) (xs := [.int .u8 ((97 + i : Nat) : Int)]) hk.1 rfl (by omega) (by omega) (by omega)
        refine ⟨_, by rw [if_pos ht, hap], y2, h2, rfl, ?_, hk.trans hk2⟩
        rw [locsF_succ, if_pos ht, intC_snoc, List.length_append, List.length_singleton]; exact hy2
      · refine ⟨_, by rw [if_neg ht], y, h1, rfl, ?_, hk⟩
        rw [locsF_succ, if_neg ht]; exact hy) (st := jacquardref2_Locs_s6 .nils ((97 + 0 : Nat) : Int) (boolL (thereT T) 256) h) ⟨.nils, h, rfl, Own.nil _ _ _, Kp.refl _ _⟩
  have hfin : jacquardref2_Locs_F6 (R E) Lim E.glob (jacquardref2_Locs_s6 y ((97 + 26 : Nat) : Int) (boolL (thereT T) 256) h1) = some (.exit 10, jacquardref2_Locs_x6_11 y h1) := by
    rw [jacquardref2_Locs_r6, if_neg (by simp)]
  have hr := hL _ (Lim_exit hfin)
  refine ⟨y, h1, R_intro hE.fn ?_, hy, hk⟩
  have e1 : boolL (fun q => (T.inits.take 0).any fun p => p.1 % 256 == (q : Int)) 256 = List.replicate 256 (Cell.bool false) := by rw [boolL_false]; exact boolL_congr fun q _ => by simp
  rw [e1, show ((0 : Nat) : Int) = 0 from rfl] at loop1
  rw [jacquardref2_Locs_eq, loop1, bind_ok, jacquardref2_Locs_e1_1, loop3, bind_ok, jacquardref2_Locs_e3_3, loop5, bind_ok, jacquardref2_Locs_e5_7, show (97 : Int) = ((97 + 0 : Nat) : Int) from rfl, hr, bind_ok, jacquardref2_Locs_e6_11]

end
end Jq

/- A test made ready as the document says. -/
namespace Jq
open Go

theorem Own.keepK {n : Nat} {h h' : AHeap} {x : Cell} {esz len : Nat} {cs : List Cell} (o : Own n h x esz cs len) (hk : Kp h.length h h') : Own n h' x esz cs len := by
  refine ⟨o.1, o.2.imp id ?_⟩
  rintro ⟨k, e, hn, hb⟩
  exact ⟨k, e, hn, by rw [hk.blk (blk_lt' hb)]; exact hb⟩
theorem Own.monoN {n m : Nat} (hm : m ≤ n) {h : AHeap} {x : Cell} {esz len : Nat} {cs : List Cell} (o : Own n h x esz cs len) : Own m h x esz cs len :=
  ⟨o.1, o.2.imp id fun ⟨k, e, hn, hb⟩ => ⟨k, e, by omega, hb⟩⟩
theorem Own.blkLt {n : Nat} {h : AHeap} {x : Cell} {esz len : Nat} {cs : List Cell} (o : Own n h x esz cs len) {k : Nat} (hk : isBlk x k) : k < h.length ∧ n ≤ k := by
  rcases o.2 with ⟨rfl, _⟩ | ⟨j, rfl, hn, hb⟩
  · cases hk
  · have : j = k := hk
    subst this; exact ⟨blk_lt' hb, hn⟩

/-- Rows of the call's own, each in a block of its own. -/
def RowsOwn {α : Type} (esz : Nat) (C : List α → List Cell) (n : Nat) (h : AHeap) (y : Cell) (rows : List (List α)) : Prop :=
  ∃ ts, Own n h y 1 ts rows.length ∧ ∀ (t : Nat) (r : List α), rows[t]? = some r → ∃ x : Cell, ts[t]? = some x ∧ Own n h x esz (C r) r.length ∧ ∀ k, isBlk x k → ¬ isBlk y k

section rows
variable {α : Type} {esz : Nat} {C : List α → List Cell} {n : Nat}

theorem RowsOwn.nil (h : AHeap) : RowsOwn esz C n h .nils ([] : List (List α)) := ⟨[], Own.nil _ _ _, fun t r hr => by simp at hr⟩

theorem RowsOwn.keep {h h' : AHeap} {y : Cell} {rows : List (List α)} (r : RowsOwn esz C n h y rows) (hk : Kp h.length h h') : RowsOwn esz C n h' y rows := by
  obtain ⟨ts, h1, h2⟩ := r
  exact ⟨ts, h1.keepK hk, fun t r hr => by obtain ⟨x, x1, x2, x3⟩ := h2 t r hr; exact ⟨x, x1, x2.keepK hk, x3⟩⟩

theorem RowsOwn.blkLt {h : AHeap} {y : Cell} {rows : List (List α)} (r : RowsOwn esz C n h y rows) {k : Nat} (hk : isBlk y k) : k < h.length ∧ n ≤ k := by
  obtain ⟨ts, h1, _⟩ := r; exact h1.blkLt hk

theorem RowsOwn.of {h : AHeap} {y : Cell} {rows : List (List α)} (r : RowsOwn esz C n h y rows) : RowsOf esz C h y rows := by
  obtain ⟨ts, h1, h2⟩ := r
  exact ⟨ts, h1.at, h1.low, fun t r hr => by obtain ⟨x, x1, x2, _⟩ := h2 t r hr; exact ⟨x, x1, x2.at, x2.low⟩⟩

theorem RowsOwn.push {h : AHeap} {y x : Cell} {rows : List (List α)} {r : List α} (w : RowsOwn esz C n h y rows) (hx : Own n h x esz (C r) r.length) (hd : ∀ k, isBlk x k → ¬ isBlk y k) (hn : n ≤ h.length) (hl : rows.length ≤ 2000) :
    ∃ y' h', (∀ {β : Type} (f : Cell → AHeap → Option β), appK 1 24 y [x] h f = f y' h') ∧ RowsOwn esz C n h' y' (rows ++ [r]) ∧ Kp n h h' ∧ ∀ j b, blk? h j = some b → ¬ isBlk y j → blk? h' j = some b ∧ ¬ isBlk y' j := by
  have hm : maxBytes ≥ 2001 * 24 := by unfold maxBytes; omega
  obtain ⟨ts, h1, h2⟩ := w
  obtain ⟨y', h', ha, ho, hk, hf⟩ := h1.app (bytes := 24) (xs := [x]) hn rfl (by omega) (by omega) (by omega)
  have mv : ∀ {z : Cell} {cs : List Cell} {len : Nat}, Own n h z esz cs len → (∀ k, isBlk z k → ¬ isBlk y k) → Own n h' z esz cs len ∧ ∀ k, isBlk z k → ¬ isBlk y' k := by
    intro z cs len oz dz
    rcases oz.2 with e | ⟨k, e, hnk, hb⟩
    · refine ⟨⟨oz.1, .inl e⟩, fun k hk => ?_⟩
      rw [e.1] at hk; cases hk
    · have hik : isBlk z k := by rw [e]; rfl
      obtain ⟨b1, b2⟩ := hf k _ hb (dz k hik)
      refine ⟨⟨oz.1, .inr ⟨k, e, hnk, b1⟩⟩, fun j hj => ?_⟩
      rw [e] at hj
      have : k = j := hj
      subst this; exact b2
  refine ⟨y', h', ha, ⟨ts ++ [x], by rw [List.length_append, List.length_singleton]; exact ho, fun t r' hr => ?_⟩, hk, hf⟩
  have hts : ts.length = rows.length := by have := h1.1; omega
  by_cases ht : t < rows.length
  · rw [List.getElem?_append_left ht] at hr
    obtain ⟨z, z1, z2, z3⟩ := h2 t r' hr
    obtain ⟨w1, w2⟩ := mv z2 z3
    exact ⟨z, by rw [List.getElem?_append_left (by omega)]; exact z1, w1, w2⟩
  · rw [List.getElem?_append_right (by omega)] at hr
    have h0 : t - rows.length = 0 := by
      rcases Nat.eq_zero_or_pos (t - rows.length) with e | e
      · exact e
      · rw [List.getElem?_eq_none (by simp; omega)] at hr; cases hr
    rw [h0] at hr
    obtain rfl : r = r' := by simpa using hr
    obtain ⟨w1, w2⟩ := mv hx hd
    exact ⟨x, by rw [List.getElem?_append_right (by omega), show t - ts.length = 0 by omega]; rfl, w1, w2⟩
end rows

/-- Where a letter stands. -/
def plc : List Int → Int → Nat → Int
  | [], _, _ => -1
  | c :: t, x, i => if c = x then i else plc t x (i + 1)

def initV (l : List (Int × Int)) (c : Int) : Int := l.foldl (fun v p => if p.1 = c then p.2 else v) 0
def compI (locs : List Int) (i : Ins) : Ins := if i.loc ≠ 0 then { i with loc := plc locs i.loc 0 } else i
def compT (T : PTest) : PProg := ⟨locsT T, (locsT T).map (initV T.inits), T.thr.map fun c => c.map (compI (locsT T))⟩

theorem locsT_u8 {T : PTest} {x : Int} (h : x ∈ locsT T) : 97 ≤ x ∧ x ≤ 122 := by
  obtain ⟨c, h1, _, rfl⟩ := locsF_mem.1 h
  omega

section
variable {E : Env}

theorem Place_R (hE : jacquardref6_Place_In E) {a b c : Cell} {locs : List Int} {h : AHeap} (ha : SlAt h a 1 (intC .u8 locs) locs.length) (hu : ∀ x ∈ locs, 97 ≤ x ∧ x ≤ 122) (hl : locs.length ≤ 100) (x : Int) :
    R E 122 [.agg [a, b, c], .c (.int .i64 x)] h = some ([.c (.int .i64 (plc locs x 0))], h) := by
  refine R_intro hE.fn ?_
  have a0 : ∀ {α : Type} (f : Cell → Option α), atK [a, b, c] 0 f = f a := fun _ => rfl
  have key : ∀ (t : List Int) (i : Nat), locs.drop i = t → (Lim (jacquardref6_Place_F1 (R E) Lim E.glob) (jacquardref6_Place_s1 x (i : Int) [a, b, c] h)).bind (fun p => jacquardref6_Place_k3 (R E) Lim E.glob h p.1 p.2) = some ([.c (.int .i64 (plc t x i))], h) := by
    intro t
    induction t with
    | nil =>
      intro i hd
      have hi : locs.length ≤ i := by
        have := congrArg List.length hd
        simp at this; omega
      have hr : jacquardref6_Place_F1 (R E) Lim E.glob (jacquardref6_Place_s1 x (i : Int) [a, b, c] h) = some (.exit 0, jacquardref6_Place_x1_1 h) := by
        rw [jacquardref6_Place_r1, a0, ha.len, if_neg (by simp; omega)]
      rw [Lim_exit hr, bind_ok, jacquardref6_Place_e1_1]; rfl
    | cons v t ih =>
      intro i hd
      have hi : i < locs.length := by
        have := congrArg List.length hd
        simp at this; omega
      have hv : locs[i]? = some v := by
        have := congrArg (fun z => z[0]?) hd
        simpa [List.getElem?_drop] using this
      have hd2 : locs.drop (i + 1) = t := by
        have := congrArg (List.drop 1) hd
        simpa [List.drop_drop] using this
      have huv := hu v (List.mem_of_getElem? hv)
      have hr : jacquardref6_Place_F1 (R E) Lim E.glob (jacquardref6_Place_s1 x (i : Int) [a, b, c] h) = if (v == x) = true then some (.ret, jacquardref6_Place_x1_0 i h) else some (.normal, jacquardref6_Place_s1 x ((i + 1 : Nat) : Int) [a, b, c] h) := by
        rw [jacquardref6_Place_r1, a0, ha.len, if_pos (by simp; omega), a0, ha.get1 hi (intC_get hv), asI_ok, g_wrap_i64 (by omega) (by omega), g_succ (by omega)]
      rw [plc]
      by_cases hvx : v = x
      · rw [if_pos (by rw [hvx]; exact beq_self_eq_true _)] at hr
        rw [Lim_ret hr, bind_ok, jacquardref6_Place_e1_0, if_pos hvx]
      · rw [if_neg (by rw [beq_iff_eq]; exact hvx)] at hr
        rw [if_neg hvx]
        have := ih (i + 1) hd2
        cases hL : Lim (jacquardref6_Place_F1 (R E) Lim E.glob) (jacquardref6_Place_s1 x ((i + 1 : Nat) : Int) [a, b, c] h) with
        | none => rw [hL] at this; cases this
        | some p => rw [Lim_next hr hL]; rw [hL] at this; exact this
  rw [jacquardref6_Place_eq]
  exact key locs 0 rfl

theorem ins_setloc {i : Ins} {v : Int} : i.cs.set 2 (.int .i64 v) = ({ i with loc := v } : Ins).cs := rfl
theorem ins_splice {i : Ins} : splice (List.replicate 9 (Cell.int .i64 0)) 0 i.cs = i.cs := rfl
theorem ins_len19 (i : Ins) : i.cs.length = 1 * 9 := rfl

theorem initV_snoc (l : List (Int × Int)) (p : Int × Int) (c : Int) : initV (l ++ [p]) c = if p.1 = c then p.2 else initV l c := by
  unfold initV; rw [List.foldl_append]; rfl

theorem refCompile_R (hE : jacquardref6_Compile_In E) {cs : List Cell} {T : PTest} {h : AHeap} (p : TestAt h cs T) (hs : T.small) :
    ∃ cs' h', R E 101 [.agg cs] h = some ([.agg cs'], h') ∧ ProgAt h' cs' (compT T) ∧ Kp h.length h h' := by
  obtain ⟨a, h1, hr1, ha, hk1⟩ := refLocs_R hE.c121 p hs
  have hll : (locsT T).length ≤ 26 := locsF_len _ _
  have hu := fun x (hx : x ∈ locsT T) => locsT_u8 hx
  have p1 := p.keep hk1
  have hlen := p.len
  obtain ⟨ta, tb, tc, hcs, ⟨hta, htal⟩, htb, htc⟩ := p1
  have t1 : ∀ {α : Type} (f : Cell → Option α), atK cs 1 f = f ta := fun f => by rw [hcs]; rfl
  have t2 : ∀ {α : Type} (f : Cell → Option α), atK cs 2 f = f tb := fun f => by rw [hcs]; rfl
  have hat := ha.at
  have hal := ha.low
  have hm : maxBytes ≥ 2000 * 72 := by unfold maxBytes; omega
  have pu : ∀ (x y z : Cell), ([x, y, z] : List Cell).length = 3 := fun _ _ _ => rfl
  -- what locations begin with
  have inner1 : ∀ (i : Nat) (b : Cell) (h2 : AHeap) (v : Int) (z : List Cell), (locsT T)[i]? = some v → Kp h1.length h1 h2 →
      Lim (jacquardref6_Compile_F1 (R E) Lim E.glob) (jacquardref6_Compile_s1 (i : Int) 0 ((0 : Nat) : Int) cs z [a, b, .nils] h2) = some (.exit 2, jacquardref6_Compile_x1_3 (i : Int) (initV T.inits v) cs z [a, b, .nils] h2) := by
    intro i b h2 v z hv hk
    have h0 : (0 : Int) = initV (T.inits.take 0) v := rfl
    have he : initV T.inits v = initV (T.inits.take T.inits.length) v := by rw [List.take_length]
    rw [he]
    rw [show jacquardref6_Compile_s1 (i : Int) 0 ((0 : Nat) : Int) cs z [a, b, .nils] h2 = jacquardref6_Compile_s1 (i : Int) (initV (T.inits.take 0) v) ((0 : Nat) : Int) cs z [a, b, .nils] h2 from rfl]
    have huv := hu v (List.mem_of_getElem? hv)
    refine Lim_count (fun k => jacquardref6_Compile_s1 (i : Int) (initV (T.inits.take k) v) (k : Int) cs z [a, b, .nils] h2) 0 T.inits.length (by omega) (fun k _ hkk => ?_) (Lim_exit ?_)
    · have hq : T.inits[k]? = some T.inits[k] := List.getElem?_eq_getElem hkk
      generalize T.inits[k] = q at hq
      have := hs.inits
      have hta2 := hta.keep htal hk
      rw [jacquardref6_Compile_r1, t1, hta2.len, if_pos (by simp; omega), t1, hta2.get hkk (by omega) (pairC_get _ _ _ hq).1, asI_ok, show ∀ {α : Type} (f : Cell → Option α), atK [a, b, Cell.nils] 0 f = f a from fun _ => rfl, (hat.keep hal hk).get1 (getI_lt hv) (intC_get hv), asI_ok, g_wrap_i64 (by omega) (by omega), takeI_succ hq, initV_snoc]
      by_cases hqv : q.1 = v
      · rw [if_pos (by rw [hqv]; exact beq_self_eq_true _), if_pos hqv, t1, hta2.get hkk (by omega) (pairC_get _ _ _ hq).2, asI_ok, g_succ (by omega)]
      · rw [if_neg (by rw [beq_iff_eq]; exact hqv), if_neg hqv, g_succ (by omega)]
    · have hta2 := hta.keep htal hk
      rw [jacquardref6_Compile_r1, t1, hta2.len, if_neg (by simp)]
  obtain ⟨st, ⟨b, h2, rfl, hb, hk2⟩, hL2⟩ := Lim_inv (F := jacquardref6_Compile_F2 (R E) Lim E.glob) (fun i st => ∃ b h2, st = jacquardref6_Compile_s2 (i : Int) cs [Cell.nils, Cell.nils, Cell.nils] [a, b, .nils] h2 ∧ Own h1.length h2 b 1 (intC .i64 (((locsT T).map (initV T.inits)).take i)) i ∧ Kp h1.length h1 h2) 0 (locsT T).length (by omega)
    (fun i st _ hi => by
      rintro ⟨b, h2, rfl, hb, hk⟩
      have hv : (locsT T)[i]? = some (locsT T)[i] := List.getElem?_eq_getElem hi
      generalize (locsT T)[i] = v at hv
      have hin := inner1 i b h2 v [Cell.nils, Cell.nils, Cell.nils] hv hk
      rw [show ((0 : Nat) : Int) = 0 from rfl] at hin
      obtain ⟨b2, h3, hap, hb2, hk3, _⟩ := hb.app (bytes := 8) (xs := [.int .i64 (initV T.inits v)]) hk.1 rfl (by omega) (by omega) (by omega)
      refine ⟨_, ?_, b2, h3, rfl, ?_, hk.trans hk3⟩
      · rw [jacquardref6_Compile_r2, show ∀ {α : Type} (f : Cell → Option α), atK [a, b, Cell.nils] 0 f = f a from fun _ => rfl, hat.len, if_pos (by simp; omega), hin, bind_ok, jacquardref6_Compile_e1_3, show ∀ {α : Type} (f : Cell → Option α), atK [a, b, Cell.nils] 1 f = f b from fun _ => rfl, if_pos (show (splice [Cell.int .i64 0] 0 ([(.int .i64 (initV T.inits v))] : List Cell)).length = 1 * 1 from rfl), show splice [Cell.int .i64 0] 0 ([(.int .i64 (initV T.inits v))] : List Cell) = [.int .i64 (initV T.inits v)] from rfl, hap, if_pos (show 1 < ([a, b, Cell.nils] : List Cell).length by simp), g_succ (by omega)]
        rfl
      · rw [takeI_succ (p := initV T.inits v) (by rw [List.getElem?_map, hv]; rfl), intC_snoc]; exact hb2) (st := jacquardref6_Compile_s2 ((0 : Nat) : Int) cs [Cell.nils, Cell.nils, Cell.nils] [a, .nils, .nils] h1) ⟨.nils, h1, rfl, Own.nil _ _ _, Kp.refl _ _⟩
  have hfin2 : jacquardref6_Compile_F2 (R E) Lim E.glob (jacquardref6_Compile_s2 ((locsT T).length : Int) cs [Cell.nils, Cell.nils, Cell.nils] [a, b, .nils] h2) = some (.exit 0, jacquardref6_Compile_x2_1 cs [Cell.nils, Cell.nils, Cell.nils] [a, b, .nils] h2) := by
    rw [jacquardref6_Compile_r2, show ∀ {α : Type} (f : Cell → Option α), atK [a, b, Cell.nils] 0 f = f a from fun _ => rfl, hat.len, if_neg (by simp)]
  have hr2 := hL2 _ (Lim_exit hfin2)
  rw [List.take_of_length_le (by rw [List.length_map]; exact Nat.le_refl _)] at hb
  have htb2 := htb.keep hk2
  have hat2 := hat.keep hal hk2
  have hal2 : Low h2.length a := Low_mono hk2.1 hal
  have hbt := hb.at
  have hbl := hb.low
  -- the threads
  have inner2 : ∀ (t : Nat) (code : List Ins) (y : Cell) (h3 : AHeap), T.thr[t]? = some code → Kp h2.length h2 h3 →
      ∃ x h4, Lim (jacquardref6_Compile_F3 (R E) Lim E.glob) (jacquardref6_Compile_s3 (t : Int) .nils ((0 : Nat) : Int) cs [Cell.nils, Cell.nils, Cell.nils] [a, b, y] h3) = some (.exit 6, jacquardref6_Compile_x3_7 (t : Int) x cs [Cell.nils, Cell.nils, Cell.nils] [a, b, y] h4) ∧ Own h3.length h4 x 9 (codeC (code.map (compI (locsT T)))) code.length ∧ Kp h3.length h3 h4 := by
    intro t code y h3 ht hk3
    obtain ⟨cx, c1x, c2x, c3x⟩ := (htb2.keep hk3).get (β := Ex × St) ht
    have hcl := hs.code code (List.mem_of_getElem? ht)
    obtain ⟨st, ⟨x, h4, rfl, hx, hk4⟩, hL⟩ := Lim_inv (F := jacquardref6_Compile_F3 (R E) Lim E.glob) (fun i st => ∃ x h4, st = jacquardref6_Compile_s3 (t : Int) x (i : Int) cs [Cell.nils, Cell.nils, Cell.nils] [a, b, y] h4 ∧ Own h3.length h4 x 9 (codeC ((code.map (compI (locsT T))).take i)) i ∧ Kp h3.length h3 h4) 0 code.length (by omega)
      (fun i st _ hi => by
        rintro ⟨x, h4, rfl, hx, hk4⟩
        obtain ⟨cx', c1x', c2x', c3x'⟩ := ((htb2.keep hk3).keep hk4).get (β := Ex × St) ht
        have hq : code[i]? = some code[i] := List.getElem?_eq_getElem hi
        generalize code[i] = q at hq
        obtain ⟨off, cs', hG, hle, hcc⟩ := c1x'.insG hq
        have hsn : (code.map (compI (locsT T)))[i]? = some (compI (locsT T) q) := by rw [List.getElem?_map, hq]; rfl
        obtain ⟨x2, h5, hap, hx2, hk5, _⟩ := hx.app (bytes := 72) (xs := (compI (locsT T) q).cs) hk4.1 rfl (by omega) (by omega) (by omega)
        refine ⟨_, ?_, x2, h5, rfl, ?_, hk4.trans hk5⟩
        · rw [jacquardref6_Compile_r3, t2, c3x', c1x'.len, if_pos (by simp; omega), t2, c3x', hG, if_pos hle, hcc, if_pos ⟨rfl, rfl, rfl⟩, ins_loc, asI_ok]
          unfold compI at hap
          by_cases hz : q.loc ≠ 0
          · have hpl := Place_R hE.c122 (b := b) (c := y) ((hat2.keep hal2 hk3).keep (Low_mono hk3.1 hal2) hk4) hu (by omega) q.loc
            rw [if_pos hz] at hap
            rw [if_pos (by rw [bne_iff_ne]; exact hz), if_pos ⟨rfl, pu _ _ _⟩, ins_loc, asI_ok, hpl, c1_ok, asI_ok, if_pos (by rw [Ins.len]; omega), ins_setloc, if_pos ⟨rfl, rfl⟩, if_pos ⟨rfl, by simp⟩, ins_splice, if_pos (ins_len19 _), hap, g_succ (by omega)]
          · rw [if_neg hz] at hap
            rw [if_neg (by rw [bne_iff_ne]; exact hz), if_pos ⟨rfl, rfl⟩, if_pos ⟨rfl, by simp⟩, ins_splice, if_pos (ins_len19 _), hap, g_succ (by omega)]
        · rw [takeI_succ hsn, codeC_snoc]; exact hx2) (st := jacquardref6_Compile_s3 (t : Int) .nils ((0 : Nat) : Int) cs [Cell.nils, Cell.nils, Cell.nils] [a, b, y] h3) ⟨.nils, h3, rfl, Own.nil _ _ _, Kp.refl _ _⟩
    have hfin : jacquardref6_Compile_F3 (R E) Lim E.glob (jacquardref6_Compile_s3 (t : Int) x (code.length : Int) cs [Cell.nils, Cell.nils, Cell.nils] [a, b, y] h4) = some (.exit 6, jacquardref6_Compile_x3_7 (t : Int) x cs [Cell.nils, Cell.nils, Cell.nils] [a, b, y] h4) := by
      obtain ⟨cx', c1x', c2x', c3x'⟩ := ((htb2.keep hk3).keep hk4).get (β := Ex × St) ht
      rw [jacquardref6_Compile_r3, t2, c3x', c1x'.len, if_neg (by simp)]
    rw [List.take_of_length_le (by rw [List.length_map]; exact Nat.le_refl _)] at hx
    exact ⟨x, h4, hL _ (Lim_exit hfin), hx, hk4⟩
  have hthl := hs.thr
  obtain ⟨st, ⟨y, h3, rfl, hy, hk3⟩, hL4⟩ := Lim_inv (F := jacquardref6_Compile_F4 (R E) Lim E.glob) (fun t st => ∃ y h3, st = jacquardref6_Compile_s4 (t : Int) cs [Cell.nils, Cell.nils, Cell.nils] [a, b, y] h3 ∧ RowsOwn 9 codeC h2.length h3 y ((T.thr.map fun c => c.map (compI (locsT T))).take t) ∧ Kp h2.length h2 h3) 0 T.thr.length (by omega)
    (fun t st _ ht => by
      rintro ⟨y, h3, rfl, hy, hk3⟩
      have hq : T.thr[t]? = some T.thr[t] := List.getElem?_eq_getElem ht
      generalize T.thr[t] = code at hq
      obtain ⟨x, h4, hin, hx, hk4⟩ := inner2 t code y h3 hq hk3
      rw [show ((0 : Nat) : Int) = 0 from rfl] at hin
      have hsn : (T.thr.map fun c => c.map (compI (locsT T)))[t]? = some (code.map (compI (locsT T))) := by rw [List.getElem?_map, hq]; rfl
      have hxl : code.length = (code.map (compI (locsT T))).length := by simp
      rw [hxl] at hx
      obtain ⟨y2, h5, hap, hy2, hk5, _⟩ := (hy.keep hk4).push (hx.monoN hk3.1) (fun k h1 h2 => by have := (hx.blkLt h1).2; have := (hy.blkLt h2).1; omega) (Nat.le_trans hk3.1 hk4.1) (by rw [List.length_take]; omega)
      refine ⟨_, ?_, y2, h5, rfl, ?_, hk3.trans ((hk4.mono hk3.1).trans hk5)⟩
      · rw [jacquardref6_Compile_r4, t2, htb2.len, if_pos (by simp; omega), hin, bind_ok, jacquardref6_Compile_e3_7, show ∀ {α : Type} (f : Cell → Option α), atK [a, b, y] 2 f = f y from fun _ => rfl, if_pos (show (splice [Cell.nils] 0 ([x] : List Cell)).length = 1 * 1 from rfl), show splice [Cell.nils] 0 ([x] : List Cell) = [x] from rfl, hap, if_pos (show 2 < ([a, b, y] : List Cell).length by simp), g_succ (by omega)]
        rfl
      · rw [takeI_succ hsn]; exact hy2) (st := jacquardref6_Compile_s4 ((0 : Nat) : Int) cs [Cell.nils, Cell.nils, Cell.nils] [a, b, .nils] h2) ⟨.nils, h2, rfl, by rw [List.take_zero]; exact RowsOwn.nil _, Kp.refl _ _⟩
  have hfin4 : jacquardref6_Compile_F4 (R E) Lim E.glob (jacquardref6_Compile_s4 (T.thr.length : Int) cs [Cell.nils, Cell.nils, Cell.nils] [a, b, y] h3) = some (.exit 4, jacquardref6_Compile_x4_5 [Cell.nils, Cell.nils, Cell.nils] [a, b, y] h3) := by
    rw [jacquardref6_Compile_r4, t2, htb2.len, if_neg (by simp)]
  have hr4 := hL4 _ (Lim_exit hfin4)
  rw [List.take_of_length_le (by rw [List.length_map]; exact Nat.le_refl _)] at hy
  obtain ⟨ts, y1, y2, y3⟩ := hy.of
  refine ⟨[a, b, y], h3, R_intro hE.fn ?_, ⟨a, b, y, ts, rfl, ⟨hat2.keep hal2 hk3, Low_mono hk3.1 hal2⟩, ⟨?_, Low_mono hk3.1 hbl⟩, ⟨y1, y2⟩, y3⟩, hk1.trans ((hk2.mono hk1.1).trans (hk3.mono (Nat.le_trans hk1.1 hk2.1)))⟩
  · rw [jacquardref6_Compile_eq, if_pos ⟨rfl, hlen⟩, hr1, c1_ok, asC_ok, show splice [Cell.nils, Cell.nils, Cell.nils] 0 ([a] : List Cell) = [a, .nils, .nils] from rfl, if_pos ⟨rfl, rfl, rfl⟩, show (0 : Int) = ((0 : Nat) : Int) from rfl, hr2, bind_ok, jacquardref6_Compile_e2_1, show (0 : Int) = ((0 : Nat) : Int) from rfl, hr4, bind_ok, jacquardref6_Compile_e4_5, if_pos ⟨rfl, rfl⟩, if_pos ⟨rfl, rfl, rfl⟩, if_pos ⟨rfl, rfl⟩]
  · have := hbt.keep hbl hk3
    have e : (compT T).init.length = (locsT T).length := by simp [compT]
    rw [e]; exact this

end
end Jq

