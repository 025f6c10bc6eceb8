/- YtldfafaiappibaaEventMoreB: a part of the proof; no conditions of its own. -/
import Derived.KernelRfl
import Derived.Test.YtldfafaiappibaaRows
import Derived.WalkKit
import Derived.ProofKit
import Derived.OpenShut
import Derived.ShutString
import Derived.ChangeOld
import Derived.Below
import Derived.Carry
import Derived.Test.YtldfafaiappibaaEventMoreA
set_option linter.unusedVariables false
set_option linter.unusedSimpArgs false

/- Tests in memory; their locations; made ready as the document says. -/
namespace Jq
open Go

structure Atm where
  thread : Int
  reg : Int
  loc : Int
  value : Int
def Atm.cs (a : Atm) : List Cell := [.int .i64 a.thread, .int .i64 a.reg, .int .i64 a.loc, .int .i64 a.value]
def atmC (l : List Atm) : List Cell := l.flatMap Atm.cs
theorem Atm.len (a : Atm) : a.cs.length = 4 := rfl
theorem atmC_at : ∀ (l : List Atm) (i : Nat) (s : Atm), l[i]? = some s → ((atmC l).drop (i * 4)).take 4 = s.cs
  | [], _, _, h => by simp at h
  | q :: l, 0, s, h => by simp at h; subst h; rfl
  | q :: l, i + 1, s, h => by
    have := atmC_at l i s (by simpa using h)
    have e : atmC (q :: l) = q.cs ++ atmC l := rfl
    rw [e, List.drop_append, List.drop_of_length_le (by rw [Atm.len]; omega), List.nil_append, show (i + 1) * 4 - q.cs.length = i * 4 by rw [Atm.len]; omega]
    exact this
theorem atmC_cell {l : List Atm} {i j : Nat} {s : Atm} {c : Cell} (h : l[i]? = some s) (hj : j < 4) (hc : s.cs[j]? = some c) : (atmC l)[i * 4 + j]? = some c := by
  rw [← hc, ← atmC_at l i s h, List.getElem?_take, if_pos hj, List.getElem?_drop]
theorem codeC_cell {l : List Ins} {i j : Nat} {s : Ins} {c : Cell} (h : l[i]? = some s) (hj : j < 9) (hc : s.cs[j]? = some c) : (codeC l)[i * 9 + j]? = some c := by
  rw [← hc, ← codeC_at l i s h, List.getElem?_take, if_pos hj, List.getElem?_drop]

structure PTest where
  name : ByteArray
  inits : List (Int × Int)
  thr : List (List Ins)
  ck : Int
  any : List (List Atm)

/-- Rows that lie there. -/
def RowsOf {α : Type} (esz : Nat) (C : List α → List Cell) (h : AHeap) (x : Cell) (rows : List (List α)) : Prop :=
  ∃ ts, SlAt h x 1 ts rows.length ∧ Low h.length x ∧ ∀ (t : Nat) (r : List α), rows[t]? = some r → ∃ y : Cell, ts[t]? = some y ∧ SlAt h y esz (C r) r.length ∧ Low h.length y

theorem RowsOf.keep {α : Type} {esz : Nat} {C : List α → List Cell} {h h' : AHeap} {x : Cell} {rows : List (List α)} (r : RowsOf esz C h x rows) (hk : Kp h.length h h') : RowsOf esz C h' x rows := by
  obtain ⟨ts, h1, h2, h3⟩ := r
  exact ⟨ts, h1.keep h2 hk, Low_mono hk.1 h2, fun t r hr => by
    obtain ⟨y, y1, y2, y3⟩ := h3 t r hr
    exact ⟨y, y1, y2.keep y3 hk, Low_mono hk.1 y3⟩⟩

theorem RowsOf.get {α β : Type} {esz : Nat} {C : List α → List Cell} {h : AHeap} {x : Cell} {rows : List (List α)} (r : RowsOf esz C h x rows) {t : Nat} {row : List α} (ht : rows[t]? = some row) :
    ∃ y, SlAt h y esz (C row) row.length ∧ Low h.length y ∧ ∀ (f : Cell → Option β), (idxSK 1 x (t : Int) fun k N o => rdH h k N fun l => atK l o f) = f y := by
  obtain ⟨ts, h1, h2, h3⟩ := r
  obtain ⟨y, y1, y2, y3⟩ := h3 t row ht
  exact ⟨y, y2, y3, fun f => h1.get1 (getI_lt ht) y1⟩

theorem RowsOf.len {α β : Type} {esz : Nat} {C : List α → List Cell} {h : AHeap} {x : Cell} {rows : List (List α)} (r : RowsOf esz C h x rows) {f : Int → Option β} : lenK x f = f rows.length := by
  obtain ⟨ts, h1, _⟩ := r; exact h1.len

/-- A test lies there. -/
def TestAt (h : AHeap) (cs : List Cell) (T : PTest) : Prop :=
  ∃ a b c, cs = [.str T.name, a, b, .int .i64 T.ck, c] ∧ (SlAt h a 2 (pairC T.inits) T.inits.length ∧ Low h.length a) ∧ RowsOf 9 codeC h b T.thr ∧ RowsOf 4 atmC h c T.any

theorem TestAt.keep {h h' : AHeap} {cs : List Cell} {T : PTest} (p : TestAt h cs T) (hk : Kp h.length h h') : TestAt h' cs T := by
  obtain ⟨a, b, c, e, ⟨a1, a2⟩, hb, hc⟩ := p
  exact ⟨a, b, c, e, ⟨a1.keep a2 hk, Low_mono hk.1 a2⟩, hb.keep hk, hc.keep hk⟩

theorem TestAt.len {h : AHeap} {cs : List Cell} {T : PTest} (p : TestAt h cs T) : cs.length = 5 := by
  obtain ⟨a, b, c, rfl, _⟩ := p; rfl

/-- Nothing of a test is long. -/
structure PTest.small (T : PTest) : Prop where
  inits : T.inits.length ≤ 1000
  thr : T.thr.length ≤ 1000
  code : ∀ c ∈ T.thr, c.length ≤ 1000
  any : T.any.length ≤ 1000
  row : ∀ c ∈ T.any, c.length ≤ 1000

/-- Is a letter named? -/
def thereT (T : PTest) (b : Nat) : Bool := (T.inits.any fun p => p.1 % 256 == (b : Int)) || (T.thr.any fun c => c.any fun i => i.loc % 256 == (b : Int)) || (T.any.any fun c => c.any fun a => a.loc % 256 == (b : Int))

/-- The locations, in order. -/
def locsF (S : Nat → Bool) (n : Nat) : List Int := ((List.range n).filter fun c => S (97 + c)).map fun (c : Nat) => ((97 + c : Nat) : Int)
def locsT (T : PTest) : List Int := locsF (thereT T) 26

theorem locsF_succ (S : Nat → Bool) (n : Nat) : locsF S (n + 1) = if S (97 + n) = true then locsF S n ++ [((97 + n : Nat) : Int)] else locsF S n := by
  unfold locsF
  rw [List.range_succ, List.filter_append, List.filter_cons, List.filter_nil]
  split <;> simp

theorem locsF_len (S : Nat → Bool) : ∀ n, (locsF S n).length ≤ n
  | 0 => by simp [locsF]
  | n + 1 => by
    have := locsF_len S n
    rw [locsF_succ]; split
    · rw [List.length_append, List.length_singleton]; omega
    · omega

theorem locsF_mem {S : Nat → Bool} {n : Nat} {x : Int} : x ∈ locsF S n ↔ ∃ c, c < n ∧ S (97 + c) = true ∧ x = ((97 + c : Nat) : Int) := by
  unfold locsF
  rw [List.mem_map]
  constructor
  · rintro ⟨c, hc, rfl⟩
    rw [List.mem_filter] at hc
    exact ⟨c, by simpa using hc.1, hc.2, rfl⟩
  · rintro ⟨c, h1, h2, rfl⟩
    exact ⟨c, by rw [List.mem_filter]; exact ⟨by simpa using h1, h2⟩, rfl⟩

theorem boolL_congr {s t : Nat → Bool} {n : Nat} (h : ∀ i, i < n → s i = t i) : boolL s n = boolL t n := List.map_congr_left fun i hi => by rw [h i (by simpa using hi)]

theorem mark_next {S S' : Nat → Bool} {v : Int} (h : ∀ b : Nat, b < 256 → S' b = (S b || (v % 256 == (b : Int)))) :
    (boolL S 256).set (0 + (v % 256).toNat * 1) (.bool true) = boolL S' 256 := by
  rw [show 0 + (v % 256).toNat * 1 = (v % 256).toNat by omega, boolL_set]
  refine boolL_congr fun i hi => ?_
  rw [h i hi]
  by_cases e : i = (v % 256).toNat
  · rw [if_pos e, show (v % 256 == (i : Int)) = true by rw [beq_iff_eq]; omega, Bool.or_true]
  · rw [if_neg e, show (v % 256 == (i : Int)) = false by rw [beq_eq_false_iff_ne]; omega, Bool.or_false]

theorem any_take_succ {α : Type} {l : List α} {i : Nat} {p : α} (h : l[i]? = some p) (f : α → Bool) : (l.take (i + 1)).any f = ((l.take i).any f || f p) := by
  rw [takeI_succ h, List.any_append]; simp

section
variable {E : Env}

theorem refLocs_R (hE : jacquardref2_Locs_In E) {cs : List Cell} {T : PTest} {h : AHeap} (p : TestAt h cs T) (hs : T.small) :
    ∃ y h', R E 121 [.agg cs] h = some ([.c y], h') ∧ Own h.length h' y 1 (intC .u8 (locsT T)) (locsT T).length ∧ Kp h.length h h' := by
  obtain ⟨a, b, c, rfl, ⟨ha, hal⟩, hb, hc⟩ := p
  have a1 : ∀ {α : Type} (f : Cell → Option α), atK [.str T.name, a, b, .int .i64 T.ck, c] 1 f = f a := fun _ => rfl
  have a2 : ∀ {α : Type} (f : Cell → Option α), atK [.str T.name, a, b, .int .i64 T.ck, c] 2 f = f b := fun _ => rfl
  have a4 : ∀ {α : Type} (f : Cell → Option α), atK [.str T.name, a, b, .int .i64 T.ck, c] 4 f = f c := fun _ => rfl
  have w : ∀ v : Int, 0 ≤ v % 256 ∧ v % 256 < ((256 : Nat) : Int) := fun v => by omega
  have w2 : ∀ (v : Int) (S : Nat → Bool), 0 + Int.toNat (v % 256) * 1 < (boolL S 256).length := fun v S => by rw [boolL_len]; omega
  have loop1 : Lim (jacquardref2_Locs_F1 (R E) Lim E.glob) (jacquardref2_Locs_s1 ((0 : Nat) : Int) [.str T.name, a, b, .int .i64 T.ck, c] (boolL (fun q => (T.inits.take 0).any fun p => p.1 % 256 == (q : Int)) 256) h) = some (.exit 0, jacquardref2_Locs_x1_1 [.str T.name, a, b, .int .i64 T.ck, c] (boolL (fun q => (T.inits.take T.inits.length).any fun p => p.1 % 256 == (q : Int)) 256) h) := by
    refine Lim_count (fun i => jacquardref2_Locs_s1 (i : Int) [.str T.name, a, b, .int .i64 T.ck, c] (boolL (fun q => (T.inits.take i).any fun p => p.1 % 256 == (q : Int)) 256) h) 0 T.inits.length (by omega) (fun i _ hi => ?_) (Lim_exit ?_)
    · have hq : T.inits[i]? = some T.inits[i] := List.getElem?_eq_getElem hi
      generalize T.inits[i] = q at hq
      have := hs.inits
      rw [jacquardref2_Locs_r1, a1, ha.len, if_pos (by simp; omega), a1, ha.get hi (by omega) (pairC_get _ _ _ hq).1, asI_ok, g_band255, if_pos (w _), if_pos (w2 _ _), g_succ (by omega), mark_next (S' := fun r => (T.inits.take (i + 1)).any fun p => p.1 % 256 == (r : Int)) (fun r _ => any_take_succ hq _)]
    · rw [jacquardref2_Locs_r1, a1, ha.len, if_neg (by simp)]
  rw [List.take_length] at loop1
  generalize hS1 : (fun q : Nat => T.inits.any fun p => p.1 % 256 == (q : Int)) = S1 at loop1
  have loop2 : ∀ (t : Nat) (code : List Ins) (S : Nat → Bool), T.thr[t]? = some code → Lim (jacquardref2_Locs_F2 (R E) Lim E.glob) (jacquardref2_Locs_s2 (t : Int) ((0 : Nat) : Int) [.str T.name, a, b, .int .i64 T.ck, c] (boolL (fun q => S q || (code.take 0).any fun i => i.loc % 256 == (q : Int)) 256) h) = some (.exit 4, jacquardref2_Locs_x2_5 (t : Int) [.str T.name, a, b, .int .i64 T.ck, c] (boolL (fun q => S q || (code.take code.length).any fun i => i.loc % 256 == (q : Int)) 256) h) := by
    intro t code S ht
    obtain ⟨y, y1, y2, y3⟩ := hb.get (β := Ex × St) ht
    refine Lim_count (fun i => jacquardref2_Locs_s2 (t : Int) (i : Int) [.str T.name, a, b, .int .i64 T.ck, c] (boolL (fun q => S q || (code.take i).any fun i => i.loc % 256 == (q : Int)) 256) h) 0 code.length (by omega) (fun i _ hi => ?_) (Lim_exit ?_)
    · have hq : code[i]? = some code[i] := List.getElem?_eq_getElem hi
      generalize code[i] = q at hq
      have := hs.code code (List.mem_of_getElem? ht)
      rw [jacquardref2_Locs_r2, a2, y3, y1.len, if_pos (by simp; omega), a2, y3, y1.get hi (by omega) (codeC_cell hq (by omega) (c := .int .i64 q.loc) rfl), asI_ok, g_band255, if_pos (w _), if_pos (w2 _ _), g_succ (by omega), mark_next (S' := fun r => S r || (code.take (i + 1)).any fun i => i.loc % 256 == (r : Int)) (fun r _ => by rw [any_take_succ hq, Bool.or_assoc])]
    · rw [jacquardref2_Locs_r2, a2, y3, y1.len, if_neg (by simp)]
  have loop3 : Lim (jacquardref2_Locs_F3 (R E) Lim E.glob) (jacquardref2_Locs_s3 ((0 : Nat) : Int) [.str T.name, a, b, .int .i64 T.ck, c] (boolL (fun q => S1 q || (T.thr.take 0).any fun c => c.any fun i => i.loc % 256 == (q : Int)) 256) h) = some (.exit 2, jacquardref2_Locs_x3_3 [.str T.name, a, b, .int .i64 T.ck, c] (boolL (fun q => S1 q || (T.thr.take T.thr.length).any fun c => c.any fun i => i.loc % 256 == (q : Int)) 256) h) := by
    refine Lim_count (fun t => jacquardref2_Locs_s3 (t : Int) [.str T.name, a, b, .int .i64 T.ck, c] (boolL (fun q => S1 q || (T.thr.take t).any fun c => c.any fun i => i.loc % 256 == (q : Int)) 256) h) 0 T.thr.length (by omega) (fun t _ ht => ?_) (Lim_exit ?_)
    · have hq : T.thr[t]? = some T.thr[t] := List.getElem?_eq_getElem ht
      generalize T.thr[t] = code at hq
      have := hs.thr
      have l2 := loop2 t code (fun q => S1 q || (T.thr.take t).any fun c => c.any fun i => i.loc % 256 == (q : Int)) hq
      rw [List.take_length, show ((0 : Nat) : Int) = 0 from rfl] at l2
      have e0 : boolL (fun q => (S1 q || (T.thr.take t).any fun c => c.any fun i => i.loc % 256 == (q : Int)) || (code.take 0).any fun i => i.loc % 256 == (q : Int)) 256 = boolL (fun q => S1 q || (T.thr.take t).any fun c => c.any fun i => i.loc % 256 == (q : Int)) 256 := boolL_congr fun q _ => by simp
      rw [e0] at l2
      rw [jacquardref2_Locs_r3, a2, hb.len, if_pos (by simp; omega), l2, bind_ok, jacquardref2_Locs_e2_5, g_succ (by omega)]
      congr 3
      exact boolL_congr fun q _ => by rw [any_take_succ hq, Bool.or_assoc]
    · rw [jacquardref2_Locs_r3, a2, hb.len, if_neg (by simp)]
  rw [List.take_length] at loop3
  have e3 : boolL (fun q => S1 q || (T.thr.take 0).any fun c => c.any fun i => i.loc % 256 == (q : Int)) 256 = boolL S1 256 := boolL_congr fun q _ => by simp
  rw [e3, show ((0 : Nat) : Int) = 0 from rfl] at loop3
  generalize hS2 : (fun q : Nat => S1 q || T.thr.any fun c => c.any fun i => i.loc % 256 == (q : Int)) = S2 at loop3
  have loop4 : ∀ (t : Nat) (row : List Atm) (S : Nat → Bool), T.any[t]? = some row → Lim (jacquardref2_Locs_F4 (R E) Lim E.glob) (jacquardref2_Locs_s4 (t : Int) ((0 : Nat) : Int) [.str T.name, a, b, .int .i64 T.ck, c] (boolL (fun q => S q || (row.take 0).any fun i => i.loc % 256 == (q : Int)) 256) h) = some (.exit 8, jacquardref2_Locs_x4_9 (t : Int) [.str T.name, a, b, .int .i64 T.ck, c] (boolL (fun q => S q || (row.take row.length).any fun i => i.loc % 256 == (q : Int)) 256) h) := by
    intro t row S ht
    obtain ⟨y, y1, y2, y3⟩ := hc.get (β := Ex × St) ht
    refine Lim_count (fun i => jacquardref2_Locs_s4 (t : Int) (i : Int) [.str T.name, a, b, .int .i64 T.ck, c] (boolL (fun q => S q || (row.take i).any fun i => i.loc % 256 == (q : Int)) 256) h) 0 row.length (by omega) (fun i _ hi => ?_) (Lim_exit ?_)
    · have hq : row[i]? = some row[i] := List.getElem?_eq_getElem hi
      generalize row[i] = q at hq
      have := hs.row row (List.mem_of_getElem? ht)
      rw [jacquardref2_Locs_r4, a4, y3, y1.len, if_pos (by simp; omega), a4, y3, y1.get hi (by omega) (atmC_cell hq (by omega) (c := .int .i64 q.loc) rfl), asI_ok, g_band255, if_pos (w _), if_pos (w2 _ _), g_succ (by omega), mark_next (S' := fun r => S r || (row.take (i + 1)).any fun i => i.loc % 256 == (r : Int)) (fun r _ => by rw [any_take_succ hq, Bool.or_assoc])]
    · rw [jacquardref2_Locs_r4, a4, y3, y1.len, if_neg (by simp)]
  have loop5 : Lim (jacquardref2_Locs_F5 (R E) Lim E.glob) (jacquardref2_Locs_s5 ((0 : Nat) : Int) [.str T.name, a, b, .int .i64 T.ck, c] (boolL (fun q => S2 q || (T.any.take 0).any fun c => c.any fun i => i.loc % 256 == (q : Int)) 256) h) = some (.exit 6, jacquardref2_Locs_x5_7 (boolL (fun q => S2 q || (T.any.take T.any.length).any fun c => c.any fun i => i.loc % 256 == (q : Int)) 256) h) := by
    refine Lim_count (fun t => jacquardref2_Locs_s5 (t : Int) [.str T.name, a, b, .int .i64 T.ck, c] (boolL (fun q => S2 q || (T.any.take t).any fun c => c.any fun i => i.loc % 256 == (q : Int)) 256) h) 0 T.any.length (by omega) (fun t _ ht => ?_) (Lim_exit ?_)
    · have hq : T.any[t]? = some T.any[t] := List.getElem?_eq_getElem ht
      generalize T.any[t] = row at hq
      have := hs.any
      have l2 := loop4 t row (fun q => S2 q || (T.any.take t).any fun c => c.any fun i => i.loc % 256 == (q : Int)) hq
      rw [List.take_length, show ((0 : Nat) : Int) = 0 from rfl] at l2
      have e0 : boolL (fun q => (S2 q || (T.any.take t).any fun c => c.any fun i => i.loc % 256 == (q : Int)) || (row.take 0).any fun i => i.loc % 256 == (q : Int)) 256 = boolL (fun q => S2 q || (T.any.take t).any fun c => c.any fun i => i.loc % 256 == (q : Int)) 256 := boolL_congr fun q _ => by simp
      rw [e0] at l2
      rw [jacquardref2_Locs_r5, a4, hc.len, if_pos (by simp; omega), l2, bind_ok, jacquardref2_Locs_e4_9, g_succ (by omega)]
      congr 3
      exact boolL_congr fun q _ => by rw [any_take_succ hq, Bool.or_assoc]
    · rw [jacquardref2_Locs_r5, a4, hc.len, if_neg (by simp)]
  rw [List.take_length] at loop5
  have e5 : boolL (fun q => S2 q || (T.any.take 0).any fun c => c.any fun i => i.loc % 256 == (q : Int)) 256 = boolL S2 256 := boolL_congr fun q _ => by simp
  rw [e5, show ((0 : Nat) : Int) = 0 from rfl] at loop5
  have hS3 : (fun q : Nat => S2 q || T.any.any fun c => c.any fun i => i.loc % 256 == (q : Int)) = thereT T := by
    funext q; rw [← hS2, ← hS1]; rfl
  rw [hS3] at loop5
  have hm : maxBytes ≥ 100 := by unfold maxBytes; omega
  obtain ⟨st, ⟨y, h1, rfl, hy, hk⟩, hL⟩ := Lim_inv (F := jacquardref2_Locs_F6 (R E) Lim E.glob) (fun i st => ∃ y h1, st = jacquardref2_Locs_s6 y ((97 + i : Nat) : Int) (boolL (thereT T) 256) h1 ∧ Own h.length h1 y 1 (intC .u8 (locsF (thereT T) i)) (locsF (thereT T) i).length ∧ Kp h.length h h1) 0 26 (by omega)
    (fun i st _ hi => by
      rintro ⟨y, h1, rfl, hy, hk⟩
      have hlen := locsF_len (thereT T) i
      have hw : E.glob.wrap .i32 (((97 + i : Nat) : Int) + 1) = ((97 + (i + 1) : Nat) : Int) := by
        show IntKind.wrap .i32 _ = _
        simp only [IntKind.wrap, IntKind.signed, IntKind.bits, Bool.true_and]
        split
        · rename_i hh; have hh := of_decide_eq_true hh; omega
        · omega
      have hw8 : E.glob.wrap .u8 ((97 + i : Nat) : Int) = ((97 + i : Nat) : Int) := by
        show IntKind.wrap .u8 _ = _
        simp only [IntKind.wrap, IntKind.signed, IntKind.bits, Bool.false_and, Bool.false_eq_true, if_false]; omega
      have hrd : jacquardref2_Locs_F6 (R E) Lim E.glob (jacquardref2_Locs_s6 y ((97 + i : Nat) : Int) (boolL (thereT T) 256) h1) = if thereT T (97 + i) = true then appK 1 1 y [.int .u8 ((97 + i : Nat) : Int)] h1 fun x h' => some (.normal, jacquardref2_Locs_s6 x ((97 + (i + 1) : Nat) : Int) (boolL (thereT T) 256) h') else some (.normal, jacquardref2_Locs_s6 y ((97 + (i + 1) : Nat) : Int) (boolL (thereT T) 256) h1) := by
        rw [jacquardref2_Locs_r6, if_pos (by simp; omega), if_pos ⟨by omega, by omega⟩, show 0 + Int.toNat ((97 + i : Nat) : Int) * 1 = 97 + i by omega, atK_ok (boolL_get (show 97 + i < 256 by omega)), asB_ok, hw, hw8]
        rfl
      rw [hrd]
      by_cases ht : thereT T (97 + i) = true
      · obtain ⟨y2, h2, hap, hy2, hk2, _⟩ := hy.app (bytes := 1) (xs := [.int .u8 ((97 + i : Nat) : Int)]) hk.1 rfl (by omega) (by omega) (by omega)
        refine ⟨_, by rw [if_pos ht, hap], y2, h2, rfl, ?_, hk.trans hk2⟩
        rw [locsF_succ, if_pos ht, intC_snoc, List.length_append, List.length_singleton]; exact hy2
      · refine ⟨_, by rw [if_neg ht], y, h1, rfl, ?_, hk⟩
        rw [locsF_succ, if_neg ht]; exact hy) (st := jacquardref2_Locs_s6 .nils ((97 + 0 : Nat) : Int) (boolL (thereT T) 256) h) ⟨.nils, h, rfl, Own.nil _ _ _, Kp.refl _ _⟩
  have hfin : jacquardref2_Locs_F6 (R E) Lim E.glob (jacquardref2_Locs_s6 y ((97 + 26 : Nat) : Int) (boolL (thereT T) 256) h1) = some (.exit 10, jacquardref2_Locs_x6_11 y h1) := by
    rw [jacquardref2_Locs_r6, if_neg (by simp)]
  have hr := hL _ (Lim_exit hfin)
  refine ⟨y, h1, R_intro hE.fn ?_, hy, hk⟩
  have e1 : boolL (fun q => (T.inits.take 0).any fun p => p.1 % 256 == (q : Int)) 256 = List.replicate 256 (Cell.bool false) := by rw [boolL_false]; exact boolL_congr fun q _ => by simp
  rw [e1, show ((0 : Nat) : Int) = 0 from rfl] at loop1
  rw [jacquardref2_Locs_eq, loop1, bind_ok, jacquardref2_Locs_e1_1, loop3, bind_ok, jacquardref2_Locs_e3_3, loop5, bind_ok, jacquardref2_Locs_e5_7, show (97 : Int) = ((97 + 0 : Nat) : Int) from rfl, hr, bind_ok, jacquardref2_Locs_e6_11]

end
end Jq

/- A test made ready as the document says. -/
namespace Jq
open Go

theorem Own.keepK {n : Nat} {h h' : AHeap} {x : Cell} {esz len : Nat} {cs : List Cell} (o : Own n h x esz cs len) (hk : Kp h.length h h') : Own n h' x esz cs len := by
  refine ⟨o.1, o.2.imp id ?_⟩
  rintro ⟨k, e, hn, hb⟩
  exact ⟨k, e, hn, by rw [hk.blk (blk_lt' hb)]; exact hb⟩
theorem Own.monoN {n m : Nat} (hm : m ≤ n) {h : AHeap} {x : Cell} {esz len : Nat} {cs : List Cell} (o : Own n h x esz cs len) : Own m h x esz cs len :=
  ⟨o.1, o.2.imp id fun ⟨k, e, hn, hb⟩ => ⟨k, e, by omega, hb⟩⟩
theorem Own.blkLt {n : Nat} {h : AHeap} {x : Cell} {esz len : Nat} {cs : List Cell} (o : Own n h x esz cs len) {k : Nat} (hk : isBlk x k) : k < h.length ∧ n ≤ k := by
  rcases o.2 with ⟨rfl, _⟩ | ⟨j, rfl, hn, hb⟩
  · cases hk
  · have : j = k := hk
    subst this; exact ⟨blk_lt' hb, hn⟩

/-- Rows of the call's own, each in a block of its own. -/
def RowsOwn {α : Type} (esz : Nat) (C : List α → List Cell) (n : Nat) (h : AHeap) (y : Cell) (rows : List (List α)) : Prop :=
  ∃ ts, Own n h y 1 ts rows.length ∧ ∀ (t : Nat) (r : List α), rows[t]? = some r → ∃ x : Cell, ts[t]? = some x ∧ Own n h x esz (C r) r.length ∧ ∀ k, isBlk x k → ¬ isBlk y k

section rows
variable {α : Type} {esz : Nat} {C : List α → List Cell} {n : Nat}

theorem RowsOwn.nil (h : AHeap) : RowsOwn esz C n h .nils ([] : List (List α)) := ⟨[], Own.nil _ _ _, fun t r hr => by simp at hr⟩

theorem RowsOwn.keep {h h' : AHeap} {y : Cell} {rows : List (List α)} (r : RowsOwn esz C n h y rows) (hk : Kp h.length h h') : RowsOwn esz C n h' y rows := by
  obtain ⟨ts, h1, h2⟩ := r
  exact ⟨ts, h1.keepK hk, fun t r hr => by obtain ⟨x, x1, x2, x3⟩ := h2 t r hr; exact ⟨x, x1, x2.keepK hk, x3⟩⟩

theorem RowsOwn.blkLt {h : AHeap} {y : Cell} {rows : List (List α)} (r : RowsOwn esz C n h y rows) {k : Nat} (hk : isBlk y k) : k < h.length ∧ n ≤ k := by
  obtain ⟨ts, h1, _⟩ := r; exact h1.blkLt hk

theorem RowsOwn.of {h : AHeap} {y : Cell} {rows : List (List α)} (r : RowsOwn esz C n h y rows) : RowsOf esz C h y rows := by
  obtain ⟨ts, h1, h2⟩ := r
  exact ⟨ts, h1.at, h1.low, fun t r hr => by obtain ⟨x, x1, x2, _⟩ := h2 t r hr; exact ⟨x, x1, x2.at, x2.low⟩⟩

theorem RowsOwn.push {h : AHeap} {y x : Cell} {rows : List (List α)} {r : List α} (w : RowsOwn esz C n h y rows) (hx : Own n h x esz (C r) r.length) (hd : ∀ k, isBlk x k → ¬ isBlk y k) (hn : n ≤ h.length) (hl : rows.length ≤ 2000) :
    ∃ y' h', (∀ {β : Type} (f : Cell → AHeap → Option β), appK 1 24 y [x] h f = f y' h') ∧ RowsOwn esz C n h' y' (rows ++ [r]) ∧ Kp n h h' ∧ ∀ j b, blk? h j = some b → ¬ isBlk y j → blk? h' j = some b ∧ ¬ isBlk y' j := by
  have hm : maxBytes ≥ 2001 * 24 := by unfold maxBytes; omega
  obtain ⟨ts, h1, h2⟩ := w
  obtain ⟨y', h', ha, ho, hk, hf⟩ := h1.app (bytes := 24) (xs := [x]) hn rfl (by omega) (by omega) (by omega)
  have mv : ∀ {z : Cell} {cs : List Cell} {len : Nat}, Own n h z esz cs len → (∀ k, isBlk z k → ¬ isBlk y k) → Own n h' z esz cs len ∧ ∀ k, isBlk z k → ¬ isBlk y' k := by
    intro z cs len oz dz
    rcases oz.2 with e | ⟨k, e, hnk, hb⟩
    · refine ⟨⟨oz.1, .inl e⟩, fun k hk => ?_⟩
      rw [e.1] at hk; cases hk
    · have hik : isBlk z k := by rw [e]; rfl
      obtain ⟨b1, b2⟩ := hf k _ hb (dz k hik)
      refine ⟨⟨oz.1, .inr ⟨k, e, hnk, b1⟩⟩, fun j hj => ?_⟩
      rw [e] at hj
      have : k = j := hj
      subst this; exact b2
  refine ⟨y', h', ha, ⟨ts ++ [x], by rw [List.length_append, List.length_singleton]; exact ho, fun t r' hr => ?_⟩, hk, hf⟩
  have hts : ts.length = rows.length := by have := h1.1; omega
  by_cases ht : t < rows.length
  · rw [List.getElem?_append_left ht] at hr
    obtain ⟨z, z1, z2, z3⟩ := h2 t r' hr
    obtain ⟨w1, w2⟩ := mv z2 z3
    exact ⟨z, by rw [List.getElem?_append_left (by omega)]; exact z1, w1, w2⟩
  · rw [List.getElem?_append_right (by omega)] at hr
    have h0 : t - rows.length = 0 := by
      rcases Nat.eq_zero_or_pos (t - rows.length) with e | e
      · exact e
      · rw [List.getElem?_eq_none (by simp; omega)] at hr; cases hr
    rw [h0] at hr
    obtain rfl : r = r' := by simpa using hr
    obtain ⟨w1, w2⟩ := mv hx hd
    exact ⟨x, by rw [List.getElem?_append_right (by omega), show t - ts.length = 0 by omega]; rfl, w1, w2⟩
end rows

/-- Where a letter stands. -/
def plc : List Int → Int → Nat → Int
  | [], _, _ => -1
  | c :: t, x, i => if c = x then i else plc t x (i + 1)

def initV (l : List (Int × Int)) (c : Int) : Int := l.foldl (fun v p => if p.1 = c then p.2 else v) 0
def compI (locs : List Int) (i : Ins) : Ins := if i.loc ≠ 0 then { i with loc := plc locs i.loc 0 } else i
def compT (T : PTest) : PProg := ⟨locsT T, (locsT T).map (initV T.inits), T.thr.map fun c => c.map (compI (locsT T))⟩

theorem locsT_u8 {T : PTest} {x : Int} (h : x ∈ locsT T) : 97 ≤ x ∧ x ≤ 122 := by
  obtain ⟨c, h1, _, rfl⟩ := locsF_mem.1 h
  omega

section
variable {E : Env}

theorem Place_R (hE : jacquardref6_Place_In E) {a b c : Cell} {locs : List Int} {h : AHeap} (ha : SlAt h a 1 (intC .u8 locs) locs.length) (hu : ∀ x ∈ locs, 97 ≤ x ∧ x ≤ 122) (hl : locs.length ≤ 100) (x : Int) :
    R E 122 [.agg [a, b, c], .c (.int .i64 x)] h = some ([.c (.int .i64 (plc locs x 0))], h) := by
  refine R_intro hE.fn ?_
  have a0 : ∀ {α : Type} (f : Cell → Option α), atK [a, b, c] 0 f = f a := fun _ => rfl
  have key : ∀ (t : List Int) (i : Nat), locs.drop i = t → (Lim (jacquardref6_Place_F1 (R E) Lim E.glob) (jacquardref6_Place_s1 x (i : Int) [a, b, c] h)).bind (fun p => jacquardref6_Place_k3 (R E) Lim E.glob h p.1 p.2) = some ([.c (.int .i64 (plc t x i))], h) := by
    intro t
    induction t with
    | nil =>
      intro i hd
      have hi : locs.length ≤ i := by
        have := congrArg List.length hd
        simp at this; omega
      have hr : jacquardref6_Place_F1 (R E) Lim E.glob (jacquardref6_Place_s1 x (i : Int) [a, b, c] h) = some (.exit 0, jacquardref6_Place_x1_1 h) := by
        rw [jacquardref6_Place_r1, a0, ha.len, if_neg (by simp; omega)]
      rw [Lim_exit hr, bind_ok, jacquardref6_Place_e1_1]; rfl
    | cons v t ih =>
      intro i hd
      have hi : i < locs.length := by
        have := congrArg List.length hd
        simp at this; omega
      have hv : locs[i]? = some v := by
        have := congrArg (fun z => z[0]?) hd
        simpa [List.getElem?_drop] using this
      have hd2 : locs.drop (i + 1) = t := by
        have := congrArg (List.drop 1) hd
        simpa [List.drop_drop] using this
      have huv := hu v (List.mem_of_getElem? hv)
      have hr : jacquardref6_Place_F1 (R E) Lim E.glob (jacquardref6_Place_s1 x (i : Int) [a, b, c] h) = if (v == x) = true then some (.ret, jacquardref6_Place_x1_0 i h) else some (.normal, jacquardref6_Place_s1 x ((i + 1 : Nat) : Int) [a, b, c] h) := by
        rw [jacquardref6_Place_r1, a0, ha.len, if_pos (by simp; omega), a0, ha.get1 hi (intC_get hv), asI_ok, g_wrap_i64 (by omega) (by omega), g_succ (by omega)]
      rw [plc]
      by_cases hvx : v = x
      · rw [if_pos (by rw [hvx]; exact beq_self_eq_true _)] at hr
        rw [Lim_ret hr, bind_ok, jacquardref6_Place_e1_0, if_pos hvx]
      · rw [if_neg (by rw [beq_iff_eq]; exact hvx)] at hr
        rw [if_neg hvx]
        have := ih (i + 1) hd2
        cases hL : Lim (jacquardref6_Place_F1 (R E) Lim E.glob) (jacquardref6_Place_s1 x ((i + 1 : Nat) : Int) [a, b, c] h) with
        | none => rw [hL] at this; cases this
        | some p => rw [Lim_next hr hL]; rw [hL] at this; exact this
  rw [jacquardref6_Place_eq]
  exact key locs 0 rfl

theorem ins_setloc {i : Ins} {v : Int} : i.cs.set 2 (.int .i64 v) = ({ i with loc := v } : Ins).cs := rfl
theorem ins_splice {i : Ins} : splice (List.replicate 9 (Cell.int .i64 0)) 0 i.cs = i.cs := rfl
theorem ins_len19 (i : Ins) : i.cs.length = 1 * 9 := rfl

theorem initV_snoc (l : List (Int × Int)) (p : Int × Int) (c : Int) : initV (l ++ [p]) c = if p.1 = c then p.2 else initV l c := by
  unfold initV; rw [List.foldl_append]; rfl

theorem refCompile_R (hE : jacquardref6_Compile_In E) {cs : List Cell} {T : PTest} {h : AHeap} (p : TestAt h cs T) (hs : T.small) :
    ∃ cs' h', R E 101 [.agg cs] h = some ([.agg cs'], h') ∧ ProgAt h' cs' (compT T) ∧ Kp h.length h h' := by
  obtain ⟨a, h1, hr1, ha, hk1⟩ := refLocs_R hE.c121 p hs
  have hll : (locsT T).length ≤ 26 := locsF_len _ _
  have hu := fun x (hx : x ∈ locsT T) => locsT_u8 hx
  have p1 := p.keep hk1
  have hlen := p.len
  obtain ⟨ta, tb, tc, hcs, ⟨hta, htal⟩, htb, htc⟩ := p1
  have t1 : ∀ {α : Type} (f : Cell → Option α), atK cs 1 f = f ta := fun f => by rw [hcs]; rfl
  have t2 : ∀ {α : Type} (f : Cell → Option α), atK cs 2 f = f tb := fun f => by rw [hcs]; rfl
  have hat := ha.at
  have hal := ha.low
  have hm : maxBytes ≥ 2000 * 72 := by unfold maxBytes; omega
  have pu : ∀ (x y z : Cell), ([x, y, z] : List Cell).length = 3 := fun _ _ _ => rfl
  -- what locations begin with
  have inner1 : ∀ (i : Nat) (b : Cell) (h2 : AHeap) (v : Int) (z : List Cell), (locsT T)[i]? = some v → Kp h1.length h1 h2 →
      Lim (jacquardref6_Compile_F1 (R E) Lim E.glob) (jacquardref6_Compile_s1 (i : Int) 0 ((0 : Nat) : Int) cs z [a, b, .nils] h2) = some (.exit 2, jacquardref6_Compile_x1_3 (i : Int) (initV T.inits v) cs z [a, b, .nils] h2) := by
    intro i b h2 v z hv hk
    have h0 : (0 : Int) = initV (T.inits.take 0) v := rfl
    have he : initV T.inits v = initV (T.inits.take T.inits.length) v := by rw [List.take_length]
    rw [he]
    rw [show jacquardref6_Compile_s1 (i : Int) 0 ((0 : Nat) : Int) cs z [a, b, .nils] h2 = jacquardref6_Compile_s1 (i : Int) (initV (T.inits.take 0) v) ((0 : Nat) : Int) cs z [a, b, .nils] h2 from rfl]
    have huv := hu v (List.mem_of_getElem? hv)
    refine Lim_count (fun k => jacquardref6_Compile_s1 (i : Int) (initV (T.inits.take k) v) (k : Int) cs z [a, b, .nils] h2) 0 T.inits.length (by omega) (fun k _ hkk => ?_) (Lim_exit ?_)
    · have hq : T.inits[k]? = some T.inits[k] := List.getElem?_eq_getElem hkk
      generalize T.inits[k] = q at hq
      have := hs.inits
      have hta2 := hta.keep htal hk
      rw [jacquardref6_Compile_r1, t1, hta2.len, if_pos (by simp; omega), t1, hta2.get hkk (by omega) (pairC_get _ _ _ hq).1, asI_ok, show ∀ {α : Type} (f : Cell → Option α), atK [a, b, Cell.nils] 0 f = f a from fun _ => rfl, (hat.keep hal hk).get1 (getI_lt hv) (intC_get hv), asI_ok, g_wrap_i64 (by omega) (by omega), takeI_succ hq, initV_snoc]
      by_cases hqv : q.1 = v
      · rw [if_pos (by rw [hqv]; exact beq_self_eq_true _), if_pos hqv, t1, hta2.get hkk (by omega) (pairC_get _ _ _ hq).2, asI_ok, g_succ (by omega)]
      · rw [if_neg (by rw [beq_iff_eq]; exact hqv), if_neg hqv, g_succ (by omega)]
    · have hta2 := hta.keep htal hk
      rw [jacquardref6_Compile_r1, t1, hta2.len, if_neg (by simp)]
  obtain ⟨st, ⟨b, h2, rfl, hb, hk2⟩, hL2⟩ := Lim_inv (F := jacquardref6_Compile_F2 (R E) Lim E.glob) (fun i st => ∃ b h2, st = jacquardref6_Compile_s2 (i : Int) cs [Cell.nils, Cell.nils, Cell.nils] [a, b, .nils] h2 ∧ Own h1.length h2 b 1 (intC .i64 (((locsT T).map (initV T.inits)).take i)) i ∧ Kp h1.length h1 h2) 0 (locsT T).length (by omega)
    (fun i st _ hi => by
      rintro ⟨b, h2, rfl, hb, hk⟩
      have hv : (locsT T)[i]? = some (locsT T)[i] := List.getElem?_eq_getElem hi
      generalize (locsT T)[i] = v at hv
      have hin := inner1 i b h2 v [Cell.nils, Cell.nils, Cell.nils] hv hk
      rw [show ((0 : Nat) : Int) = 0 from rfl] at hin
      obtain ⟨b2, h3, hap, hb2, hk3, _⟩ := hb.app (bytes := 8) (xs := [.int .i64 (initV T.inits v)]) hk.1 rfl (by omega) (by omega) (by omega)
      refine ⟨_, ?_, b2, h3, rfl, ?_, hk.trans hk3⟩
      · rw [jacquardref6_Compile_r2, show ∀ {α : Type} (f : Cell → Option α), atK [a, b, Cell.nils] 0 f = f a from fun _ => rfl, hat.len, if_pos (by simp; omega), hin, bind_ok, jacquardref6_Compile_e1_3, show ∀ {α : Type} (f : Cell → Option α), atK [a, b, Cell.nils] 1 f = f b from fun _ => rfl, if_pos (show (splice [Cell.int .i64 0] 0 ([(.int .i64 (initV T.inits v))] : List Cell)).length = 1 * 1 from rfl), show splice [Cell.int .i64 0] 0 ([(.int .i64 (initV T.inits v))] : List Cell) = [.int .i64 (initV T.inits v)] from rfl, hap, if_pos (show 1 < ([a, b, Cell.nils] : List Cell).length by simp), g_succ (by omega)]
        rfl
      · rw [takeI_succ (p := initV T.inits v) (by rw [List.getElem?_map, hv]; rfl), intC_snoc]; exact hb2) (st := jacquardref6_Compile_s2 ((0 : Nat) : Int) cs [Cell.nils, Cell.nils, Cell.nils] [a, .nils, .nils] h1) ⟨.nils, h1, rfl, Own.nil _ _ _, Kp.refl _ _⟩
  have hfin2 : jacquardref6_Compile_F2 (R E) Lim E.glob (jacquardref6_Compile_s2 ((locsT T).length : Int) cs [Cell.nils, Cell.nils, Cell.nils] [a, b, .nils] h2) = some (.exit 0, jacquardref6_Compile_x2_1 cs [Cell.nils, Cell.nils, Cell.nils] [a, b, .nils] h2) := by
    rw [jacquardref6_Compile_r2, show ∀ {α : Type} (f : Cell → Option α), atK [a, b, Cell.nils] 0 f = f a from fun _ => rfl, hat.len, if_neg (by simp)]
  have hr2 := hL2 _ (Lim_exit hfin2)
  rw [List.take_of_length_le (by rw [List.length_map]; exact Nat.le_refl _)] at hb
  have htb2 := htb.keep hk2
  have hat2 := hat.keep hal hk2
  have hal2 : Low h2.length a := Low_mono hk2.1 hal
  have hbt := hb.at
  have hbl := hb.low
  -- the threads
  have inner2 : ∀ (t : Nat) (code : List Ins) (y : Cell) (h3 : AHeap), T.thr[t]? = some code → Kp h2.length h2 h3 →
      ∃ x h4, Lim (jacquardref6_Compile_F3 (R E) Lim E.glob) (jacquardref6_Compile_s3 (t : Int) .nils ((0 : Nat) : Int) cs [Cell.nils, Cell.nils, Cell.nils] [a, b, y] h3) = some (.exit 6, jacquardref6_Compile_x3_7 (t : Int) x cs [Cell.nils, Cell.nils, Cell.nils] [a, b, y] h4) ∧ Own h3.length h4 x 9 (codeC (code.map (compI (locsT T)))) code.length ∧ Kp h3.length h3 h4 := by
    intro t code y h3 ht hk3
    obtain ⟨cx, c1x, c2x, c3x⟩ := (htb2.keep hk3).get (β := Ex × St) ht
    have hcl := hs.code code (List.mem_of_getElem? ht)
    obtain ⟨st, ⟨x, h4, rfl, hx, hk4⟩, hL⟩ := Lim_inv (F := jacquardref6_Compile_F3 (R E) Lim E.glob) (fun i st => ∃ x h4, st = jacquardref6_Compile_s3 (t : Int) x (i : Int) cs [Cell.nils, Cell.nils, Cell.nils] [a, b, y] h4 ∧ Own h3.length h4 x 9 (codeC ((code.map (compI (locsT T))).take i)) i ∧ Kp h3.length h3 h4) 0 code.length (by omega)
      (fun i st _ hi => by
        rintro ⟨x, h4, rfl, hx, hk4⟩
        obtain ⟨cx', c1x', c2x', c3x'⟩ := ((htb2.keep hk3).keep hk4).get (β := Ex × St) ht
        have hq : code[i]? = some code[i] := List.getElem?_eq_getElem hi
        generalize code[i] = q at hq
        obtain ⟨off, cs', hG, hle, hcc⟩ := c1x'.insG hq
        have hsn : (code.map (compI (locsT T)))[i]? = some (compI (locsT T) q) := by rw [List.getElem?_map, hq]; rfl
        obtain ⟨x2, h5, hap, hx2, hk5, _⟩ := hx.app (bytes := 72) (xs := (compI (locsT T) q).cs) hk4.1 rfl (by omega) (by omega) (by omega)
        refine ⟨_, ?_, x2, h5, rfl, ?_, hk4.trans hk5⟩
        · rw [jacquardref6_Compile_r3, t2, c3x', c1x'.len, if_pos (by simp; omega), t2, c3x', hG, if_pos hle, hcc, if_pos ⟨rfl, rfl, rfl⟩, ins_loc, asI_ok]
          unfold compI at hap
          by_cases hz : q.loc ≠ 0
          · have hpl := Place_R hE.c122 (b := b) (c := y) ((hat2.keep hal2 hk3).keep (Low_mono hk3.1 hal2) hk4) hu (by omega) q.loc
            rw [if_pos hz] at hap
            rw [if_pos (by rw [bne_iff_ne]; exact hz), if_pos ⟨rfl, pu _ _ _⟩, ins_loc, asI_ok, hpl, c1_ok, asI_ok, if_pos (by rw [Ins.len]; omega), ins_setloc, if_pos ⟨rfl, rfl⟩, if_pos ⟨rfl, by simp⟩, ins_splice, if_pos (ins_len19 _), hap, g_succ (by omega)]
          · rw [if_neg hz] at hap
            rw [if_neg (by rw [bne_iff_ne]; exact hz), if_pos ⟨rfl, rfl⟩, if_pos ⟨rfl, by simp⟩, ins_splice, if_pos (ins_len19 _), hap, g_succ (by omega)]
        · rw [takeI_succ hsn, codeC_snoc]; exact hx2) (st := jacquardref6_Compile_s3 (t : Int) .nils ((0 : Nat) : Int) cs [Cell.nils, Cell.nils, Cell.nils] [a, b, y] h3) ⟨.nils, h3, rfl, Own.nil _ _ _, Kp.refl _ _⟩
    have hfin : jacquardref6_Compile_F3 (R E) Lim E.glob (jacquardref6_Compile_s3 (t : Int) x (code.length : Int) cs [Cell.nils, Cell.nils, Cell.nils] [a, b, y] h4) = some (.exit 6, jacquardref6_Compile_x3_7 (t : Int) x cs [Cell.nils, Cell.nils, Cell.nils] [a, b, y] h4) := by
      obtain ⟨cx', c1x', c2x', c3x'⟩ := ((htb2.keep hk3).keep hk4).get (β := Ex × St) ht
      rw [jacquardref6_Compile_r3, t2, c3x', c1x'.len, if_neg (by simp)]
    rw [List.take_of_length_le (by rw [List.length_map]; exact Nat.le_refl _)] at hx
    exact ⟨x, h4, hL _ (Lim_exit hfin), hx, hk4⟩
  have hthl := hs.thr
  obtain ⟨st, ⟨y, h3, rfl, hy, hk3⟩, hL4⟩ := Lim_inv (F := jacquardref6_Compile_F4 (R E) Lim E.glob) (fun t st => ∃ y h3, st = jacquardref6_Compile_s4 (t : Int) cs [Cell.nils, Cell.nils, Cell.nils] [a, b, y] h3 ∧ RowsOwn 9 codeC h2.length h3 y ((T.thr.map fun c => c.map (compI (locsT T))).take t) ∧ Kp h2.length h2 h3) 0 T.thr.length (by omega)
    (fun t st _ ht => by
      rintro ⟨y, h3, rfl, hy, hk3⟩
      have hq : T.thr[t]? = some T.thr[t] := List.getElem?_eq_getElem ht
      generalize T.thr[t] = code at hq
      obtain ⟨x, h4, hin, hx, hk4⟩ := inner2 t code y h3 hq hk3
      rw [show ((0 : Nat) : Int) = 0 from rfl] at hin
      have hsn : (T.thr.map fun c => c.map (compI (locsT T)))[t]? = some (code.map (compI (locsT T))) := by rw [List.getElem?_map, hq]; rfl
      have hxl : code.length = (code.map (compI (locsT T))).length := by simp
      rw [hxl] at hx
      obtain ⟨y2, h5, hap, hy2, hk5, _⟩ := (hy.keep hk4).push (hx.monoN hk3.1) (fun k h1 h2 => by have := (hx.blkLt h1).2; have := (hy.blkLt h2).1; omega) (Nat.le_trans hk3.1 hk4.1) (by rw [List.length_take]; omega)
      refine ⟨_, ?_, y2, h5, rfl, ?_, hk3.trans ((hk4.mono hk3.1).trans hk5)⟩
      · rw [jacquardref6_Compile_r4, t2, htb2.len, if_pos (by simp; omega), hin, bind_ok, jacquardref6_Compile_e3_7, show ∀ {α : Type} (f : Cell → Option α), atK [a, b, y] 2 f = f y from fun _ => rfl, if_pos (show (splice [Cell.nils] 0 ([x] : List Cell)).length = 1 * 1 from rfl), show splice [Cell.nils] 0 ([x] : List Cell) = [x] from rfl, hap, if_pos (show 2 < ([a, b, y] : List Cell).length by simp), g_succ (by omega)]
        rfl
      · rw [takeI_succ hsn]; exact hy2) (st := jacquardref6_Compile_s4 ((0 : Nat) : Int) cs [Cell.nils, Cell.nils, Cell.nils] [a, b, .nils] h2) ⟨.nils, h2, rfl, by rw [List.take_zero]; exact RowsOwn.nil _, Kp.refl _ _⟩
  have hfin4 : jacquardref6_Compile_F4 (R E) Lim E.glob (jacquardref6_Compile_s4 (T.thr.length : Int) cs [Cell.nils, Cell.nils, Cell.nils] [a, b, y] h3) = some (.exit 4, jacquardref6_Compile_x4_5 [Cell.nils, Cell.nils, Cell.nils] [a, b, y] h3) := by
    rw [jacquardref6_Compile_r4, t2, htb2.len, if_neg (by simp)]
  have hr4 := hL4 _ (Lim_exit hfin4)
  rw [List.take_of_length_le (by rw [List.length_map]; exact Nat.le_refl _)] at hy
  obtain ⟨ts, y1, y2, y3⟩ := hy.of
  refine ⟨[a, b, y], h3, R_intro hE.fn ?_, ⟨a, b, y, ts, rfl, ⟨hat2.keep hal2 hk3, Low_mono hk3.1 hal2⟩, ⟨?_, Low_mono hk3.1 hbl⟩, ⟨y1, y2⟩, y3⟩, hk1.trans ((hk2.mono hk1.1).trans (hk3.mono (Nat.le_trans hk1.1 hk2.1)))⟩
  · rw [jacquardref6_Compile_eq, if_pos ⟨rfl, hlen⟩, hr1, c1_ok, asC_ok, show splice [Cell.nils, Cell.nils, Cell.nils] 0 ([a] : List Cell) = [a, .nils, .nils] from rfl, if_pos ⟨rfl, rfl, rfl⟩, show (0 : Int) = ((0 : Nat) : Int) from rfl, hr2, bind_ok, jacquardref6_Compile_e2_1, show (0 : Int) = ((0 : Nat) : Int) from rfl, hr4, bind_ok, jacquardref6_Compile_e4_5, if_pos ⟨rfl, rfl⟩, if_pos ⟨rfl, rfl, rfl⟩, if_pos ⟨rfl, rfl⟩]
  · have := hbt.keep hbl hk3
    have e : (compT T).init.length = (locsT T).length := by simp [compT]
    rw [e]; exact this

end
end Jq

namespace Jq
open Go

/- jacquard/jacquardlaw3.Small: 97 -/
def jacquardlaw3_Small_k2 (C : CallF) (L : LoopF) (G : Glo) (h0 : AHeap) : Ex → St → Option (List AV × AHeap) :=
  kSeq (fun st => jacquardlaw3_Small_p1.exec C L G st (jacquardlaw3_Small.fin G h0)) (jacquardlaw3_Small.fin G h0)
def jacquardlaw3_Small_c1 (a1 : Int) (x7 : Cell) (a8 : Int) (a9 : Int) (s0 : List Cell) (s1 : List Cell) (h : AHeap) : St := ⟨[.top, .v (.c (.int .i64 a1)), .top, .top, .loc 0 0, .loc 1 0, .top, .v (.c x7), .v (.c (.int .i64 a8)), .v (.c (.int .i64 a9)), .top, .top, .top, .top, .top, .top, .top, .top, .top, .top, .top, .top, .top, .top, .top, .top, .top, .top, .top, .top, .top, .top, .top, .top, .top, .top, .top, .top, .top, .top, .top, .top, .top, .top, .top, .top, .top, .top, .top, .top, .top, .top, .top, .top, .top, .top, .top, .top, .top, .top, .top, .top, .top, .top, .top, .top, .top, .top, .top, .top, .top, .top, .top, .top, .top, .top, .top, .top, .top, .top, .top, .top, .top, .top, .top, .top, .top, .top, .top, .top, .top, .top, .top, .top, .top, .top, .top, .top, .top, .top, .top, .top, .top, .top, .top, .top, .top, .top, .top, .top, .top, .top, .top, .top, .top, .top, .top, .top, .top, .top, .top, .top, .top, .top, .top, .top, .top, .top, .top, .top, .top, .top, .top, .top, .top, .top, .top, .top, .top, .top, .top, .top, .top, .top, .top, .top, .top, .top, .top, .top, .top, .top, .top, .top, .top, .top, .top, .top, .top, .top, .top, .top, .top, .top, .top, .top, .top, .top, .top, .top, .top, .top, .top, .top, .top, .top, .top, .top, .top, .top, .top, .top, .top, .top], [some s0, some s1, none], h⟩
def jacquardlaw3_Small_k3 (C : CallF) (L : LoopF) (G : Glo) (h0 : AHeap) : Ex → St → Option (List AV × AHeap) :=
  kSeq (fun st => jacquardlaw3_Small_p2.exec C L G st (jacquardlaw3_Small.fin G h0)) (jacquardlaw3_Small.fin G h0)
def jacquardlaw3_Small_k4 (C : CallF) (L : LoopF) (G : Glo) (h0 : AHeap) : Ex → St → Option (List AV × AHeap) :=
  kBlk 0 (jacquardlaw3_Small_k3 C L G h0)
def jacquardlaw3_Small_s2 (a1 : Int) (x7 : Cell) (a8 : Int) (a9 : Int) (a10 : Int) (a11 : Int) (s0 : List Cell) (s1 : List Cell) (h : AHeap) : St := ⟨[.top, .v (.c (.int .i64 a1)), .top, .top, .loc 0 0, .loc 1 0, .top, .v (.c x7), .v (.c (.int .i64 a8)), .v (.c (.int .i64 a9)), .v (.c (.int .i64 a10)), .v (.c (.int .i64 a11)), .top, .top, .top, .top, .top, .top, .top, .top, .top, .top, .top, .top, .top, .top, .top, .top, .top, .top, .top, .top, .top, .top, .top, .top, .top, .top, .top, .top, .top, .top, .top, .top, .top, .top, .top, .top, .top, .top, .top, .top, .top, .top, .top, .top, .top, .top, .top, .top, .top, .top, .top, .top, .top, .top, .top, .top, .top, .top, .top, .top, .top, .top, .top, .top, .top, .top, .top, .top, .top, .top, .top, .top, .top, .top, .top, .top, .top, .top, .top, .top, .top, .top, .top, .top, .top, .top, .top, .top, .top, .top, .top, .top, .top, .top, .top, .top, .top, .top, .top, .top, .top, .top, .top, .top, .top, .top, .top, .top, .top, .top, .top, .top, .top, .top, .top, .top, .top, .top, .top, .top, .top, .top, .top, .top, .top, .top, .top, .top, .top, .top, .top, .top, .top, .top, .top, .top, .top, .top, .top, .top, .top, .top, .top, .top, .top, .top, .top, .top, .top, .top, .top, .top, .top, .top, .top, .top, .top, .top, .top, .top, .top, .top, .top, .top, .top, .top, .top, .top, .top, .top, .top, .top], [some s0, some s1, none], h⟩
def jacquardlaw3_Small_F2 (C : CallF) (L : LoopF) (G : Glo) : St → Option (Ex × St) :=
  roundF (fun st f => jacquardlaw3_Small_b2.exec C L G st f) [1, 4, 5, 7, 8, 9, 10, 11] [0, 1] [(1, [4, 5, 7], [0, 1])]
def jacquardlaw3_Small_k5 (C : CallF) (L : LoopF) (G : Glo) : Ex → St → Option (Ex × St) :=
  kSeq (fun st => jacquardlaw3_Small_p3.exec C L G st (kLoop [1, 4, 5, 7, 8, 9, 10, 11] [0, 1] [(1, [4, 5, 7], [0, 1])])) (kLoop [1, 4, 5, 7, 8, 9, 10, 11] [0, 1] [(1, [4, 5, 7], [0, 1])])
def jacquardlaw3_Small_k6 (C : CallF) (L : LoopF) (G : Glo) : Ex → St → Option (Ex × St) :=
  kBlk 1 (jacquardlaw3_Small_k5 C L G)
def jacquardlaw3_Small_k7 (C : CallF) (L : LoopF) (G : Glo) : Ex → St → Option (Ex × St) :=
  kSeq (fun st => jacquardlaw3_Small_p4.exec C L G st (jacquardlaw3_Small_k6 C L G)) (jacquardlaw3_Small_k6 C L G)
def jacquardlaw3_Small_k8 (C : CallF) (L : LoopF) (G : Glo) : Ex → St → Option (Ex × St) :=
  kBlk 2 (jacquardlaw3_Small_k7 C L G)
def jacquardlaw3_Small_s1 (a1 : Int) (x7 : Cell) (a8 : Int) (a9 : Int) (a10 : Int) (a11 : Int) (x12 : Cell) (a13 : Int) (s0 : List Cell) (s1 : List Cell) (h : AHeap) : St := ⟨[.top, .v (.c (.int .i64 a1)), .top, .top, .loc 0 0, .loc 1 0, .top, .v (.c x7), .v (.c (.int .i64 a8)), .v (.c (.int .i64 a9)), .v (.c (.int .i64 a10)), .v (.c (.int .i64 a11)), .v (.c x12), .v (.c (.int .i64 a13)), .top, .top, .top, .top, .top, .top, .top, .top, .top, .top, .top, .top, .top, .top, .top, .top, .top, .top, .top, .top, .top, .top, .top, .top, .top, .top, .top, .top, .top, .top, .top, .top, .top, .top, .top, .top, .top, .top, .top, .top, .top, .top, .top, .top, .top, .top, .top, .top, .top, .top, .top, .top, .top, .top, .top, .top, .top, .top, .top, .top, .top, .top, .top, .top, .top, .top, .top, .top, .top, .top, .top, .top, .top, .top, .top, .top, .top, .top, .top, .top, .top, .top, .top, .top, .top, .top, .top, .top, .top, .top, .top, .top, .top, .top, .top, .top, .top, .top, .top, .top, .top, .top, .top, .top, .top, .top, .top, .top, .top, .top, .top, .top, .top, .top, .top, .top, .top, .top, .top, .top, .top, .top, .top, .top, .top, .top, .top, .top, .top, .top, .top, .top, .top, .top, .top, .top, .top, .top, .top, .top, .top, .top, .top, .top, .top, .top, .top, .top, .top, .top, .top, .top, .top, .top, .top, .top, .top, .top, .top, .top, .top, .top, .top, .top, .top, .top, .top, .top, .top, .top], [some s0, some s1, none], h⟩
def jacquardlaw3_Small_F1 (C : CallF) (L : LoopF) (G : Glo) : St → Option (Ex × St) :=
  roundF (fun st f => jacquardlaw3_Small_b1.exec C L G st f) [1, 4, 5, 7, 8, 9, 10, 11, 12, 13] [0, 1] [(3, [1, 4, 5, 7, 8, 9, 10, 11, 12], [0, 1])]
def jacquardlaw3_Small_k9 (C : CallF) (L : LoopF) (G : Glo) : Ex → St → Option (Ex × St) :=
  kSeq (fun st => jacquardlaw3_Small_p5.exec C L G st (kLoop [1, 4, 5, 7, 8, 9, 10, 11, 12, 13] [0, 1] [(3, [1, 4, 5, 7, 8, 9, 10, 11, 12], [0, 1])])) (kLoop [1, 4, 5, 7, 8, 9, 10, 11, 12, 13] [0, 1] [(3, [1, 4, 5, 7, 8, 9, 10, 11, 12], [0, 1])])
def jacquardlaw3_Small_k10 (C : CallF) (L : LoopF) (G : Glo) : Ex → St → Option (Ex × St) :=
  kBlk 3 (jacquardlaw3_Small_k9 C L G)
def jacquardlaw3_Small_k11 (C : CallF) (L : LoopF) (G : Glo) : Ex → St → Option (Ex × St) :=
  kSeq (fun st => jacquardlaw3_Small_p6.exec C L G st (jacquardlaw3_Small_k10 C L G)) (jacquardlaw3_Small_k10 C L G)
def jacquardlaw3_Small_c2 (a1 : Int) (x7 : Cell) (a8 : Int) (a9 : Int) (a10 : Int) (a11 : Int) (x12 : Cell) (a13 : Int) (a14 : Int) (a15 : Int) (s0 : List Cell) (s1 : List Cell) (s2 : List Cell) (h : AHeap) : St := ⟨[.top, .v (.c (.int .i64 a1)), .top, .top, .loc 0 0, .loc 1 0, .top, .v (.c x7), .v (.c (.int .i64 a8)), .v (.c (.int .i64 a9)), .v (.c (.int .i64 a10)), .v (.c (.int .i64 a11)), .v (.c x12), .v (.c (.int .i64 a13)), .v (.c (.int .i64 a14)), .v (.c (.int .i64 a15)), .loc 2 0, .top, .top, .top, .top, .top, .top, .top, .top, .top, .top, .top, .top, .top, .top, .top, .top, .top, .top, .top, .top, .top, .top, .top, .top, .top, .top, .top, .top, .top, .top, .top, .top, .top, .top, .top, .top, .top, .top, .top, .top, .top, .top, .top, .top, .top, .top, .top, .top, .top, .top, .top, .top, .top, .top, .top, .top, .top, .top, .top, .top, .top, .top, .top, .top, .top, .top, .top, .top, .top, .top, .top, .top, .top, .top, .top, .top, .top, .top, .top, .top, .top, .top, .top, .top, .top, .top, .top, .top, .top, .top, .top, .top, .top, .top, .top, .top, .top, .top, .top, .top, .top, .top, .top, .top, .top, .top, .top, .top, .top, .top, .top, .top, .top, .top, .top, .top, .top, .top, .top, .top, .top, .top, .top, .top, .top, .top, .top, .top, .top, .top, .top, .top, .top, .top, .top, .top, .top, .top, .top, .top, .top, .top, .top, .top, .top, .top, .top, .top, .top, .top, .top, .top, .top, .top, .top, .top, .top, .top, .top, .top, .top, .top, .top, .top, .top, .top, .top], [some s0, some s1, some s2], h⟩
def jacquardlaw3_Small_k12 (C : CallF) (L : LoopF) (G : Glo) : Ex → St → Option (Ex × St) :=
  kBlk 4 (jacquardlaw3_Small_k10 C L G)
def jacquardlaw3_Small_k13 (C : CallF) (L : LoopF) (G : Glo) : Ex → St → Option (Ex × St) :=
  kSeq (fun st => jacquardlaw3_Small_p7.exec C L G st (jacquardlaw3_Small_k12 C L G)) (jacquardlaw3_Small_k12 C L G)
def jacquardlaw3_Small_c3 (a1 : Int) (x7 : Cell) (a8 : Int) (a9 : Int) (a10 : Int) (a11 : Int) (x12 : Cell) (a13 : Int) (a15 : Int) (a17 : Int) (a83 : Int) (b95 : Bool) (s0 : List Cell) (s1 : List Cell) (s2 : List Cell) (h : AHeap) : St := ⟨[.top, .v (.c (.int .i64 a1)), .top, .top, .loc 0 0, .loc 1 0, .top, .v (.c x7), .v (.c (.int .i64 a8)), .v (.c (.int .i64 a9)), .v (.c (.int .i64 a10)), .v (.c (.int .i64 a11)), .v (.c x12), .v (.c (.int .i64 a13)), .top, .v (.c (.int .i64 a15)), .loc 2 0, .v (.c (.int .i64 a17)), .top, .top, .top, .top, .top, .top, .top, .top, .top, .top, .top, .top, .top, .top, .top, .top, .top, .top, .top, .top, .top, .top, .top, .top, .top, .top, .top, .top, .top, .top, .top, .top, .top, .top, .top, .top, .top, .top, .top, .top, .top, .top, .top, .top, .top, .top, .top, .top, .top, .top, .top, .top, .top, .top, .top, .top, .top, .top, .top, .top, .top, .top, .top, .top, .top, .v (.c (.int .i64 a83)), .top, .top, .top, .top, .top, .top, .top, .top, .top, .top, .top, .v (.c (.bool b95)), .top, .top, .top, .top, .top, .top, .top, .top, .top, .top, .top, .top, .top, .top, .top, .top, .top, .top, .top, .top, .top, .top, .top, .top, .top, .top, .top, .top, .top, .top, .top, .top, .top, .top, .top, .top, .top, .top, .top, .top, .top, .top, .top, .top, .top, .top, .top, .top, .top, .top, .top, .top, .top, .top, .top, .top, .top, .top, .top, .top, .top, .top, .top, .top, .top, .top, .top, .top, .top, .top, .top, .top, .top, .top, .top, .top, .top, .top, .top, .top, .top, .top, .top, .top, .top, .top, .top, .top], [some s0, some s1, some s2], h⟩
def jacquardlaw3_Small_k14 (C : CallF) (L : LoopF) (G : Glo) : Ex → St → Option (Ex × St) :=
  kSeq (fun st => jacquardlaw3_Small_p8.exec C L G st (jacquardlaw3_Small_k12 C L G)) (jacquardlaw3_Small_k12 C L G)
def jacquardlaw3_Small_c4 (a1 : Int) (x7 : Cell) (a8 : Int) (a9 : Int) (a10 : Int) (a11 : Int) (x12 : Cell) (a13 : Int) (a15 : Int) (a17 : Int) (a83 : Int) (b108 : Bool) (s0 : List Cell) (s1 : List Cell) (s2 : List Cell) (h : AHeap) : St := ⟨[.top, .v (.c (.int .i64 a1)), .top, .top, .loc 0 0, .loc 1 0, .top, .v (.c x7), .v (.c (.int .i64 a8)), .v (.c (.int .i64 a9)), .v (.c (.int .i64 a10)), .v (.c (.int .i64 a11)), .v (.c x12), .v (.c (.int .i64 a13)), .top, .v (.c (.int .i64 a15)), .loc 2 0, .v (.c (.int .i64 a17)), .top, .top, .top, .top, .top, .top, .top, .top, .top, .top, .top, .top, .top, .top, .top, .top, .top, .top, .top, .top, .top, .top, .top, .top, .top, .top, .top, .top, .top, .top, .top, .top, .top, .top, .top, .top, .top, .top, .top, .top, .top, .top, .top, .top, .top, .top, .top, .top, .top, .top, .top, .top, .top, .top, .top, .top, .top, .top, .top, .top, .top, .top, .top, .top, .top, .v (.c (.int .i64 a83)), .top, .top, .top, .top, .top, .top, .top, .top, .top, .top, .top, .top, .top, .top, .top, .top, .top, .top, .top, .top, .top, .top, .top, .top, .v (.c (.bool b108)), .top, .top, .top, .top, .top, .top, .top, .top, .top, .top, .top, .top, .top, .top, .top, .top, .top, .top, .top, .top, .top, .top, .top, .top, .top, .top, .top, .top, .top, .top, .top, .top, .top, .top, .top, .top, .top, .top, .top, .top, .top, .top, .top, .top, .top, .top, .top, .top, .top, .top, .top, .top, .top, .top, .top, .top, .top, .top, .top, .top, .top, .top, .top, .top, .top, .top, .top, .top, .top, .top, .top, .top, .top, .top, .top], [some s0, some s1, some s2], h⟩
def jacquardlaw3_Small_x1_3 (a1 : Int) (x7 : Cell) (a8 : Int) (a9 : Int) (a10 : Int) (a11 : Int) (x12 : Cell) (s0 : List Cell) (s1 : List Cell) (h : AHeap) : St := ⟨[.top, .v (.c (.int .i64 a1)), .top, .top, .loc 0 0, .loc 1 0, .top, .v (.c x7), .v (.c (.int .i64 a8)), .v (.c (.int .i64 a9)), .v (.c (.int .i64 a10)), .v (.c (.int .i64 a11)), .v (.c x12), .top, .top, .top, .top, .top, .top, .top, .top, .top, .top, .top, .top, .top, .top, .top, .top, .top, .top, .top, .top, .top, .top, .top, .top, .top, .top, .top, .top, .top, .top, .top, .top, .top, .top, .top, .top, .top, .top, .top, .top, .top, .top, .top, .top, .top, .top, .top, .top, .top, .top, .top, .top, .top, .top, .top, .top, .top, .top, .top, .top, .top, .top, .top, .top, .top, .top, .top, .top, .top, .top, .top, .top, .top, .top, .top, .top, .top, .top, .top, .top, .top, .top, .top, .top, .top, .top, .top, .top, .top, .top, .top, .top, .top, .top, .top, .top, .top, .top, .top, .top, .top, .top, .top, .top, .top, .top, .top, .top, .top, .top, .top, .top, .top, .top, .top, .top, .top, .top, .top, .top, .top, .top, .top, .top, .top, .top, .top, .top, .top, .top, .top, .top, .top, .top, .top, .top, .top, .top, .top, .top, .top, .top, .top, .top, .top, .top, .top, .top, .top, .top, .top, .top, .top, .top, .top, .top, .top, .top, .top, .top, .top, .top, .top, .top, .top, .top, .top, .top, .top, .top, .top], [some s0, some s1, none], h⟩
def jacquardlaw3_Small_x2_1 (x7 : Cell) (s0 : List Cell) (s1 : List Cell) (h : AHeap) : St := ⟨[.top, .top, .top, .top, .loc 0 0, .loc 1 0, .top, .v (.c x7), .top, .top, .top, .top, .top, .top, .top, .top, .top, .top, .top, .top, .top, .top, .top, .top, .top, .top, .top, .top, .top, .top, .top, .top, .top, .top, .top, .top, .top, .top, .top, .top, .top, .top, .top, .top, .top, .top, .top, .top, .top, .top, .top, .top, .top, .top, .top, .top, .top, .top, .top, .top, .top, .top, .top, .top, .top, .top, .top, .top, .top, .top, .top, .top, .top, .top, .top, .top, .top, .top, .top, .top, .top, .top, .top, .top, .top, .top, .top, .top, .top, .top, .top, .top, .top, .top, .top, .top, .top, .top, .top, .top, .top, .top, .top, .top, .top, .top, .top, .top, .top, .top, .top, .top, .top, .top, .top, .top, .top, .top, .top, .top, .top, .top, .top, .top, .top, .top, .top, .top, .top, .top, .top, .top, .top, .top, .top, .top, .top, .top, .top, .top, .top, .top, .top, .top, .top, .top, .top, .top, .top, .top, .top, .top, .top, .top, .top, .top, .top, .top, .top, .top, .top, .top, .top, .top, .top, .top, .top, .top, .top, .top, .top, .top, .top, .top, .top, .top, .top, .top, .top, .top, .top, .top, .top, .top], [some s0, some s1, none], h⟩
theorem jacquardlaw3_Small_ec4_n (C : CallF) (L : LoopF) (G : Glo) (a1 : Int) (x7 : Cell) (a8 : Int) (a9 : Int) (a10 : Int) (a11 : Int) (x12 : Cell) (a13 : Int) (a15 : Int) (a17 : Int) (a83 : Int) (b108 : Bool) (s0 : List Cell) (s1 : List Cell) (s2 : List Cell) (h : AHeap) :
    (jacquardlaw3_Small_k14 C L G) .normal (jacquardlaw3_Small_c4 a1 x7 a8 a9 a10 a11 x12 a13 a15 a17 a83 b108 s0 s1 s2 h) =
    if b108 = true then if (splice (splice (splice (List.replicate 9 (Cell.int .i64 0)) 0 ([(.int .i64 2)] : List Cell)) 1 ([(.int .i64 a17)] : List Cell)) 2 ([(.int .i64 a15)] : List Cell)).length = 9 ∧ 0 + 9 ≤ (List.replicate 9 (Cell.int .i64 0)).length then if (splice (List.replicate 9 (Cell.int .i64 0)) 0 (splice (splice (splice (List.replicate 9 (Cell.int .i64 0)) 0 ([(.int .i64 2)] : List Cell)) 1 ([(.int .i64 a17)] : List Cell)) 2 ([(.int .i64 a15)] : List Cell))).length = 1 * 9 then appK 9 72 x12 (splice (List.replicate 9 (Cell.int .i64 0)) 0 (splice (splice (splice (List.replicate 9 (Cell.int .i64 0)) 0 ([(.int .i64 2)] : List Cell)) 1 ([(.int .i64 a17)] : List Cell)) 2 ([(.int .i64 a15)] : List Cell))) h fun x_41 h_42 => some (.normal, (jacquardlaw3_Small_s1 a1 x7 a8 a9 (G.wrap .i64 (a10 + 1)) a11 x_41 (G.wrap .i64 (a13 - 1)) s0 s1 h_42)) else none else none else if (a83 == 8) = true then if (splice (List.replicate 9 (Cell.int .i64 0)) 0 ([(.int .i64 3)] : List Cell)).length = 9 ∧ 0 + 9 ≤ (List.replicate 9 (Cell.int .i64 0)).length then if (splice (List.replicate 9 (Cell.int .i64 0)) 0 (splice (List.replicate 9 (Cell.int .i64 0)) 0 ([(.int .i64 3)] : List Cell))).length = 1 * 9 then appK 9 72 x12 (splice (List.replicate 9 (Cell.int .i64 0)) 0 (splice (List.replicate 9 (Cell.int .i64 0)) 0 ([(.int .i64 3)] : List Cell))) h fun x_43 h_44 => some (.normal, (jacquardlaw3_Small_s1 a1 x7 a8 a9 a10 a11 x_43 (G.wrap .i64 (a13 - 1)) s0 s1 h_44)) else none else none else if (a83 == 9) = true then if 0 = 0 ∧ s2.length = 2 then if s2.length = 2 ∧ 3 + 2 ≤ (splice (splice (splice (List.replicate 9 (Cell.int .i64 0)) 0 ([(.int .i64 4)] : List Cell)) 1 ([(.int .i64 a17)] : List Cell)) 2 ([(.int .i64 a15)] : List Cell)).length then if (splice (splice [Cell.int .i64 0, Cell.int .i64 0] 0 ([(.int .i64 (-1))] : List Cell)) 1 ([(.int .i64 1)] : List Cell)).length = 2 ∧ 6 + 2 ≤ (splice (splice (splice (splice (List.replicate 9 (Cell.int .i64 0)) 0 ([(.int .i64 4)] : List Cell)) 1 ([(.int .i64 a17)] : List Cell)) 2 ([(.int .i64 a15)] : List Cell)) 3 s2).length then if (splice (splice (splice (splice (splice (List.replicate 9 (Cell.int .i64 0)) 0 ([(.int .i64 4)] : List Cell)) 1 ([(.int .i64 a17)] : List Cell)) 2 ([(.int .i64 a15)] : List Cell)) 3 s2) 6 (splice (splice [Cell.int .i64 0, Cell.int .i64 0] 0 ([(.int .i64 (-1))] : List Cell)) 1 ([(.int .i64 1)] : List Cell))).length = 9 ∧ 0 + 9 ≤ (List.replicate 9 (Cell.int .i64 0)).length then if (splice (List.replicate 9 (Cell.int .i64 0)) 0 (splice (splice (splice (splice (splice (List.replicate 9 (Cell.int .i64 0)) 0 ([(.int .i64 4)] : List Cell)) 1 ([(.int .i64 a17)] : List Cell)) 2 ([(.int .i64 a15)] : List Cell)) 3 s2) 6 (splice (splice [Cell.int .i64 0, Cell.int .i64 0] 0 ([(.int .i64 (-1))] : List Cell)) 1 ([(.int .i64 1)] : List Cell)))).length = 1 * 9 then appK 9 72 x12 (splice (List.replicate 9 (Cell.int .i64 0)) 0 (splice (splice (splice (splice (splice (List.replicate 9 (Cell.int .i64 0)) 0 ([(.int .i64 4)] : List Cell)) 1 ([(.int .i64 a17)] : List Cell)) 2 ([(.int .i64 a15)] : List Cell)) 3 s2) 6 (splice (splice [Cell.int .i64 0, Cell.int .i64 0] 0 ([(.int .i64 (-1))] : List Cell)) 1 ([(.int .i64 1)] : List Cell)))) h fun x_45 h_46 => some (.normal, (jacquardlaw3_Small_s1 a1 x7 a8 a9 (G.wrap .i64 (a10 + 1)) a11 x_45 (G.wrap .i64 (a13 - 1)) s0 s1 h_46)) else none else none else none else none else none else if (a83 == 10) = true then if 0 = 0 ∧ s2.length = 2 then if s2.length = 2 ∧ 3 + 2 ≤ (splice (splice (List.replicate 9 (Cell.int .i64 0)) 0 ([(.int .i64 5)] : List Cell)) 1 ([(.int .i64 a17)] : List Cell)).length then if ([(.int .i64 6)] : List Cell).length = 1 ∧ 5 + 1 ≤ (splice (splice (splice (List.replicate 9 (Cell.int .i64 0)) 0 ([(.int .i64 5)] : List Cell)) 1 ([(.int .i64 a17)] : List Cell)) 3 s2).length then if (splice (splice [Cell.int .i64 0, Cell.int .i64 0] 0 ([(.int .i64 (-1))] : List Cell)) 1 ([(.int .i64 1)] : List Cell)).length = 2 ∧ 6 + 2 ≤ (splice (splice (splice (splice (List.replicate 9 (Cell.int .i64 0)) 0 ([(.int .i64 5)] : List Cell)) 1 ([(.int .i64 a17)] : List Cell)) 3 s2) 5 ([(.int .i64 6)] : List Cell)).length then if (splice (splice (splice (splice (splice (List.replicate 9 (Cell.int .i64 0)) 0 ([(.int .i64 5)] : List Cell)) 1 ([(.int .i64 a17)] : List Cell)) 3 s2) 5 ([(.int .i64 6)] : List Cell)) 6 (splice (splice [Cell.int .i64 0, Cell.int .i64 0] 0 ([(.int .i64 (-1))] : List Cell)) 1 ([(.int .i64 1)] : List Cell))).length = 9 ∧ 0 + 9 ≤ (List.replicate 9 (Cell.int .i64 0)).length then if (splice (List.replicate 9 (Cell.int .i64 0)) 0 (splice (splice (splice (splice (splice (List.replicate 9 (Cell.int .i64 0)) 0 ([(.int .i64 5)] : List Cell)) 1 ([(.int .i64 a17)] : List Cell)) 3 s2) 5 ([(.int .i64 6)] : List Cell)) 6 (splice (splice [Cell.int .i64 0, Cell.int .i64 0] 0 ([(.int .i64 (-1))] : List Cell)) 1 ([(.int .i64 1)] : List Cell)))).length = 1 * 9 then appK 9 72 x12 (splice (List.replicate 9 (Cell.int .i64 0)) 0 (splice (splice (splice (splice (splice (List.replicate 9 (Cell.int .i64 0)) 0 ([(.int .i64 5)] : List Cell)) 1 ([(.int .i64 a17)] : List Cell)) 3 s2) 5 ([(.int .i64 6)] : List Cell)) 6 (splice (splice [Cell.int .i64 0, Cell.int .i64 0] 0 ([(.int .i64 (-1))] : List Cell)) 1 ([(.int .i64 1)] : List Cell)))) h fun x_47 h_48 => some (.normal, (jacquardlaw3_Small_s1 a1 x7 a8 a9 a10 a11 x_47 (G.wrap .i64 (a13 - 1)) s0 s1 h_48)) else none else none else none else none else none else none else if 0 = 0 ∧ s2.length = 2 then if s2.length = 2 ∧ 3 + 2 ≤ (splice (List.replicate 9 (Cell.int .i64 0)) 0 ([(.int .i64 6)] : List Cell)).length then if (splice [Cell.int .i64 0, Cell.int .i64 0] 0 ([(.int .i64 (-1))] : List Cell)).length = 2 ∧ 6 + 2 ≤ (splice (splice (List.replicate 9 (Cell.int .i64 0)) 0 ([(.int .i64 6)] : List Cell)) 3 s2).length then if ([(.int .i64 1)] : List Cell).length = 1 ∧ 8 + 1 ≤ (splice (splice (splice (List.replicate 9 (Cell.int .i64 0)) 0 ([(.int .i64 6)] : List Cell)) 3 s2) 6 (splice [Cell.int .i64 0, Cell.int .i64 0] 0 ([(.int .i64 (-1))] : List Cell))).length then if (splice (splice [Cell.int .i64 0, Cell.int .i64 0] 0 ([(.int .i64 (-1))] : List Cell)) 1 ([(.int .i64 2)] : List Cell)).length = 2 ∧ 3 + 2 ≤ (splice (splice (List.replicate 9 (Cell.int .i64 0)) 0 ([(.int .i64 1)] : List Cell)) 2 ([(.int .i64 a15)] : List Cell)).length then if (splice (splice (splice (splice (List.replicate 9 (Cell.int .i64 0)) 0 ([(.int .i64 6)] : List Cell)) 3 s2) 6 (splice [Cell.int .i64 0, Cell.int .i64 0] 0 ([(.int .i64 (-1))] : List Cell))) 8 ([(.int .i64 1)] : List Cell)).length = 9 ∧ 0 + 9 ≤ (List.replicate 18 (Cell.int .i64 0)).length then if (splice (splice (splice (List.replicate 9 (Cell.int .i64 0)) 0 ([(.int .i64 1)] : List Cell)) 2 ([(.int .i64 a15)] : List Cell)) 3 (splice (splice [Cell.int .i64 0, Cell.int .i64 0] 0 ([(.int .i64 (-1))] : List Cell)) 1 ([(.int .i64 2)] : List Cell))).length = 9 ∧ 9 + 9 ≤ (splice (List.replicate 18 (Cell.int .i64 0)) 0 (splice (splice (splice (splice (List.replicate 9 (Cell.int .i64 0)) 0 ([(.int .i64 6)] : List Cell)) 3 s2) 6 (splice [Cell.int .i64 0, Cell.int .i64 0] 0 ([(.int .i64 (-1))] : List Cell))) 8 ([(.int .i64 1)] : List Cell))).length then if (splice (splice (List.replicate 18 (Cell.int .i64 0)) 0 (splice (splice (splice (splice (List.replicate 9 (Cell.int .i64 0)) 0 ([(.int .i64 6)] : List Cell)) 3 s2) 6 (splice [Cell.int .i64 0, Cell.int .i64 0] 0 ([(.int .i64 (-1))] : List Cell))) 8 ([(.int .i64 1)] : List Cell))) 9 (splice (splice (splice (List.replicate 9 (Cell.int .i64 0)) 0 ([(.int .i64 1)] : List Cell)) 2 ([(.int .i64 a15)] : List Cell)) 3 (splice (splice [Cell.int .i64 0, Cell.int .i64 0] 0 ([(.int .i64 (-1))] : List Cell)) 1 ([(.int .i64 2)] : List Cell)))).length = 2 * 9 then appK 9 72 x12 (splice (splice (List.replicate 18 (Cell.int .i64 0)) 0 (splice (splice (splice (splice (List.replicate 9 (Cell.int .i64 0)) 0 ([(.int .i64 6)] : List Cell)) 3 s2) 6 (splice [Cell.int .i64 0, Cell.int .i64 0] 0 ([(.int .i64 (-1))] : List Cell))) 8 ([(.int .i64 1)] : List Cell))) 9 (splice (splice (splice (List.replicate 9 (Cell.int .i64 0)) 0 ([(.int .i64 1)] : List Cell)) 2 ([(.int .i64 a15)] : List Cell)) 3 (splice (splice [Cell.int .i64 0, Cell.int .i64 0] 0 ([(.int .i64 (-1))] : List Cell)) 1 ([(.int .i64 2)] : List Cell)))) h fun x_49 h_50 => some (.normal, (jacquardlaw3_Small_s1 a1 x7 a8 a9 (G.wrap .i64 (a10 + 1)) a11 x_49 (G.wrap .i64 (a13 - 1)) s0 s1 h_50)) else none else none else none else none else none else none else none else none := by kernel_rfl
theorem jacquardlaw3_Small_ec3_n (C : CallF) (L : LoopF) (G : Glo) (a1 : Int) (x7 : Cell) (a8 : Int) (a9 : Int) (a10 : Int) (a11 : Int) (x12 : Cell) (a13 : Int) (a15 : Int) (a17 : Int) (a83 : Int) (b95 : Bool) (s0 : List Cell) (s1 : List Cell) (s2 : List Cell) (h : AHeap) :
    (jacquardlaw3_Small_k13 C L G) .normal (jacquardlaw3_Small_c3 a1 x7 a8 a9 a10 a11 x12 a13 a15 a17 a83 b95 s0 s1 s2 h) =
    if b95 = true then if 0 = 0 ∧ s2.length = 2 then if s2.length = 2 ∧ 3 + 2 ≤ (splice (splice (List.replicate 9 (Cell.int .i64 0)) 0 ([(.int .i64 1)] : List Cell)) 2 ([(.int .i64 a15)] : List Cell)).length then if (splice (splice (splice (List.replicate 9 (Cell.int .i64 0)) 0 ([(.int .i64 1)] : List Cell)) 2 ([(.int .i64 a15)] : List Cell)) 3 s2).length = 9 ∧ 0 + 9 ≤ (List.replicate 9 (Cell.int .i64 0)).length then if (splice (List.replicate 9 (Cell.int .i64 0)) 0 (splice (splice (splice (List.replicate 9 (Cell.int .i64 0)) 0 ([(.int .i64 1)] : List Cell)) 2 ([(.int .i64 a15)] : List Cell)) 3 s2)).length = 1 * 9 then appK 9 72 x12 (splice (List.replicate 9 (Cell.int .i64 0)) 0 (splice (splice (splice (List.replicate 9 (Cell.int .i64 0)) 0 ([(.int .i64 1)] : List Cell)) 2 ([(.int .i64 a15)] : List Cell)) 3 s2)) h fun x_39 h_40 => some (.normal, (jacquardlaw3_Small_s1 a1 x7 a8 a9 (G.wrap .i64 (a10 + 1)) a11 x_39 (G.wrap .i64 (a13 - 1)) s0 s1 h_40)) else none else none else none else none else (if (a83 == 4) = true then some (.normal, (jacquardlaw3_Small_c4 a1 x7 a8 a9 a10 a11 x12 a13 a15 a17 a83 (a83 == 4) s0 s1 s2 h)) else if (a83 == 5) = true then some (.normal, (jacquardlaw3_Small_c4 a1 x7 a8 a9 a10 a11 x12 a13 a15 a17 a83 (a83 == 5) s0 s1 s2 h)) else if (a83 == 6) = true then some (.normal, (jacquardlaw3_Small_c4 a1 x7 a8 a9 a10 a11 x12 a13 a15 a17 a83 (a83 == 6) s0 s1 s2 h)) else some (.normal, (jacquardlaw3_Small_c4 a1 x7 a8 a9 a10 a11 x12 a13 a15 a17 a83 (a83 == 7) s0 s1 s2 h)) : Option (Ex × St)).bind fun p_51 => (jacquardlaw3_Small_k14 C L G) p_51.1 p_51.2 := by kernel_rfl
theorem jacquardlaw3_Small_ec2_n (C : CallF) (L : LoopF) (G : Glo) (a1 : Int) (x7 : Cell) (a8 : Int) (a9 : Int) (a10 : Int) (a11 : Int) (x12 : Cell) (a13 : Int) (a14 : Int) (a15 : Int) (s0 : List Cell) (s1 : List Cell) (s2 : List Cell) (h : AHeap) :
    (jacquardlaw3_Small_k11 C L G) .normal (jacquardlaw3_Small_c2 a1 x7 a8 a9 a10 a11 x12 a13 a14 a15 s0 s1 s2 h) =
    (if ((G.rem .i64 a14 12) == 0) = true then some (.normal, (jacquardlaw3_Small_c3 a1 x7 a8 a9 a10 a11 x12 a13 a15 (G.band .i64 (G.shr .i64 a14 11) 1) (G.rem .i64 a14 12) ((G.rem .i64 a14 12) == 0) s0 s1 s2 h)) else if ((G.rem .i64 a14 12) == 1) = true then some (.normal, (jacquardlaw3_Small_c3 a1 x7 a8 a9 a10 a11 x12 a13 a15 (G.band .i64 (G.shr .i64 a14 11) 1) (G.rem .i64 a14 12) ((G.rem .i64 a14 12) == 1) s0 s1 s2 h)) else if ((G.rem .i64 a14 12) == 2) = true then some (.normal, (jacquardlaw3_Small_c3 a1 x7 a8 a9 a10 a11 x12 a13 a15 (G.band .i64 (G.shr .i64 a14 11) 1) (G.rem .i64 a14 12) ((G.rem .i64 a14 12) == 2) s0 s1 s2 h)) else some (.normal, (jacquardlaw3_Small_c3 a1 x7 a8 a9 a10 a11 x12 a13 a15 (G.band .i64 (G.shr .i64 a14 11) 1) (G.rem .i64 a14 12) ((G.rem .i64 a14 12) == 3) s0 s1 s2 h)) : Option (Ex × St)).bind fun p_52 => (jacquardlaw3_Small_k13 C L G) p_52.1 p_52.2 := by kernel_rfl
theorem jacquardlaw3_Small_r1 (C : CallF) (L : LoopF) (G : Glo) (a1 : Int) (x7 : Cell) (a8 : Int) (a9 : Int) (a10 : Int) (a11 : Int) (x12 : Cell) (a13 : Int) (s0 : List Cell) (s1 : List Cell) (h : AHeap) :
    jacquardlaw3_Small_F1 C L G (jacquardlaw3_Small_s1 a1 x7 a8 a9 a10 a11 x12 a13 s0 s1 h) =
    scK (decide (a13 > 0)) true (some ((decide (a10 < a1)), h)) false h fun b_31 h_32 => if b_31 = true then fnK x7 fun g_33 l_34 => c1 (C g_33 ([] ++ l_34) h_32) fun y_36 h_35 => asI .i64 y_36 fun n_37 => if a9 = 0 then none else let v_38 : Int := (G.wrap .i64 (120 + (G.rem .i64 (G.shr .i64 n_37 4) a9))); if 0 = 0 ∧ [Cell.int .i64 0, Cell.int .i64 0].length = 2 ∧ (splice (splice [Cell.int .i64 0, Cell.int .i64 0] 0 ([(.int .i64 (-1))] : List Cell)) 1 ([(.int .i64 (G.rem .i64 (G.shr .i64 n_37 6) 3))] : List Cell)).length = 2 then (if ((G.rem .i64 (G.shr .i64 n_37 8) 3) == 0) = true then if 0 = 0 ∧ (splice (splice [Cell.int .i64 0, Cell.int .i64 0] 0 ([(.int .i64 (-1))] : List Cell)) 1 ([(.int .i64 (G.rem .i64 (G.shr .i64 n_37 6) 3))] : List Cell)).length = 2 ∧ (splice [Cell.int .i64 0, Cell.int .i64 0] 0 ([(.int .i64 (G.band .i64 (G.shr .i64 n_37 10) 1))] : List Cell)).length = 2 then some (.normal, (jacquardlaw3_Small_c2 a1 x7 a8 a9 a10 a11 x12 a13 n_37 v_38 s0 s1 (splice [Cell.int .i64 0, Cell.int .i64 0] 0 ([(.int .i64 (G.band .i64 (G.shr .i64 n_37 10) 1))] : List Cell)) h_35)) else none else some (.normal, (jacquardlaw3_Small_c2 a1 x7 a8 a9 a10 a11 x12 a13 n_37 v_38 s0 s1 (splice (splice [Cell.int .i64 0, Cell.int .i64 0] 0 ([(.int .i64 (-1))] : List Cell)) 1 ([(.int .i64 (G.rem .i64 (G.shr .i64 n_37 6) 3))] : List Cell)) h_35)) : Option (Ex × St)).bind fun p_53 => (jacquardlaw3_Small_k11 C L G) p_53.1 p_53.2 else none else some ((.exit 2), (jacquardlaw3_Small_x1_3 a1 x7 a8 a9 a10 a11 x12 s0 s1 h_32)) := by kernel_rfl
theorem jacquardlaw3_Small_e1_3 (C : CallF) (L : LoopF) (G : Glo) (a1 : Int) (x7 : Cell) (a8 : Int) (a9 : Int) (a10 : Int) (a11 : Int) (x12 : Cell) (s0 : List Cell) (s1 : List Cell) (h : AHeap) :
    (jacquardlaw3_Small_k8 C L G) (.exit 2) (jacquardlaw3_Small_x1_3 a1 x7 a8 a9 a10 a11 x12 s0 s1 h) =
    atK s1 2 fun q_54 => if (splice [Cell.nils] 0 ([x12] : List Cell)).length = 1 * 1 then appK 1 24 q_54 (splice [Cell.nils] 0 ([x12] : List Cell)) h fun x_55 h_56 => if 2 < s1.length then some (.normal, (jacquardlaw3_Small_s2 a1 x7 a8 a9 a10 (G.wrap .i64 (a11 + 1)) s0 (s1.set 2 x_55) h_56)) else none else none := by kernel_rfl
theorem jacquardlaw3_Small_r2 (C : CallF) (L : LoopF) (G : Glo) (a1 : Int) (x7 : Cell) (a8 : Int) (a9 : Int) (a10 : Int) (a11 : Int) (s0 : List Cell) (s1 : List Cell) (h : AHeap) :
    jacquardlaw3_Small_F2 C L G (jacquardlaw3_Small_s2 a1 x7 a8 a9 a10 a11 s0 s1 h) =
    if (decide (a11 < a8)) = true then fnK x7 fun g_26 l_27 => c1 (C g_26 ([] ++ l_27) h) fun y_29 h_28 => asI .i64 y_29 fun n_30 => (L (jacquardlaw3_Small_F1 C L G) (jacquardlaw3_Small_s1 a1 x7 a8 a9 a10 a11 .nils (G.wrap .i64 ((G.rem .i64 n_30 3) + 1)) s0 s1 h_28)).bind fun p_57 => (jacquardlaw3_Small_k8 C L G) p_57.1 p_57.2 else some ((.exit 0), (jacquardlaw3_Small_x2_1 x7 s0 s1 h)) := by kernel_rfl
theorem jacquardlaw3_Small_e2_1 (C : CallF) (L : LoopF) (G : Glo) (h0 : AHeap) (x7 : Cell) (s0 : List Cell) (s1 : List Cell) (h : AHeap) :
    (jacquardlaw3_Small_k4 C L G h0) (.exit 0) (jacquardlaw3_Small_x2_1 x7 s0 s1 h) =
    fnK x7 fun g_58 l_59 => c1 (C g_58 ([] ++ l_59) h) fun y_61 h_60 => asI .i64 y_61 fun n_62 => if ((G.rem .i64 n_62 3) == 0) = true then let v_63 : Int := (G.wrap .i64 ((G.rem .i64 (G.quo .i64 n_62 3) 2) + 1)); if (splice (splice (splice [Cell.int .i64 0, Cell.int .i64 0, Cell.int .i64 0, Cell.int .i64 0] 0 ([(.int .i64 0)] : List Cell)) 1 ([(.int .i64 (G.band .i64 (G.shr .i64 n_62 3) 1))] : List Cell)) 3 ([(.int .i64 (G.band .i64 (G.shr .i64 n_62 4) 1))] : List Cell)).length = 4 ∧ 0 + 4 ≤ [Cell.int .i64 0, Cell.int .i64 0, Cell.int .i64 0, Cell.int .i64 0].length then if (splice [Cell.int .i64 0, Cell.int .i64 0, Cell.int .i64 0, Cell.int .i64 0] 0 (splice (splice (splice [Cell.int .i64 0, Cell.int .i64 0, Cell.int .i64 0, Cell.int .i64 0] 0 ([(.int .i64 0)] : List Cell)) 1 ([(.int .i64 (G.band .i64 (G.shr .i64 n_62 3) 1))] : List Cell)) 3 ([(.int .i64 (G.band .i64 (G.shr .i64 n_62 4) 1))] : List Cell))).length = 1 * 4 then if (splice (splice (splice [Cell.int .i64 0, Cell.int .i64 0, Cell.int .i64 0, Cell.int .i64 0] 0 ([(.int .i64 (-1))] : List Cell)) 2 ([(.int .i64 120)] : List Cell)) 3 ([(.int .i64 (G.rem .i64 (G.shr .i64 n_62 5) 3))] : List Cell)).length = 4 ∧ 0 + 4 ≤ (List.replicate 8 (Cell.int .i64 0)).length then if (splice (splice (splice [Cell.int .i64 0, Cell.int .i64 0, Cell.int .i64 0, Cell.int .i64 0] 0 ([(.int .i64 1)] : List Cell)) 1 ([(.int .i64 0)] : List Cell)) 3 ([(.int .i64 (G.band .i64 (G.shr .i64 n_62 7) 1))] : List Cell)).length = 4 ∧ 4 + 4 ≤ (splice (List.replicate 8 (Cell.int .i64 0)) 0 (splice (splice (splice [Cell.int .i64 0, Cell.int .i64 0, Cell.int .i64 0, Cell.int .i64 0] 0 ([(.int .i64 (-1))] : List Cell)) 2 ([(.int .i64 120)] : List Cell)) 3 ([(.int .i64 (G.rem .i64 (G.shr .i64 n_62 5) 3))] : List Cell))).length then if (splice (splice (List.replicate 8 (Cell.int .i64 0)) 0 (splice (splice (splice [Cell.int .i64 0, Cell.int .i64 0, Cell.int .i64 0, Cell.int .i64 0] 0 ([(.int .i64 (-1))] : List Cell)) 2 ([(.int .i64 120)] : List Cell)) 3 ([(.int .i64 (G.rem .i64 (G.shr .i64 n_62 5) 3))] : List Cell))) 4 (splice (splice (splice [Cell.int .i64 0, Cell.int .i64 0, Cell.int .i64 0, Cell.int .i64 0] 0 ([(.int .i64 1)] : List Cell)) 1 ([(.int .i64 0)] : List Cell)) 3 ([(.int .i64 (G.band .i64 (G.shr .i64 n_62 7) 1))] : List Cell))).length = 2 * 4 then if (splice (splice [Cell.nils, Cell.nils] 0 ([(.sl h_60.length ((splice [Cell.int .i64 0, Cell.int .i64 0, Cell.int .i64 0, Cell.int .i64 0] 0 (splice (splice (splice [Cell.int .i64 0, Cell.int .i64 0, Cell.int .i64 0, Cell.int .i64 0] 0 ([(.int .i64 0)] : List Cell)) 1 ([(.int .i64 (G.band .i64 (G.shr .i64 n_62 3) 1))] : List Cell)) 3 ([(.int .i64 (G.band .i64 (G.shr .i64 n_62 4) 1))] : List Cell))).length) 0 1)] : List Cell)) 1 ([(.sl ((h_60 ++ [some (Blk.mk true 4 (splice [Cell.int .i64 0, Cell.int .i64 0, Cell.int .i64 0, Cell.int .i64 0] 0 (splice (splice (splice [Cell.int .i64 0, Cell.int .i64 0, Cell.int .i64 0, Cell.int .i64 0] 0 ([(.int .i64 0)] : List Cell)) 1 ([(.int .i64 (G.band .i64 (G.shr .i64 n_62 3) 1))] : List Cell)) 3 ([(.int .i64 (G.band .i64 (G.shr .i64 n_62 4) 1))] : List Cell))))]).length) ((splice (splice (List.replicate 8 (Cell.int .i64 0)) 0 (splice (splice (splice [Cell.int .i64 0, Cell.int .i64 0, Cell.int .i64 0, Cell.int .i64 0] 0 ([(.int .i64 (-1))] : List Cell)) 2 ([(.int .i64 120)] : List Cell)) 3 ([(.int .i64 (G.rem .i64 (G.shr .i64 n_62 5) 3))] : List Cell))) 4 (splice (splice (splice [Cell.int .i64 0, Cell.int .i64 0, Cell.int .i64 0, Cell.int .i64 0] 0 ([(.int .i64 1)] : List Cell)) 1 ([(.int .i64 0)] : List Cell)) 3 ([(.int .i64 (G.band .i64 (G.shr .i64 n_62 7) 1))] : List Cell))).length) 0 2)] : List Cell)).length = 2 * 1 then if 3 + 2 ≤ s1.length ∧ (splice (splice [Cell.int .i64 0, Cell.nils] 0 ([(.int .i64 v_63)] : List Cell)) 1 ([(.sl (((h_60 ++ [some (Blk.mk true 4 (splice [Cell.int .i64 0, Cell.int .i64 0, Cell.int .i64 0, Cell.int .i64 0] 0 (splice (splice (splice [Cell.int .i64 0, Cell.int .i64 0, Cell.int .i64 0, Cell.int .i64 0] 0 ([(.int .i64 0)] : List Cell)) 1 ([(.int .i64 (G.band .i64 (G.shr .i64 n_62 3) 1))] : List Cell)) 3 ([(.int .i64 (G.band .i64 (G.shr .i64 n_62 4) 1))] : List Cell))))]) ++ [some (Blk.mk true 4 (splice (splice (List.replicate 8 (Cell.int .i64 0)) 0 (splice (splice (splice [Cell.int .i64 0, Cell.int .i64 0, Cell.int .i64 0, Cell.int .i64 0] 0 ([(.int .i64 (-1))] : List Cell)) 2 ([(.int .i64 120)] : List Cell)) 3 ([(.int .i64 (G.rem .i64 (G.shr .i64 n_62 5) 3))] : List Cell))) 4 (splice (splice (splice [Cell.int .i64 0, Cell.int .i64 0, Cell.int .i64 0, Cell.int .i64 0] 0 ([(.int .i64 1)] : List Cell)) 1 ([(.int .i64 0)] : List Cell)) 3 ([(.int .i64 (G.band .i64 (G.shr .i64 n_62 7) 1))] : List Cell))))]).length) ((splice (splice [Cell.nils, Cell.nils] 0 ([(.sl h_60.length ((splice [Cell.int .i64 0, Cell.int .i64 0, Cell.int .i64 0, Cell.int .i64 0] 0 (splice (splice (splice [Cell.int .i64 0, Cell.int .i64 0, Cell.int .i64 0, Cell.int .i64 0] 0 ([(.int .i64 0)] : List Cell)) 1 ([(.int .i64 (G.band .i64 (G.shr .i64 n_62 3) 1))] : List Cell)) 3 ([(.int .i64 (G.band .i64 (G.shr .i64 n_62 4) 1))] : List Cell))).length) 0 1)] : List Cell)) 1 ([(.sl ((h_60 ++ [some (Blk.mk true 4 (splice [Cell.int .i64 0, Cell.int .i64 0, Cell.int .i64 0, Cell.int .i64 0] 0 (splice (splice (splice [Cell.int .i64 0, Cell.int .i64 0, Cell.int .i64 0, Cell.int .i64 0] 0 ([(.int .i64 0)] : List Cell)) 1 ([(.int .i64 (G.band .i64 (G.shr .i64 n_62 3) 1))] : List Cell)) 3 ([(.int .i64 (G.band .i64 (G.shr .i64 n_62 4) 1))] : List Cell))))]).length) ((splice (splice (List.replicate 8 (Cell.int .i64 0)) 0 (splice (splice (splice [Cell.int .i64 0, Cell.int .i64 0, Cell.int .i64 0, Cell.int .i64 0] 0 ([(.int .i64 (-1))] : List Cell)) 2 ([(.int .i64 120)] : List Cell)) 3 ([(.int .i64 (G.rem .i64 (G.shr .i64 n_62 5) 3))] : List Cell))) 4 (splice (splice (splice [Cell.int .i64 0, Cell.int .i64 0, Cell.int .i64 0, Cell.int .i64 0] 0 ([(.int .i64 1)] : List Cell)) 1 ([(.int .i64 0)] : List Cell)) 3 ([(.int .i64 (G.band .i64 (G.shr .i64 n_62 7) 1))] : List Cell))).length) 0 2)] : List Cell)).length) 0 2)] : List Cell)).length = 2 then if 0 = 0 ∧ (splice s1 3 (splice (splice [Cell.int .i64 0, Cell.nils] 0 ([(.int .i64 v_63)] : List Cell)) 1 ([(.sl (((h_60 ++ [some (Blk.mk true 4 (splice [Cell.int .i64 0, Cell.int .i64 0, Cell.int .i64 0, Cell.int .i64 0] 0 (splice (splice (splice [Cell.int .i64 0, Cell.int .i64 0, Cell.int .i64 0, Cell.int .i64 0] 0 ([(.int .i64 0)] : List Cell)) 1 ([(.int .i64 (G.band .i64 (G.shr .i64 n_62 3) 1))] : List Cell)) 3 ([(.int .i64 (G.band .i64 (G.shr .i64 n_62 4) 1))] : List Cell))))]) ++ [some (Blk.mk true 4 (splice (splice (List.replicate 8 (Cell.int .i64 0)) 0 (splice (splice (splice [Cell.int .i64 0, Cell.int .i64 0, Cell.int .i64 0, Cell.int .i64 0] 0 ([(.int .i64 (-1))] : List Cell)) 2 ([(.int .i64 120)] : List Cell)) 3 ([(.int .i64 (G.rem .i64 (G.shr .i64 n_62 5) 3))] : List Cell))) 4 (splice (splice (splice [Cell.int .i64 0, Cell.int .i64 0, Cell.int .i64 0, Cell.int .i64 0] 0 ([(.int .i64 1)] : List Cell)) 1 ([(.int .i64 0)] : List Cell)) 3 ([(.int .i64 (G.band .i64 (G.shr .i64 n_62 7) 1))] : List Cell))))]).length) ((splice (splice [Cell.nils, Cell.nils] 0 ([(.sl h_60.length ((splice [Cell.int .i64 0, Cell.int .i64 0, Cell.int .i64 0, Cell.int .i64 0] 0 (splice (splice (splice [Cell.int .i64 0, Cell.int .i64 0, Cell.int .i64 0, Cell.int .i64 0] 0 ([(.int .i64 0)] : List Cell)) 1 ([(.int .i64 (G.band .i64 (G.shr .i64 n_62 3) 1))] : List Cell)) 3 ([(.int .i64 (G.band .i64 (G.shr .i64 n_62 4) 1))] : List Cell))).length) 0 1)] : List Cell)) 1 ([(.sl ((h_60 ++ [some (Blk.mk true 4 (splice [Cell.int .i64 0, Cell.int .i64 0, Cell.int .i64 0, Cell.int .i64 0] 0 (splice (splice (splice [Cell.int .i64 0, Cell.int .i64 0, Cell.int .i64 0, Cell.int .i64 0] 0 ([(.int .i64 0)] : List Cell)) 1 ([(.int .i64 (G.band .i64 (G.shr .i64 n_62 3) 1))] : List Cell)) 3 ([(.int .i64 (G.band .i64 (G.shr .i64 n_62 4) 1))] : List Cell))))]).length) ((splice (splice (List.replicate 8 (Cell.int .i64 0)) 0 (splice (splice (splice [Cell.int .i64 0, Cell.int .i64 0, Cell.int .i64 0, Cell.int .i64 0] 0 ([(.int .i64 (-1))] : List Cell)) 2 ([(.int .i64 120)] : List Cell)) 3 ([(.int .i64 (G.rem .i64 (G.shr .i64 n_62 5) 3))] : List Cell))) 4 (splice (splice (splice [Cell.int .i64 0, Cell.int .i64 0, Cell.int .i64 0, Cell.int .i64 0] 0 ([(.int .i64 1)] : List Cell)) 1 ([(.int .i64 0)] : List Cell)) 3 ([(.int .i64 (G.band .i64 (G.shr .i64 n_62 7) 1))] : List Cell))).length) 0 2)] : List Cell)).length) 0 2)] : List Cell))).length = 5 then if 0 = 0 ∧ s0.length = 5 ∧ (splice s1 3 (splice (splice [Cell.int .i64 0, Cell.nils] 0 ([(.int .i64 v_63)] : List Cell)) 1 ([(.sl (((h_60 ++ [some (Blk.mk true 4 (splice [Cell.int .i64 0, Cell.int .i64 0, Cell.int .i64 0, Cell.int .i64 0] 0 (splice (splice (splice [Cell.int .i64 0, Cell.int .i64 0, Cell.int .i64 0, Cell.int .i64 0] 0 ([(.int .i64 0)] : List Cell)) 1 ([(.int .i64 (G.band .i64 (G.shr .i64 n_62 3) 1))] : List Cell)) 3 ([(.int .i64 (G.band .i64 (G.shr .i64 n_62 4) 1))] : List Cell))))]) ++ [some (Blk.mk true 4 (splice (splice (List.replicate 8 (Cell.int .i64 0)) 0 (splice (splice (splice [Cell.int .i64 0, Cell.int .i64 0, Cell.int .i64 0, Cell.int .i64 0] 0 ([(.int .i64 (-1))] : List Cell)) 2 ([(.int .i64 120)] : List Cell)) 3 ([(.int .i64 (G.rem .i64 (G.shr .i64 n_62 5) 3))] : List Cell))) 4 (splice (splice (splice [Cell.int .i64 0, Cell.int .i64 0, Cell.int .i64 0, Cell.int .i64 0] 0 ([(.int .i64 1)] : List Cell)) 1 ([(.int .i64 0)] : List Cell)) 3 ([(.int .i64 (G.band .i64 (G.shr .i64 n_62 7) 1))] : List Cell))))]).length) ((splice (splice [Cell.nils, Cell.nils] 0 ([(.sl h_60.length ((splice [Cell.int .i64 0, Cell.int .i64 0, Cell.int .i64 0, Cell.int .i64 0] 0 (splice (splice (splice [Cell.int .i64 0, Cell.int .i64 0, Cell.int .i64 0, Cell.int .i64 0] 0 ([(.int .i64 0)] : List Cell)) 1 ([(.int .i64 (G.band .i64 (G.shr .i64 n_62 3) 1))] : List Cell)) 3 ([(.int .i64 (G.band .i64 (G.shr .i64 n_62 4) 1))] : List Cell))).length) 0 1)] : List Cell)) 1 ([(.sl ((h_60 ++ [some (Blk.mk true 4 (splice [Cell.int .i64 0, Cell.int .i64 0, Cell.int .i64 0, Cell.int .i64 0] 0 (splice (splice (splice [Cell.int .i64 0, Cell.int .i64 0, Cell.int .i64 0, Cell.int .i64 0] 0 ([(.int .i64 0)] : List Cell)) 1 ([(.int .i64 (G.band .i64 (G.shr .i64 n_62 3) 1))] : List Cell)) 3 ([(.int .i64 (G.band .i64 (G.shr .i64 n_62 4) 1))] : List Cell))))]).length) ((splice (splice (List.replicate 8 (Cell.int .i64 0)) 0 (splice (splice (splice [Cell.int .i64 0, Cell.int .i64 0, Cell.int .i64 0, Cell.int .i64 0] 0 ([(.int .i64 (-1))] : List Cell)) 2 ([(.int .i64 120)] : List Cell)) 3 ([(.int .i64 (G.rem .i64 (G.shr .i64 n_62 5) 3))] : List Cell))) 4 (splice (splice (splice [Cell.int .i64 0, Cell.int .i64 0, Cell.int .i64 0, Cell.int .i64 0] 0 ([(.int .i64 1)] : List Cell)) 1 ([(.int .i64 0)] : List Cell)) 3 ([(.int .i64 (G.band .i64 (G.shr .i64 n_62 7) 1))] : List Cell))).length) 0 2)] : List Cell)).length) 0 2)] : List Cell))).length = 5 then if 0 = 0 ∧ (splice s1 3 (splice (splice [Cell.int .i64 0, Cell.nils] 0 ([(.int .i64 v_63)] : List Cell)) 1 ([(.sl (((h_60 ++ [some (Blk.mk true 4 (splice [Cell.int .i64 0, Cell.int .i64 0, Cell.int .i64 0, Cell.int .i64 0] 0 (splice (splice (splice [Cell.int .i64 0, Cell.int .i64 0, Cell.int .i64 0, Cell.int .i64 0] 0 ([(.int .i64 0)] : List Cell)) 1 ([(.int .i64 (G.band .i64 (G.shr .i64 n_62 3) 1))] : List Cell)) 3 ([(.int .i64 (G.band .i64 (G.shr .i64 n_62 4) 1))] : List Cell))))]) ++ [some (Blk.mk true 4 (splice (splice (List.replicate 8 (Cell.int .i64 0)) 0 (splice (splice (splice [Cell.int .i64 0, Cell.int .i64 0, Cell.int .i64 0, Cell.int .i64 0] 0 ([(.int .i64 (-1))] : List Cell)) 2 ([(.int .i64 120)] : List Cell)) 3 ([(.int .i64 (G.rem .i64 (G.shr .i64 n_62 5) 3))] : List Cell))) 4 (splice (splice (splice [Cell.int .i64 0, Cell.int .i64 0, Cell.int .i64 0, Cell.int .i64 0] 0 ([(.int .i64 1)] : List Cell)) 1 ([(.int .i64 0)] : List Cell)) 3 ([(.int .i64 (G.band .i64 (G.shr .i64 n_62 7) 1))] : List Cell))))]).length) ((splice (splice [Cell.nils, Cell.nils] 0 ([(.sl h_60.length ((splice [Cell.int .i64 0, Cell.int .i64 0, Cell.int .i64 0, Cell.int .i64 0] 0 (splice (splice (splice [Cell.int .i64 0, Cell.int .i64 0, Cell.int .i64 0, Cell.int .i64 0] 0 ([(.int .i64 0)] : List Cell)) 1 ([(.int .i64 (G.band .i64 (G.shr .i64 n_62 3) 1))] : List Cell)) 3 ([(.int .i64 (G.band .i64 (G.shr .i64 n_62 4) 1))] : List Cell))).length) 0 1)] : List Cell)) 1 ([(.sl ((h_60 ++ [some (Blk.mk true 4 (splice [Cell.int .i64 0, Cell.int .i64 0, Cell.int .i64 0, Cell.int .i64 0] 0 (splice (splice (splice [Cell.int .i64 0, Cell.int .i64 0, Cell.int .i64 0, Cell.int .i64 0] 0 ([(.int .i64 0)] : List Cell)) 1 ([(.int .i64 (G.band .i64 (G.shr .i64 n_62 3) 1))] : List Cell)) 3 ([(.int .i64 (G.band .i64 (G.shr .i64 n_62 4) 1))] : List Cell))))]).length) ((splice (splice (List.replicate 8 (Cell.int .i64 0)) 0 (splice (splice (splice [Cell.int .i64 0, Cell.int .i64 0, Cell.int .i64 0, Cell.int .i64 0] 0 ([(.int .i64 (-1))] : List Cell)) 2 ([(.int .i64 120)] : List Cell)) 3 ([(.int .i64 (G.rem .i64 (G.shr .i64 n_62 5) 3))] : List Cell))) 4 (splice (splice (splice [Cell.int .i64 0, Cell.int .i64 0, Cell.int .i64 0, Cell.int .i64 0] 0 ([(.int .i64 1)] : List Cell)) 1 ([(.int .i64 0)] : List Cell)) 3 ([(.int .i64 (G.band .i64 (G.shr .i64 n_62 7) 1))] : List Cell))).length) 0 2)] : List Cell)).length) 0 2)] : List Cell))).length = 5 then some ([(.agg (splice s1 3 (splice (splice [Cell.int .i64 0, Cell.nils] 0 ([(.int .i64 v_63)] : List Cell)) 1 ([(.sl (((h_60 ++ [some (Blk.mk true 4 (splice [Cell.int .i64 0, Cell.int .i64 0, Cell.int .i64 0, Cell.int .i64 0] 0 (splice (splice (splice [Cell.int .i64 0, Cell.int .i64 0, Cell.int .i64 0, Cell.int .i64 0] 0 ([(.int .i64 0)] : List Cell)) 1 ([(.int .i64 (G.band .i64 (G.shr .i64 n_62 3) 1))] : List Cell)) 3 ([(.int .i64 (G.band .i64 (G.shr .i64 n_62 4) 1))] : List Cell))))]) ++ [some (Blk.mk true 4 (splice (splice (List.replicate 8 (Cell.int .i64 0)) 0 (splice (splice (splice [Cell.int .i64 0, Cell.int .i64 0, Cell.int .i64 0, Cell.int .i64 0] 0 ([(.int .i64 (-1))] : List Cell)) 2 ([(.int .i64 120)] : List Cell)) 3 ([(.int .i64 (G.rem .i64 (G.shr .i64 n_62 5) 3))] : List Cell))) 4 (splice (splice (splice [Cell.int .i64 0, Cell.int .i64 0, Cell.int .i64 0, Cell.int .i64 0] 0 ([(.int .i64 1)] : List Cell)) 1 ([(.int .i64 0)] : List Cell)) 3 ([(.int .i64 (G.band .i64 (G.shr .i64 n_62 7) 1))] : List Cell))))]).length) ((splice (splice [Cell.nils, Cell.nils] 0 ([(.sl h_60.length ((splice [Cell.int .i64 0, Cell.int .i64 0, Cell.int .i64 0, Cell.int .i64 0] 0 (splice (splice (splice [Cell.int .i64 0, Cell.int .i64 0, Cell.int .i64 0, Cell.int .i64 0] 0 ([(.int .i64 0)] : List Cell)) 1 ([(.int .i64 (G.band .i64 (G.shr .i64 n_62 3) 1))] : List Cell)) 3 ([(.int .i64 (G.band .i64 (G.shr .i64 n_62 4) 1))] : List Cell))).length) 0 1)] : List Cell)) 1 ([(.sl ((h_60 ++ [some (Blk.mk true 4 (splice [Cell.int .i64 0, Cell.int .i64 0, Cell.int .i64 0, Cell.int .i64 0] 0 (splice (splice (splice [Cell.int .i64 0, Cell.int .i64 0, Cell.int .i64 0, Cell.int .i64 0] 0 ([(.int .i64 0)] : List Cell)) 1 ([(.int .i64 (G.band .i64 (G.shr .i64 n_62 3) 1))] : List Cell)) 3 ([(.int .i64 (G.band .i64 (G.shr .i64 n_62 4) 1))] : List Cell))))]).length) ((splice (splice (List.replicate 8 (Cell.int .i64 0)) 0 (splice (splice (splice [Cell.int .i64 0, Cell.int .i64 0, Cell.int .i64 0, Cell.int .i64 0] 0 ([(.int .i64 (-1))] : List Cell)) 2 ([(.int .i64 120)] : List Cell)) 3 ([(.int .i64 (G.rem .i64 (G.shr .i64 n_62 5) 3))] : List Cell))) 4 (splice (splice (splice [Cell.int .i64 0, Cell.int .i64 0, Cell.int .i64 0, Cell.int .i64 0] 0 ([(.int .i64 1)] : List Cell)) 1 ([(.int .i64 0)] : List Cell)) 3 ([(.int .i64 (G.band .i64 (G.shr .i64 n_62 7) 1))] : List Cell))).length) 0 2)] : List Cell)).length) 0 2)] : List Cell))))], (((h_60 ++ [some (Blk.mk true 4 (splice [Cell.int .i64 0, Cell.int .i64 0, Cell.int .i64 0, Cell.int .i64 0] 0 (splice (splice (splice [Cell.int .i64 0, Cell.int .i64 0, Cell.int .i64 0, Cell.int .i64 0] 0 ([(.int .i64 0)] : List Cell)) 1 ([(.int .i64 (G.band .i64 (G.shr .i64 n_62 3) 1))] : List Cell)) 3 ([(.int .i64 (G.band .i64 (G.shr .i64 n_62 4) 1))] : List Cell))))]) ++ [some (Blk.mk true 4 (splice (splice (List.replicate 8 (Cell.int .i64 0)) 0 (splice (splice (splice [Cell.int .i64 0, Cell.int .i64 0, Cell.int .i64 0, Cell.int .i64 0] 0 ([(.int .i64 (-1))] : List Cell)) 2 ([(.int .i64 120)] : List Cell)) 3 ([(.int .i64 (G.rem .i64 (G.shr .i64 n_62 5) 3))] : List Cell))) 4 (splice (splice (splice [Cell.int .i64 0, Cell.int .i64 0, Cell.int .i64 0, Cell.int .i64 0] 0 ([(.int .i64 1)] : List Cell)) 1 ([(.int .i64 0)] : List Cell)) 3 ([(.int .i64 (G.band .i64 (G.shr .i64 n_62 7) 1))] : List Cell))))]) ++ [some (Blk.mk true 1 (splice (splice [Cell.nils, Cell.nils] 0 ([(.sl h_60.length ((splice [Cell.int .i64 0, Cell.int .i64 0, Cell.int .i64 0, Cell.int .i64 0] 0 (splice (splice (splice [Cell.int .i64 0, Cell.int .i64 0, Cell.int .i64 0, Cell.int .i64 0] 0 ([(.int .i64 0)] : List Cell)) 1 ([(.int .i64 (G.band .i64 (G.shr .i64 n_62 3) 1))] : List Cell)) 3 ([(.int .i64 (G.band .i64 (G.shr .i64 n_62 4) 1))] : List Cell))).length) 0 1)] : List Cell)) 1 ([(.sl ((h_60 ++ [some (Blk.mk true 4 (splice [Cell.int .i64 0, Cell.int .i64 0, Cell.int .i64 0, Cell.int .i64 0] 0 (splice (splice (splice [Cell.int .i64 0, Cell.int .i64 0, Cell.int .i64 0, Cell.int .i64 0] 0 ([(.int .i64 0)] : List Cell)) 1 ([(.int .i64 (G.band .i64 (G.shr .i64 n_62 3) 1))] : List Cell)) 3 ([(.int .i64 (G.band .i64 (G.shr .i64 n_62 4) 1))] : List Cell))))]).length) ((splice (splice (List.replicate 8 (Cell.int .i64 0)) 0 (splice (splice (splice [Cell.int .i64 0, Cell.int .i64 0, Cell.int .i64 0, Cell.int .i64 0] 0 ([(.int .i64 (-1))] : List Cell)) 2 ([(.int .i64 120)] : List Cell)) 3 ([(.int .i64 (G.rem .i64 (G.shr .i64 n_62 5) 3))] : List Cell))) 4 (splice (splice (splice [Cell.int .i64 0, Cell.int .i64 0, Cell.int .i64 0, Cell.int .i64 0] 0 ([(.int .i64 1)] : List Cell)) 1 ([(.int .i64 0)] : List Cell)) 3 ([(.int .i64 (G.band .i64 (G.shr .i64 n_62 7) 1))] : List Cell))).length) 0 2)] : List Cell)))])) else none else none else none else none else none else none else none else none else none else none else if 0 = 0 ∧ s1.length = 5 then if 0 = 0 ∧ s0.length = 5 ∧ s1.length = 5 then if 0 = 0 ∧ s1.length = 5 then some ([(.agg s1)], h_60) else none else none else none := by kernel_rfl
theorem jacquardlaw3_Small_ec1_n (C : CallF) (L : LoopF) (G : Glo) (h0 : AHeap) (a1 : Int) (x7 : Cell) (a8 : Int) (a9 : Int) (s0 : List Cell) (s1 : List Cell) (h : AHeap) :
    (jacquardlaw3_Small_k2 C L G h0) .normal (jacquardlaw3_Small_c1 a1 x7 a8 a9 s0 s1 h) =
    (L (jacquardlaw3_Small_F2 C L G) (jacquardlaw3_Small_s2 a1 x7 a8 a9 0 0 s0 s1 h)).bind fun p_64 => (jacquardlaw3_Small_k4 C L G h0) p_64.1 p_64.2 := by kernel_rfl
set_option maxRecDepth 100000 in
theorem jacquardlaw3_Small_eq (C : CallF) (L : LoopF) (G : Glo) (x0 : Cell) (a1 : Int) (h0 : AHeap) :
    jacquardlaw3_Small.body C L G [(.c x0), (.c (.int .i64 a1))] h0 =
    if 0 = 0 ∧ [Cell.str (ByteArray.mk #[]), Cell.nils, Cell.nils, Cell.int .i64 0, Cell.nils].length = 5 ∧ (splice [Cell.str (ByteArray.mk #[]), Cell.nils, Cell.nils, Cell.int .i64 0, Cell.nils] 0 ([(.str (ByteArray.mk #[116]))] : List Cell)).length = 5 then rdH ((h0 ++ [some (Blk.mk true 0 (AV.cells (.c x0)))]) ++ [some (Blk.mk true 0 ([Cell.int .i64 0]))]) ((h0 ++ [some (Blk.mk true 0 (AV.cells (.c x0)))]).length) (([Cell.int .i64 0]).length) fun l_1 => if 0 < l_1.length then putH ((h0 ++ [some (Blk.mk true 0 (AV.cells (.c x0)))]) ++ [some (Blk.mk true 0 ([Cell.int .i64 0]))]) ((h0 ++ [some (Blk.mk true 0 (AV.cells (.c x0)))]).length) (l_1.set 0 (.int .i64 0)) fun h_2 => fnK (.fn 115 [((h0 ++ [some (Blk.mk true 0 (AV.cells (.c x0)))]).length, ([Cell.int .i64 0]).length, 0), (h0.length, (AV.cells (.c x0)).length, 0)]) fun g_3 l_4 => c1 (C g_3 ([] ++ l_4) h_2) fun y_6 h_5 => asI .i64 y_6 fun n_7 => fnK (.fn 115 [((h0 ++ [some (Blk.mk true 0 (AV.cells (.c x0)))]).length, ([Cell.int .i64 0]).length, 0), (h0.length, (AV.cells (.c x0)).length, 0)]) fun g_8 l_9 => c1 (C g_8 ([] ++ l_9) h_5) fun y_11 h_10 => asI .i64 y_11 fun n_12 => (fnK (.fn 115 [((h0 ++ [some (Blk.mk true 0 (AV.cells (.c x0)))]).length, ([Cell.int .i64 0]).length, 0), (h0.length, (AV.cells (.c x0)).length, 0)]) fun g_13 l_14 => c1 (C g_13 ([] ++ l_14) h_10) fun y_16 h_15 => asI .i64 y_16 fun n_17 => if ((G.rem .i64 n_17 4) == 0) = true then atK (splice [Cell.str (ByteArray.mk #[]), Cell.nils, Cell.nils, Cell.int .i64 0, Cell.nils] 0 ([(.str (ByteArray.mk #[116]))] : List Cell)) 1 fun q_18 => fnK (.fn 115 [((h0 ++ [some (Blk.mk true 0 (AV.cells (.c x0)))]).length, ([Cell.int .i64 0]).length, 0), (h0.length, (AV.cells (.c x0)).length, 0)]) fun g_19 l_20 => c1 (C g_19 ([] ++ l_20) h_15) fun y_22 h_21 => asI .i64 y_22 fun n_23 => if (splice (splice [Cell.int .i64 0, Cell.int .i64 0] 0 ([(.int .i64 120)] : List Cell)) 1 ([(.int .i64 (G.rem .i64 n_23 3))] : List Cell)).length = 2 ∧ 0 + 2 ≤ [Cell.int .i64 0, Cell.int .i64 0].length then if (splice [Cell.int .i64 0, Cell.int .i64 0] 0 (splice (splice [Cell.int .i64 0, Cell.int .i64 0] 0 ([(.int .i64 120)] : List Cell)) 1 ([(.int .i64 (G.rem .i64 n_23 3))] : List Cell))).length = 1 * 2 then appK 2 16 q_18 (splice [Cell.int .i64 0, Cell.int .i64 0] 0 (splice (splice [Cell.int .i64 0, Cell.int .i64 0] 0 ([(.int .i64 120)] : List Cell)) 1 ([(.int .i64 (G.rem .i64 n_23 3))] : List Cell))) h_21 fun x_24 h_25 => if 1 < (splice [Cell.str (ByteArray.mk #[]), Cell.nils, Cell.nils, Cell.int .i64 0, Cell.nils] 0 ([(.str (ByteArray.mk #[116]))] : List Cell)).length then some (.normal, (jacquardlaw3_Small_c1 a1 (.fn 115 [((h0 ++ [some (Blk.mk true 0 (AV.cells (.c x0)))]).length, ([Cell.int .i64 0]).length, 0), (h0.length, (AV.cells (.c x0)).length, 0)]) (G.wrap .i64 ((G.rem .i64 n_7 2) + 2)) (G.wrap .i64 ((G.rem .i64 n_12 2) + 2)) [Cell.str (ByteArray.mk #[]), Cell.nils, Cell.nils, Cell.int .i64 0, Cell.nils] ((splice [Cell.str (ByteArray.mk #[]), Cell.nils, Cell.nils, Cell.int .i64 0, Cell.nils] 0 ([(.str (ByteArray.mk #[116]))] : List Cell)).set 1 x_24) h_25)) else none else none else none else some (.normal, (jacquardlaw3_Small_c1 a1 (.fn 115 [((h0 ++ [some (Blk.mk true 0 (AV.cells (.c x0)))]).length, ([Cell.int .i64 0]).length, 0), (h0.length, (AV.cells (.c x0)).length, 0)]) (G.wrap .i64 ((G.rem .i64 n_7 2) + 2)) (G.wrap .i64 ((G.rem .i64 n_12 2) + 2)) [Cell.str (ByteArray.mk #[]), Cell.nils, Cell.nils, Cell.int .i64 0, Cell.nils] (splice [Cell.str (ByteArray.mk #[]), Cell.nils, Cell.nils, Cell.int .i64 0, Cell.nils] 0 ([(.str (ByteArray.mk #[116]))] : List Cell)) h_15)) : Option (Ex × St)).bind fun p_65 => (jacquardlaw3_Small_k2 C L G h0) p_65.1 p_65.2 else none else none := by kernel_rfl

/- jacquard/jacquardlaw3.Small$1: 115 -/
set_option maxRecDepth 100000 in
theorem jacquardlaw3_Small_1_eq (C : CallF) (L : LoopF) (G : Glo) (k0 : Nat) (N0 : Nat) (o0 : Nat) (k1 : Nat) (N1 : Nat) (o1 : Nat) (h0 : AHeap) :
    jacquardlaw3_Small_1.body C L G [(.c (.ptr k0 N0 o0)), (.c (.ptr k1 N1 o1))] h0 =
    rdH h0 k0 N0 fun l_1 => atK l_1 o0 fun q_2 => asI .i64 (.c q_2) fun n_3 => rdH h0 k0 N0 fun l_4 => if o0 < l_4.length then putH h0 k0 (l_4.set o0 (.int .i64 (G.wrap .i64 (n_3 + 1)))) fun h_5 => rdH h_5 k0 N0 fun l_6 => atK l_6 o0 fun q_7 => asI .i64 (.c q_7) fun n_8 => rdH h_5 k1 N1 fun l_9 => atK l_9 o1 fun q_10 => lenK q_10 fun n_11 => if (decide (n_8 > n_11)) = true then some ([(.c (.int .i64 0))], h_5) else rdH h_5 k1 N1 fun l_12 => atK l_12 o1 fun q_13 => rdH h_5 k0 N0 fun l_14 => atK l_14 o0 fun q_15 => asI .i64 (.c q_15) fun n_16 => idxSK 1 q_13 (G.wrap .i64 (n_16 - 1)) fun k_17 N_18 o_19 => rdH h_5 k_17 N_18 fun l_20 => atK l_20 o_19 fun q_21 => asI .i64 (.c q_21) fun n_22 => some ([(.c (.int .i64 (G.band .i64 n_22 65535)))], h_5) else none := by kernel_rfl


end Jq

/- Tests made of numbers: what instructions they have. -/
namespace Jq
open Go

def opdOk (o : Opd) : Prop := (o.reg = -1 ∧ 0 ≤ o.val ∧ o.val < 3) ∨ ((o.reg = 0 ∨ o.reg = 1) ∧ o.val = 0)

/-- An instruction of a small test, its letter one of L from x on. -/
def SmI (L : Int) (i : Ins) : Prop :=
  (i.kind = 1 ∧ i.reg = 0 ∧ (120 ≤ i.loc ∧ i.loc < 120 + L) ∧ opdOk i.a ∧ i.op = 0 ∧ i.b = ⟨0, 0⟩ ∧ i.n = 0) ∨
  (i.kind = 2 ∧ (i.reg = 0 ∨ i.reg = 1) ∧ (120 ≤ i.loc ∧ i.loc < 120 + L) ∧ i.a = ⟨0, 0⟩ ∧ i.op = 0 ∧ i.b = ⟨0, 0⟩ ∧ i.n = 0) ∨
  (i = ⟨3, 0, 0, ⟨0, 0⟩, 0, ⟨0, 0⟩, 0⟩) ∨
  (i.kind = 4 ∧ (i.reg = 0 ∨ i.reg = 1) ∧ (120 ≤ i.loc ∧ i.loc < 120 + L) ∧ opdOk i.a ∧ i.op = 0 ∧ i.b = ⟨-1, 1⟩ ∧ i.n = 0) ∨
  (i.kind = 5 ∧ (i.reg = 0 ∨ i.reg = 1) ∧ i.loc = 0 ∧ opdOk i.a ∧ i.op = 6 ∧ i.b = ⟨-1, 1⟩ ∧ i.n = 0) ∨
  (i.kind = 6 ∧ i.reg = 0 ∧ i.loc = 0 ∧ opdOk i.a ∧ i.op = 0 ∧ i.b = ⟨-1, 0⟩ ∧ i.n = 1)

/-- How many instructions touch memory (a fence does not count). -/
def memC (c : List Ins) : Nat := c.countP fun i => decide (i.kind = 1 ∨ i.kind = 2 ∨ i.kind = 4)

/-- Instructions one behind the other, a skip ahead of a store. -/
inductive ThrOk (L : Int) : Nat → List Ins → Prop
  | nil : ThrOk L 0 []
  | one {k : Nat} {c : List Ins} {i : Ins} : ThrOk L k c → SmI L i → i.kind ≠ 6 → ThrOk L (k + 1) (c ++ [i])
  | two {k : Nat} {c : List Ins} {i j : Ins} : ThrOk L k c → SmI L i → i.kind = 6 → SmI L j → j.kind = 1 → ThrOk L (k + 1) (c ++ [i, j])

theorem ThrOk.len {L : Int} {k : Nat} {c : List Ins} (t : ThrOk L k c) : c.length ≤ 2 * k := by
  induction t with
  | nil => simp
  | one _ _ _ ih => rw [List.length_append]; simp; omega
  | two _ _ _ _ _ ih => rw [List.length_append]; simp; omega

theorem ThrOk.all {L : Int} {k : Nat} {c : List Ins} (t : ThrOk L k c) : ∀ i ∈ c, SmI L i := by
  induction t with
  | nil => simp
  | one _ h _ ih =>
    intro i hi
    rcases List.mem_append.1 hi with hi | hi
    · exact ih i hi
    · simp at hi; subst hi; exact h
  | two _ h _ h' _ ih =>
    intro i hi
    rcases List.mem_append.1 hi with hi | hi
    · exact ih i hi
    · simp at hi; rcases hi with rfl | rfl
      · exact h
      · exact h'

theorem memC_app (a b : List Ins) : memC (a ++ b) = memC a + memC b := by unfold memC; rw [List.countP_append]

/-- Some more elements at the end. -/
theorem Own.appM {n : Nat} {h : AHeap} {x : Cell} {esz len bytes m : Nat} {cs xs : List Cell} (o : Own n h x esz cs len) (hn : n ≤ h.length) (hx : xs.length = m * esz) (hm : 0 < m) (he : 0 < esz) (h1 : (len + m) * bytes ≤ maxBytes) (h2 : len + m ≤ maxBytes) :
    ∃ x' h', (∀ {α : Type} (f : Cell → AHeap → Option α), appK esz bytes x xs h f = f x' h') ∧ Own n h' x' esz (cs ++ xs) (len + m) ∧ Kp n h h' := by
  have hd : xs.length / esz = m := by rw [hx]; exact Nat.mul_div_cancel _ he
  have hpos : 0 < xs.length := by rw [hx]; exact Nat.mul_pos hm he
  rcases o.2 with ⟨rfl, rfl⟩ | ⟨k, rfl, hk, hb⟩
  · have hcs : cs = [] := List.length_eq_zero_iff.1 (by have := o.1; omega)
    subst hcs
    refine ⟨.sl h.length xs.length 0 m, h ++ [some ⟨true, esz, xs⟩], fun f => ?_, ⟨by simp [hx], .inr ⟨h.length, by simp, hn, by rw [List.nil_append]; exact blk_new _ _⟩⟩, Kp.app _ hn⟩
    unfold appK; simp only; rw [if_neg (by omega), hd, if_pos ⟨by rw [Nat.zero_add] at h1; exact h1, by omega⟩]
  · have hl := o.1
    refine ⟨.sl k (len * esz + xs.length) 0 (len + m), setBlk h k (some ⟨true, esz, cs ++ xs⟩), fun f => ?_, ⟨by simp [hl, hx, Nat.add_mul], .inr ⟨k, by simp [hl], hk, blk_set_self (blk_lt' hb) _⟩⟩, Kp.set hk _⟩
    unfold appK; simp only; rw [hb, Option.bind_some]; dsimp only
    rw [if_pos ⟨rfl, rfl, rfl, by omega, by rw [hd]; exact h1, by rw [hd]; exact h2⟩, if_neg (by omega), if_pos trivial, hd, List.take_of_length_le (by omega)]

section
variable {E : Env}

theorem shr_nn {x k : Int} (hx : 0 ≤ x) : 0 ≤ E.glob.shr .i64 x k := by
  show 0 ≤ x.fdiv (2 ^ min k.toNat 64)
  exact Int.fdiv_nonneg hx (Int.le_of_lt (Int.pow_pos (by omega)))
theorem rem_rng {x m : Int} (hx : 0 ≤ x) (hm : 0 < m) : 0 ≤ E.glob.rem .i64 x m ∧ E.glob.rem .i64 x m < m := by
  rw [g_rem, Int.tmod_eq_emod_of_nonneg hx]
  exact ⟨Int.emod_nonneg _ (by omega), Int.emod_lt_of_pos _ hm⟩
theorem g_band1 {x : Int} : E.glob.band .i64 x 1 = x % 2 := by
  show IntKind.wrap .i64 ((BitVec.ofInt 64 x &&& BitVec.ofInt 64 1).toNat : Nat) = _
  have h1 : (BitVec.ofInt 64 x &&& BitVec.ofInt 64 1).toNat = (BitVec.ofInt 64 x).toNat % 2 := by
    rw [BitVec.toNat_and]
    have : (BitVec.ofInt 64 1).toNat = 2 ^ 1 - 1 := by decide
    rw [this, Nat.and_two_pow_sub_one_eq_mod]
  rw [h1, BitVec.toNat_ofInt]
  have h3 : ((((x % ((2 ^ 64 : Nat) : Int)).toNat % 2 : Nat) : Int)) = x % 2 := by omega
  rw [h3]
  exact wrap_i64 (by omega) (by omega)
theorem band1_rng (x : Int) : E.glob.band .i64 x 1 = 0 ∨ E.glob.band .i64 x 1 = 1 := by rw [g_band1]; omega

theorem g_band16 {x : Int} : 0 ≤ E.glob.band .i64 x 65535 ∧ E.glob.band .i64 x 65535 < 65536 := by
  have h : E.glob.band .i64 x 65535 = x % 65536 := by
    show IntKind.wrap .i64 ((BitVec.ofInt 64 x &&& BitVec.ofInt 64 65535).toNat : Nat) = _
    have h1 : (BitVec.ofInt 64 x &&& BitVec.ofInt 64 65535).toNat = (BitVec.ofInt 64 x).toNat % 65536 := by
      rw [BitVec.toNat_and]
      have : (BitVec.ofInt 64 65535).toNat = 2 ^ 16 - 1 := by decide
      rw [this, Nat.and_two_pow_sub_one_eq_mod]
    rw [h1, BitVec.toNat_ofInt]
    have h3 : ((((x % ((2 ^ 64 : Nat) : Int)).toNat % 65536 : Nat) : Int)) = x % 65536 := by omega
    rw [h3]
    exact wrap_i64 (by omega) (by omega)
  rw [h]; omega

/-- Where the row of numbers and the place in it lie. -/
def VarsAt (h0 : AHeap) (x : Cell) (h : AHeap) (m : Nat) : Prop :=
  blk? h h0.length = some ⟨true, 0, [x]⟩ ∧ blk? h (h0.length + 1) = some ⟨true, 0, [.int .i64 (m : Int)]⟩ ∧ h0.length + 2 ≤ h.length ∧ Kp h0.length h0 h

def nxF (h0 : AHeap) : Cell := .fn 115 [(h0.length + 1, 1, 0), (h0.length, 1, 0)]

theorem VarsAt.keep {h0 h h' : AHeap} {x : Cell} {m : Nat} (v : VarsAt h0 x h m) (hk : Kp (h0.length + 2) h h') : VarsAt h0 x h' m :=
  ⟨by rw [hk.blk (by omega)]; exact v.1, by rw [hk.blk (by omega)]; exact v.2.1, Nat.le_trans v.2.2.1 hk.1, v.2.2.2.trans (hk.mono (by omega))⟩

theorem rd1' {α : Type} {h : AHeap} {k : Nat} {a : Cell} (hk : blk? h k = some ⟨true, 0, [a]⟩) {F : List Cell → Option α} : rdH h k 1 F = F [a] := rdH_ok hk rfl

/-- The next number. -/
theorem next_R (hE : jacquardlaw3_Small_1_In E) {h0 h : AHeap} {x : Cell} {l : List Int} {m : Nat} (hx : SlAt h0 x 1 (intC .i64 l) l.length) (hlow : Low h0.length x) (hl : l.length < 9223372036854775808) (v : VarsAt h0 x h m) (hm : m < 100000) :
    ∃ r : Int, 0 ≤ r ∧ r < 65536 ∧ (∀ {α : Type} (F : AV → AHeap → Option α), (fnK (nxF h0) fun g cs => c1 (R E g ([] ++ cs) h) F) = F (.c (.int .i64 r)) (setBlk h (h0.length + 1) (some ⟨true, 0, [.int .i64 ((m + 1 : Nat) : Int)]⟩))) ∧
      VarsAt h0 x (setBlk h (h0.length + 1) (some ⟨true, 0, [.int .i64 ((m + 1 : Nat) : Int)]⟩)) (m + 1) := by
  obtain ⟨v1, v2, v3, v4⟩ := v
  have b2 : blk? (setBlk h (h0.length + 1) (some ⟨true, 0, [.int .i64 ((m + 1 : Nat) : Int)]⟩)) (h0.length + 1) = some ⟨true, 0, [.int .i64 ((m + 1 : Nat) : Int)]⟩ := blk_set_self (blk_lt' v2) _
  have b1 : blk? (setBlk h (h0.length + 1) (some ⟨true, 0, [.int .i64 ((m + 1 : Nat) : Int)]⟩)) h0.length = some ⟨true, 0, [x]⟩ := by rw [blk_set_ne (by omega)]; exact v1
  have kk : Kp h0.length h0 (setBlk h (h0.length + 1) (some ⟨true, 0, [.int .i64 ((m + 1 : Nat) : Int)]⟩)) := v4.trans (Kp.set (by omega) _)
  have hx' := hx.keep hlow kk
  have hV : VarsAt h0 x (setBlk h (h0.length + 1) (some ⟨true, 0, [.int .i64 ((m + 1 : Nat) : Int)]⟩)) (m + 1) := ⟨b1, b2, by rw [setBlk_len]; exact v3, kk⟩
  have hb : jacquardlaw3_Small_1.body (R E) Lim E.glob [.c (.ptr (h0.length + 1) 1 0), .c (.ptr h0.length 1 0)] h = some ([.c (.int .i64 (if m + 1 > l.length then 0 else E.glob.band .i64 (l.getD m 0) 65535))], setBlk h (h0.length + 1) (some ⟨true, 0, [.int .i64 ((m + 1 : Nat) : Int)]⟩)) := by
    rw [jacquardlaw3_Small_1_eq, rd1' v2, atK_ok (i := 0) (c := .int .i64 (m : Int)) rfl, asI_ok, rd1' v2, if_pos (by simp), g_succ (by omega), putH_ok v2 rfl]
    dsimp only [List.set]
    rw [rd1' b2, atK_ok (i := 0) (c := .int .i64 ((m + 1 : Nat) : Int)) rfl, asI_ok, rd1' b1, atK_ok (i := 0) (c := x) rfl, hx'.len]
    by_cases hgt : m + 1 > l.length
    · rw [if_pos (by simp; omega), if_pos hgt]
    · rw [if_neg (by simp; omega), if_neg hgt, rd1' b1, atK_ok (i := 0) (c := x) rfl, rd1' b2, atK_ok (i := 0) (c := .int .i64 ((m + 1 : Nat) : Int)) rfl, asI_ok, g_wrap_i64 (by omega) (by omega), show ((m + 1 : Nat) : Int) - 1 = (m : Int) by omega, hx'.get1 (show m < l.length by omega) (intC_get (getDI (by omega))), asI_ok]
  refine ⟨if m + 1 > l.length then 0 else E.glob.band .i64 (l.getD m 0) 65535, ?_, ?_, fun F => ?_, hV⟩
  · split
    · omega
    · exact g_band16.1
  · split
    · omega
    · exact g_band16.2
  · show c1 (R E 115 [.c (.ptr (h0.length + 1) 1 0), .c (.ptr h0.length 1 0)] h) F = _
    rw [R_intro hE.fn hb, c1_ok]

end
end Jq

/- Tests made of numbers: one instruction more. -/
namespace Jq
open Go

section
variable {E : Env}

/-- What one round comes to. -/
def OneMore (E : Env) (most : Int) (fnc : Cell) (n L : Int) (mem : Nat) (i : Int) (k : Int) (s0 s1 : List Cell) (N kk : Nat) (c : List Ins) (h : AHeap) (o : Option (Ex × St)) : Prop :=
  ∃ (c2 : List Ins) (mem2 : Nat) (xs2 : Cell) (h2 : AHeap), o = some (.normal, jacquardlaw3_Small_s1 most fnc n L (mem2 : Int) i xs2 (k - 1) s0 s1 h2) ∧ ThrOk L (kk + 1) c2 ∧ memC c2 + mem = memC c + mem2 ∧ mem ≤ mem2 ∧ mem2 ≤ mem + 1 ∧
    Own N h2 xs2 9 (codeC c2) c2.length ∧ Kp N h h2

variable {most : Int} {fnc : Cell} {n L : Int} {mem : Nat} {i : Int} {xs : Cell} {k loc x r m : Int} {s0 s1 : List Cell} {v : Opd} {h : AHeap} {N kk : Nat} {c : List Ins}

theorem one_ins {f : Cell → AHeap → Option (Ex × St)} {mem2 : Nat} {j : Ins} (hxs : Own N h xs 9 (codeC c) c.length) (hN : N ≤ h.length) (hc : c.length ≤ 100) (t : ThrOk L kk c) (hj : SmI L j) (h6 : j.kind ≠ 6)
    (hm2 : mem2 = mem + memC [j]) (hf : ∀ x' h', f x' h' = some (.normal, jacquardlaw3_Small_s1 most fnc n L (mem2 : Int) i x' (k - 1) s0 s1 h')) :
    OneMore E most fnc n L mem i k s0 s1 N kk c h (appK 9 72 xs j.cs h f) := by
  have hm : maxBytes ≥ 200 * 72 := by unfold maxBytes; omega
  obtain ⟨x', h', ha, ho, hk, _⟩ := hxs.app (bytes := 72) (xs := j.cs) hN rfl (by omega) (by omega) (by omega)
  have h1 : memC [j] ≤ 1 := by unfold memC; exact Nat.le_trans (List.countP_le_length) (by simp)
  refine ⟨c ++ [j], mem2, x', h', by rw [ha, hf], t.one hj h6, by rw [memC_app, hm2]; omega, by omega, by omega, ?_, hk⟩
  rw [codeC_snoc, List.length_append, List.length_singleton]; exact ho

theorem memC_yes {j : Ins} (h : j.kind = 1 ∨ j.kind = 2 ∨ j.kind = 4) : memC [j] = 1 := by unfold memC; rw [List.countP_cons, List.countP_nil]; simp [h]
theorem memC_no {j : Ins} (h : ¬ (j.kind = 1 ∨ j.kind = 2 ∨ j.kind = 4)) : memC [j] = 0 := by unfold memC; rw [List.countP_cons, List.countP_nil]; simp [h]

theorem small_st (hxs : Own N h xs 9 (codeC c) c.length) (hN : N ≤ h.length) (hc : c.length ≤ 100) (t : ThrOk L kk c) (hv : opdOk v) (hloc : 120 ≤ loc ∧ loc < 120 + L) (hmem : mem < 1000) (hk : 0 ≤ k ∧ k ≤ 3) {b : Bool} (hb : b = true) :
    OneMore E most fnc n L mem i k s0 s1 N kk c h ((jacquardlaw3_Small_k13 (R E) Lim E.glob) .normal (jacquardlaw3_Small_c3 most fnc n L (mem : Int) i xs k loc r m b s0 s1 v.cs h)) := by
  have e : splice (splice (splice (List.replicate 9 (Cell.int .i64 0)) 0 ([(.int .i64 1)] : List Cell)) 2 ([(.int .i64 loc)] : List Cell)) 3 v.cs = (Ins.mk 1 0 loc v 0 ⟨0, 0⟩ 0).cs := rfl
  rw [jacquardlaw3_Small_ec3_n, if_pos hb, if_pos ⟨rfl, rfl⟩, if_pos ⟨rfl, by simp [splice]⟩, e, if_pos ⟨rfl, by simp⟩, ins_splice, if_pos (ins_len19 _)]
  refine one_ins (mem2 := mem + 1) hxs hN hc t (.inl ⟨rfl, rfl, hloc, hv, rfl, rfl, rfl⟩) (by simp) (by rw [memC_yes (.inl rfl)]) fun x' h' => ?_
  rw [g_succ (by omega), g_wrap_i64 (by omega) (by omega)]

theorem small_ld (hxs : Own N h xs 9 (codeC c) c.length) (hN : N ≤ h.length) (hc : c.length ≤ 100) (t : ThrOk L kk c) (hr : r = 0 ∨ r = 1) (hloc : 120 ≤ loc ∧ loc < 120 + L) (hmem : mem < 1000) (hk : 0 ≤ k ∧ k ≤ 3) {b : Bool} (hb : b = true) {s2 : List Cell} :
    OneMore E most fnc n L mem i k s0 s1 N kk c h ((jacquardlaw3_Small_k14 (R E) Lim E.glob) .normal (jacquardlaw3_Small_c4 most fnc n L (mem : Int) i xs k loc r m b s0 s1 s2 h)) := by
  have e : splice (splice (splice (List.replicate 9 (Cell.int .i64 0)) 0 ([(.int .i64 2)] : List Cell)) 1 ([(.int .i64 r)] : List Cell)) 2 ([(.int .i64 loc)] : List Cell) = (Ins.mk 2 r loc ⟨0, 0⟩ 0 ⟨0, 0⟩ 0).cs := rfl
  rw [jacquardlaw3_Small_ec4_n, if_pos hb, e, if_pos ⟨rfl, by simp⟩, ins_splice, if_pos (ins_len19 _)]
  refine one_ins (mem2 := mem + 1) hxs hN hc t (.inr (.inl ⟨rfl, hr, hloc, rfl, rfl, rfl, rfl⟩)) (by simp) (by rw [memC_yes (.inr (.inl rfl))]) fun x' h' => ?_
  rw [g_succ (by omega), g_wrap_i64 (by omega) (by omega)]

theorem mb2 {k : Nat} (hk : k ≤ 100) : (k + 2) * 72 ≤ maxBytes ∧ k + 2 ≤ maxBytes := by
  have hm : maxBytes ≥ 200 * 72 := by unfold maxBytes; omega
  omega

theorem z18_len2 (a b : Ins) : (codeC [a, b]).length = 2 * 9 := by rw [codeC_len]; rfl

theorem two_ins {f : Cell → AHeap → Option (Ex × St)} {j q : Ins} (hxs : Own N h xs 9 (codeC c) c.length) (hN : N ≤ h.length) (hc : c.length ≤ 100) (t : ThrOk L kk c) (hj : SmI L j) (h6 : j.kind = 6) (hq : SmI L q) (h1 : q.kind = 1)
    (hf : ∀ x' h', f x' h' = some (.normal, jacquardlaw3_Small_s1 most fnc n L ((mem + 1 : Nat) : Int) i x' (k - 1) s0 s1 h')) :
    OneMore E most fnc n L mem i k s0 s1 N kk c h (appK 9 72 xs (codeC [j, q]) h f) := by
  obtain ⟨f1, f2⟩ := mb2 hc
  obtain ⟨x', h', ha, ho, hkp⟩ := hxs.appM hN (z18_len2 j q) Nat.zero_lt_two (Nat.succ_pos 8) f1 f2
  have e4 : codeC (c ++ [j, q]) = codeC c ++ codeC [j, q] := by simp [codeC]
  refine ⟨c ++ [j, q], mem + 1, x', h', by rw [ha, hf], t.two hj h6 hq h1, ?_, by omega, by omega, ?_, hkp⟩
  · rw [memC_app]
    have : memC [j, q] = 1 := by
      show memC ([j] ++ [q]) = 1
      rw [memC_app, memC_no (by omega), memC_yes (.inl h1)]
    omega
  · rw [e4, List.length_append]; exact ho

theorem z18_len : 0 + 9 ≤ (List.replicate 18 (Cell.int .i64 0)).length := by rw [List.length_replicate]; omega
theorem z18_one (a : Ins) : 9 + 9 ≤ (splice (List.replicate 18 (Cell.int .i64 0)) 0 a.cs).length := by
  unfold splice
  rw [List.length_append, List.length_append, List.length_drop, List.length_take, List.length_replicate, Ins.len]; omega
theorem z18_two (a b : Ins) : splice (splice (List.replicate 18 (Cell.int .i64 0)) 0 a.cs) 9 b.cs = codeC [a, b] := rfl

theorem small_other (hxs : Own N h xs 9 (codeC c) c.length) (hN : N ≤ h.length) (hc : c.length ≤ 100) (t : ThrOk L kk c) (hL : 0 < L) (hv : opdOk v) (hr : r = 0 ∨ r = 1) (hloc : 120 ≤ loc ∧ loc < 120 + L) (hmem : mem < 1000) (hk : 0 ≤ k ∧ k ≤ 3) {b : Bool} (hb : b = false) :
    OneMore E most fnc n L mem i k s0 s1 N kk c h ((jacquardlaw3_Small_k14 (R E) Lim E.glob) .normal (jacquardlaw3_Small_c4 most fnc n L (mem : Int) i xs k loc r m b s0 s1 v.cs h)) := by
  have hm : maxBytes ≥ 200 * 72 := by unfold maxBytes; omega
  rw [jacquardlaw3_Small_ec4_n, if_neg (by rw [hb]; simp)]
  by_cases h8 : m = 8
  · have e : splice (List.replicate 9 (Cell.int .i64 0)) 0 ([(.int .i64 3)] : List Cell) = (Ins.mk 3 0 0 ⟨0, 0⟩ 0 ⟨0, 0⟩ 0).cs := rfl
    rw [if_pos (by rw [h8]; rfl), e, if_pos ⟨rfl, by simp⟩, ins_splice, if_pos (ins_len19 _)]
    refine one_ins (mem2 := mem) hxs hN hc t (.inr (.inr (.inl rfl))) (by simp) (by rw [memC_no (by simp)]; rfl) fun x' h' => ?_
    rw [g_wrap_i64 (by omega) (by omega)]
  · rw [if_neg (by rw [beq_iff_eq]; exact h8)]
    by_cases h9 : m = 9
    · have e : splice (splice (splice (splice (splice (List.replicate 9 (Cell.int .i64 0)) 0 ([(.int .i64 4)] : List Cell)) 1 ([(.int .i64 r)] : List Cell)) 2 ([(.int .i64 loc)] : List Cell)) 3 v.cs) 6 (splice (splice [Cell.int .i64 0, Cell.int .i64 0] 0 ([(.int .i64 (-1))] : List Cell)) 1 ([(.int .i64 1)] : List Cell)) = (Ins.mk 4 r loc v 0 ⟨-1, 1⟩ 0).cs := rfl
      rw [if_pos (by rw [h9]; rfl), if_pos ⟨rfl, rfl⟩, if_pos ⟨rfl, by simp [splice]⟩, if_pos ⟨rfl, by simp [splice, Opd.cs]⟩, e, if_pos ⟨rfl, by simp⟩, ins_splice, if_pos (ins_len19 _)]
      refine one_ins (mem2 := mem + 1) hxs hN hc t (.inr (.inr (.inr (.inl ⟨rfl, hr, hloc, hv, rfl, rfl, rfl⟩)))) (by simp) (by rw [memC_yes (.inr (.inr rfl))]) fun x' h' => ?_
      rw [g_succ (by omega), g_wrap_i64 (by omega) (by omega)]
    · rw [if_neg (by rw [beq_iff_eq]; exact h9)]
      by_cases h10 : m = 10
      · have e : splice (splice (splice (splice (splice (List.replicate 9 (Cell.int .i64 0)) 0 ([(.int .i64 5)] : List Cell)) 1 ([(.int .i64 r)] : List Cell)) 3 v.cs) 5 ([(.int .i64 6)] : List Cell)) 6 (splice (splice [Cell.int .i64 0, Cell.int .i64 0] 0 ([(.int .i64 (-1))] : List Cell)) 1 ([(.int .i64 1)] : List Cell)) = (Ins.mk 5 r 0 v 6 ⟨-1, 1⟩ 0).cs := rfl
        rw [if_pos (by rw [h10]; rfl), if_pos ⟨rfl, rfl⟩, if_pos ⟨rfl, by simp [splice]⟩, if_pos ⟨rfl, by simp [splice, Opd.cs]⟩, if_pos ⟨rfl, by simp [splice, Opd.cs]⟩, e, if_pos ⟨rfl, by simp⟩, ins_splice, if_pos (ins_len19 _)]
        refine one_ins (mem2 := mem) hxs hN hc t (.inr (.inr (.inr (.inr (.inl ⟨rfl, hr, rfl, hv, rfl, rfl, rfl⟩))))) (by simp) (by rw [memC_no (by simp)]; rfl) fun x' h' => ?_
        rw [g_wrap_i64 (by omega) (by omega)]
      · have e1 : splice (splice (splice (splice (List.replicate 9 (Cell.int .i64 0)) 0 ([(.int .i64 6)] : List Cell)) 3 v.cs) 6 (splice [Cell.int .i64 0, Cell.int .i64 0] 0 ([(.int .i64 (-1))] : List Cell))) 8 ([(.int .i64 1)] : List Cell) = (Ins.mk 6 0 0 v 0 ⟨-1, 0⟩ 1).cs := rfl
        have e2 : splice (splice (splice (List.replicate 9 (Cell.int .i64 0)) 0 ([(.int .i64 1)] : List Cell)) 2 ([(.int .i64 loc)] : List Cell)) 3 (splice (splice [Cell.int .i64 0, Cell.int .i64 0] 0 ([(.int .i64 (-1))] : List Cell)) 1 ([(.int .i64 2)] : List Cell)) = (Ins.mk 1 0 loc ⟨-1, 2⟩ 0 ⟨0, 0⟩ 0).cs := rfl
        rw [if_neg (by rw [beq_iff_eq]; exact h10), if_pos ⟨rfl, rfl⟩, if_pos ⟨rfl, by simp [splice]⟩, if_pos ⟨rfl, by simp [splice, Opd.cs]⟩, if_pos ⟨rfl, by simp [splice, Opd.cs]⟩, if_pos ⟨rfl, by simp [splice]⟩, e1, e2, if_pos ⟨Ins.len _, z18_len⟩, if_pos ⟨Ins.len _, z18_one _⟩, z18_two, if_pos (z18_len2 _ _)]
        have hL2 : (2 : Int) < 3 ∧ (0 : Int) ≤ 2 := ⟨by decide, by decide⟩
        have hst : SmI L (Ins.mk 1 0 loc ⟨-1, 2⟩ 0 ⟨0, 0⟩ 0) := .inl ⟨rfl, rfl, hloc, .inl ⟨rfl, hL2.2, hL2.1⟩, rfl, rfl, rfl⟩
        have hsk : SmI L (Ins.mk 6 0 0 v 0 ⟨-1, 0⟩ 1) := .inr (.inr (.inr (.inr (.inr ⟨rfl, rfl, rfl, hv, rfl, rfl, rfl⟩))))
        refine two_ins hxs hN hc t hsk rfl hst rfl fun x' h' => ?_
        rw [g_succ (by omega), g_wrap_i64 (by omega) (by omega)]

theorem small_case (hxs : Own N h xs 9 (codeC c) c.length) (hN : N ≤ h.length) (hc : c.length ≤ 100) (t : ThrOk L kk c) (hL : 0 < L) (hv : opdOk v) (hx : 0 ≤ x) (hloc : 120 ≤ loc ∧ loc < 120 + L) (hmem : mem < 1000) (hk : 0 ≤ k ∧ k ≤ 3) :
    OneMore E most fnc n L mem i k s0 s1 N kk c h ((jacquardlaw3_Small_k11 (R E) Lim E.glob) .normal (jacquardlaw3_Small_c2 most fnc n L (mem : Int) i xs k x loc s0 s1 v.cs h)) := by
  have hr := band1_rng (E := E) (E.glob.shr .i64 x 11)
  have hm := rem_rng (E := E) hx (show (0 : Int) < 12 by omega)
  rw [jacquardlaw3_Small_ec2_n]
  generalize E.glob.band .i64 (E.glob.shr .i64 x 11) 1 = r at *
  generalize E.glob.rem .i64 x 12 = m at *
  by_cases h0 : m = 0
  · rw [if_pos (by rw [h0]; rfl), bind_ok]; exact small_st hxs hN hc t hv hloc hmem hk (by rw [h0]; rfl)
  rw [if_neg (by rw [beq_iff_eq]; exact h0)]
  by_cases h1 : m = 1
  · rw [if_pos (by rw [h1]; rfl), bind_ok]; exact small_st hxs hN hc t hv hloc hmem hk (by rw [h1]; rfl)
  rw [if_neg (by rw [beq_iff_eq]; exact h1)]
  by_cases h2 : m = 2
  · rw [if_pos (by rw [h2]; rfl), bind_ok]; exact small_st hxs hN hc t hv hloc hmem hk (by rw [h2]; rfl)
  rw [if_neg (by rw [beq_iff_eq]; exact h2), bind_ok]
  by_cases h3 : m = 3
  · exact small_st hxs hN hc t hv hloc hmem hk (by rw [h3]; rfl)
  rw [jacquardlaw3_Small_ec3_n, if_neg (by rw [beq_iff_eq]; exact h3)]
  by_cases h4 : m = 4
  · rw [if_pos (by rw [h4]; rfl), bind_ok]; exact small_ld hxs hN hc t hr hloc hmem hk (by rw [h4]; rfl)
  rw [if_neg (by rw [beq_iff_eq]; exact h4)]
  by_cases h5 : m = 5
  · rw [if_pos (by rw [h5]; rfl), bind_ok]; exact small_ld hxs hN hc t hr hloc hmem hk (by rw [h5]; rfl)
  rw [if_neg (by rw [beq_iff_eq]; exact h5)]
  by_cases h6 : m = 6
  · rw [if_pos (by rw [h6]; rfl), bind_ok]; exact small_ld hxs hN hc t hr hloc hmem hk (by rw [h6]; rfl)
  rw [if_neg (by rw [beq_iff_eq]; exact h6), bind_ok]
  by_cases h7 : m = 7
  · exact small_ld hxs hN hc t hr hloc hmem hk (by rw [h7]; rfl)
  exact small_other hxs hN hc t hL hv hr hloc hmem hk (by rw [beq_eq_false_iff_ne]; exact h7)

end
end Jq

/- Tests made of numbers: all of them are small, and may be. -/
namespace Jq
open Go

/-- The first so many blocks are as they were, but for one. -/
def KpX (a n : Nat) (h h' : AHeap) : Prop := h.length ≤ h'.length ∧ ∀ k, k < n → k ≠ a → h'[k]? = h[k]?

theorem KpX.refl (a n : Nat) (h : AHeap) : KpX a n h h := ⟨Nat.le_refl _, fun _ _ _ => rfl⟩
theorem KpX.trans {a n : Nat} {h h' h'' : AHeap} (x : KpX a n h h') (y : KpX a n h' h'') : KpX a n h h'' := ⟨Nat.le_trans x.1 y.1, fun k hk ha => (y.2 k hk ha).trans (x.2 k hk ha)⟩
theorem KpX.mono {a n m : Nat} {h h' : AHeap} (x : KpX a n h h') (hm : m ≤ n) : KpX a m h h' := ⟨x.1, fun k hk ha => x.2 k (by omega) ha⟩
theorem Kp.x {a n : Nat} {h h' : AHeap} (x : Kp n h h') : KpX a n h h' := ⟨x.1, fun k hk _ => x.2 k hk⟩
theorem KpX.set (a n : Nat) (h : AHeap) (b : Option Blk) : KpX a n h (setBlk h a b) := ⟨by simp [setBlk], fun j _ ha => by unfold setBlk; rw [List.getElem?_set_ne (fun e => ha e.symm)]⟩
theorem KpX.blk {a n : Nat} {h h' : AHeap} (x : KpX a n h h') {k : Nat} (hk : k < n) (ha : k ≠ a) : blk? h' k = blk? h k := by unfold blk?; rw [x.2 k hk ha]

theorem Own.keepX {a n : Nat} {h h' : AHeap} {x : Cell} {esz len : Nat} {cs : List Cell} (o : Own n h x esz cs len) (ha : a < n) (hk : KpX a h.length h h') : Own n h' x esz cs len := by
  refine ⟨o.1, o.2.imp id ?_⟩
  rintro ⟨k, e, hn, hb⟩
  exact ⟨k, e, hn, by rw [hk.blk (blk_lt' hb) (by omega)]; exact hb⟩
theorem RowsOwn.keepX {α : Type} {esz : Nat} {C : List α → List Cell} {a n : Nat} {h h' : AHeap} {y : Cell} {rows : List (List α)} (r : RowsOwn esz C n h y rows) (ha : a < n) (hk : KpX a h.length h h') : RowsOwn esz C n h' y rows := by
  obtain ⟨ts, h1, h2⟩ := r
  exact ⟨ts, h1.keepX ha hk, fun t r hr => by obtain ⟨x, x1, x2, x3⟩ := h2 t r hr; exact ⟨x, x1, x2.keepX ha hk, x3⟩⟩

structure GoodT (most : Nat) (T : PTest) : Prop where
  n : 2 ≤ T.thr.length ∧ T.thr.length ≤ 3
  code : ∃ L : Int, (L = 2 ∨ L = 3) ∧ ∀ c ∈ T.thr, ∃ k, k ≤ 3 ∧ ThrOk L k c
  mem : (T.thr.map memC).sum ≤ most
  inits : T.inits = [] ∨ ∃ v : Int, 0 ≤ v ∧ v < 3 ∧ T.inits = [(120, v)]
  any : T.any.length ≤ 2 ∧ ∀ row ∈ T.any, row.length ≤ 2 ∧ ∀ a ∈ row, a.loc = 0 ∨ a.loc = 120

section
variable {E : Env}

theorem opd_reg {r : Int} : splice [Cell.int .i64 0, Cell.int .i64 0] 0 ([(.int .i64 r)] : List Cell) = (Opd.mk r 0).cs := rfl
theorem opd_num {v : Int} : splice (splice [Cell.int .i64 0, Cell.int .i64 0] 0 ([(.int .i64 (-1))] : List Cell)) 1 ([(.int .i64 v)] : List Cell) = (Opd.mk (-1) v).cs := rfl

/-- A thread's instructions. -/
theorem small_thr (hE : jacquardlaw3_Small_1_In E) {h0 : AHeap} {x : Cell} {l : List Int} (hx : SlAt h0 x 1 (intC .i64 l) l.length) (hlow : Low h0.length x) (hl : l.length < 9223372036854775808)
    {most : Nat} (hmost : most ≤ 900) {n i L : Int} (hL : L = 2 ∨ L = 3) (s0 s1 : List Cell) (N : Nat) (hN0 : h0.length + 2 ≤ N) : ∀ (k mem m kk : Nat) (c : List Ins) (xs : Cell) (h : AHeap), k ≤ 3 → kk + k ≤ 10 → mem ≤ most → m + k < 1000 →
      VarsAt h0 x h m → N ≤ h.length → Own N h xs 9 (codeC c) c.length → ThrOk L kk c →
      ∃ (mem' m' kk' : Nat) (c' : List Ins) (xs' : Cell) (h' : AHeap), Lim (jacquardlaw3_Small_F1 (R E) Lim E.glob) (jacquardlaw3_Small_s1 (most : Int) (nxF h0) n L (mem : Int) i xs (k : Int) s0 s1 h) = some (.exit 2, jacquardlaw3_Small_x1_3 (most : Int) (nxF h0) n L (mem' : Int) i xs' s0 s1 h') ∧
        ThrOk L kk' c' ∧ kk' ≤ kk + k ∧ memC c' + mem = memC c + mem' ∧ mem' ≤ most ∧ VarsAt h0 x h' m' ∧ m' ≤ m + k ∧ N ≤ h'.length ∧ Own N h' xs' 9 (codeC c') c'.length ∧ KpX (h0.length + 1) N h h' := by
  intro k
  induction k with
  | zero =>
    intro mem m kk c xs h _ _ hmem _ hv hN ho ht
    refine ⟨mem, m, kk, c, xs, h, Lim_exit ?_, ht, by omega, by omega, hmem, hv, by omega, hN, ho, KpX.refl _ _ _⟩
    rw [jacquardlaw3_Small_r1, show decide (((0 : Nat) : Int) > 0) = false from rfl, scK_ft, if_neg (by simp)]
  | succ k ih =>
    intro mem m kk c xs h hk hkk hmem hm hv hN ho ht
    by_cases hmm : mem < most
    · obtain ⟨r, r0, r1, hF, hv2⟩ := next_R hE hx hlow hl hv (by omega)
      have hLp : 0 < L := by omega
      have hset : KpX (h0.length + 1) N h (setBlk h (h0.length + 1) (some ⟨true, 0, [.int .i64 ((m + 1 : Nat) : Int)]⟩)) := KpX.set _ _ _ _
      have ho2 := ho.keepX (show h0.length + 1 < N by omega) (KpX.set (h0.length + 1) h.length h (some ⟨true, 0, [.int .i64 ((m + 1 : Nat) : Int)]⟩))
      have hN2 : N ≤ (setBlk h (h0.length + 1) (some ⟨true, 0, [.int .i64 ((m + 1 : Nat) : Int)]⟩)).length := by rw [setBlk_len]; exact hN
      generalize setBlk h (h0.length + 1) (some ⟨true, 0, [.int .i64 ((m + 1 : Nat) : Int)]⟩) = H at *
      have q4 := rem_rng (E := E) (shr_nn (E := E) (k := 4) r0) hLp
      have q6 := rem_rng (E := E) (shr_nn (E := E) (k := 6) r0) (show (0 : Int) < 3 by omega)
      have hb1 := band1_rng (E := E) (E.glob.shr .i64 r 10)
      have hclen := ht.len
      have hcase : ∀ v : Opd, opdOk v → OneMore E (most : Int) (nxF h0) n L mem i ((k + 1 : Nat) : Int) s0 s1 N kk c H ((jacquardlaw3_Small_k11 (R E) Lim E.glob) .normal (jacquardlaw3_Small_c2 (most : Int) (nxF h0) n L (mem : Int) i xs ((k + 1 : Nat) : Int) r (120 + E.glob.rem .i64 (E.glob.shr .i64 r 4) L) s0 s1 v.cs H)) := by
        intro v hvv
        exact small_case ho2 hN2 (by omega) ht hLp hvv r0 ⟨by omega, by omega⟩ (by omega) ⟨by omega, by omega⟩
      have hround : ∃ v : Opd, opdOk v ∧ jacquardlaw3_Small_F1 (R E) Lim E.glob (jacquardlaw3_Small_s1 (most : Int) (nxF h0) n L (mem : Int) i xs ((k + 1 : Nat) : Int) s0 s1 h) = (jacquardlaw3_Small_k11 (R E) Lim E.glob) .normal (jacquardlaw3_Small_c2 (most : Int) (nxF h0) n L (mem : Int) i xs ((k + 1 : Nat) : Int) r (120 + E.glob.rem .i64 (E.glob.shr .i64 r 4) L) s0 s1 v.cs H) := by
        have hw : E.glob.wrap .i64 (120 + E.glob.rem .i64 (E.glob.shr .i64 r 4) L) = 120 + E.glob.rem .i64 (E.glob.shr .i64 r 4) L := g_wrap_i64 (by omega) (by omega)
        rw [jacquardlaw3_Small_r1, show decide (((k + 1 : Nat) : Int) > 0) = true from decide_eq_true (by omega), scK_ok, bind_ok]
        dsimp only
        rw [if_pos (decide_eq_true (by omega)), hF, asI_ok, if_neg (by omega)]
        rw [hw, opd_num, opd_reg, if_pos ⟨rfl, rfl, rfl⟩]
        by_cases h8 : (E.glob.rem .i64 (E.glob.shr .i64 r 8) 3 == 0) = true
        · refine ⟨⟨E.glob.band .i64 (E.glob.shr .i64 r 10) 1, 0⟩, .inr ⟨hb1, rfl⟩, ?_⟩
          rw [if_pos h8, if_pos ⟨rfl, rfl, rfl⟩, bind_ok]
        · refine ⟨⟨-1, E.glob.rem .i64 (E.glob.shr .i64 r 6) 3⟩, .inl ⟨rfl, q6.1, q6.2⟩, ?_⟩
          rw [if_neg h8, bind_ok]
      obtain ⟨v, hvv, hround⟩ := hround
      obtain ⟨c2, mem2, xs2, h2, g1, g2, g3, g4, g5, g6, g7⟩ := hcase v hvv
      rw [g1, show ((k + 1 : Nat) : Int) - 1 = (k : Int) by omega] at hround
      obtain ⟨mem', m', kk', c', xs', h', f1, f2, f3, f4, f5, f6, f7, f8, f9, f10⟩ := ih mem2 (m + 1) (kk + 1) c2 xs2 h2 (by omega) (by omega) (by omega) (by omega) (hv2.keep (g7.mono hN0)) (Nat.le_trans hN2 g7.1) g6 g2
      exact ⟨mem', m', kk', c', xs', h', Lim_next hround f1, f2, by omega, by omega, f5, f6, by omega, f8, f9, (hset.trans g7.x).trans f10⟩
    · refine ⟨mem, m, kk, c, xs, h, Lim_exit ?_, ht, by omega, by omega, hmem, hv, by omega, hN, ho, KpX.refl _ _ _⟩
      rw [jacquardlaw3_Small_r1, show decide (((k + 1 : Nat) : Int) > 0) = true from decide_eq_true (by omega), scK_ok, bind_ok]
      dsimp only
      rw [if_neg (by simp; omega)]

theorem sum_app_one (l : List (List Ins)) (c : List Ins) : ((l ++ [c]).map memC).sum = (l.map memC).sum + memC c := by
  rw [List.map_append, List.sum_append]; simp

/-- All threads. -/
theorem small_thrs (hE : jacquardlaw3_Small_1_In E) {h0 : AHeap} {x : Cell} {l : List Int} (hx : SlAt h0 x 1 (intC .i64 l) l.length) (hlow : Low h0.length x) (hl : l.length < 9223372036854775808)
    {most : Nat} (hmost : most ≤ 900) {n : Nat} (hn : n ≤ 3) {L : Int} (hL : L = 2 ∨ L = 3) (s0 : List Cell) (a : Cell) {name : ByteArray} {Nb : Nat} (hNb : h0.length + 2 ≤ Nb) : ∀ (q i mem m : Nat) (rows : List (List Ins)) (y : Cell) (h : AHeap), i + q = n → rows.length = i → mem ≤ most → m + 4 * q < 900 →
      (rows.map memC).sum = mem → (∀ c ∈ rows, ∃ k, k ≤ 3 ∧ ThrOk L k c) → VarsAt h0 x h m → Nb ≤ h.length → RowsOwn 9 codeC Nb h y rows →
      ∃ (mem' m' : Nat) (rows' : List (List Ins)) (y' : Cell) (h' : AHeap), Lim (jacquardlaw3_Small_F2 (R E) Lim E.glob) (jacquardlaw3_Small_s2 (most : Int) (nxF h0) (n : Int) L (mem : Int) (i : Int) s0 [.str name, a, y, .int .i64 0, .nils] h) = some (.exit 0, jacquardlaw3_Small_x2_1 (nxF h0) s0 [.str name, a, y', .int .i64 0, .nils] h') ∧
        rows'.length = n ∧ mem' ≤ most ∧ (rows'.map memC).sum = mem' ∧ (∀ c ∈ rows', ∃ k, k ≤ 3 ∧ ThrOk L k c) ∧ VarsAt h0 x h' m' ∧ m' ≤ m + 4 * q ∧ Nb ≤ h'.length ∧ RowsOwn 9 codeC Nb h' y' rows' ∧ KpX (h0.length + 1) Nb h h' := by
  intro q
  induction q with
  | zero =>
    intro i mem m rows y h hi hr hmem _ hs hc hv hN hy
    refine ⟨mem, m, rows, y, h, Lim_exit ?_, by omega, hmem, hs, hc, hv, by omega, hN, hy, KpX.refl _ _ _⟩
    rw [jacquardlaw3_Small_r2, if_neg (by simp; omega)]
  | succ q ih =>
    intro i mem m rows y h hi hr hmem hm hs hc hv hN hy
    obtain ⟨r, r0, r1, hF, hv2⟩ := next_R hE hx hlow hl hv (by omega)
    have hset : KpX (h0.length + 1) Nb h (setBlk h (h0.length + 1) (some ⟨true, 0, [.int .i64 ((m + 1 : Nat) : Int)]⟩)) := KpX.set _ _ _ _
    have hy2 := hy.keepX (show h0.length + 1 < Nb by omega) (KpX.set (h0.length + 1) h.length h (some ⟨true, 0, [.int .i64 ((m + 1 : Nat) : Int)]⟩))
    have hN2 : Nb ≤ (setBlk h (h0.length + 1) (some ⟨true, 0, [.int .i64 ((m + 1 : Nat) : Int)]⟩)).length := by rw [setBlk_len]; exact hN
    generalize setBlk h (h0.length + 1) (some ⟨true, 0, [.int .i64 ((m + 1 : Nat) : Int)]⟩) = H at *
    have q3 := rem_rng (E := E) r0 (show (0 : Int) < 3 by omega)
    obtain ⟨k, hk⟩ : ∃ k : Nat, E.glob.rem .i64 r 3 + 1 = (k : Int) := ⟨(E.glob.rem .i64 r 3 + 1).toNat, by omega⟩
    obtain ⟨mem', m', kk', c', xs', h', f1, f2, f3, f4, f5, f6, f7, f8, f9, f10⟩ := small_thr hE hx hlow hl hmost (n := n) (i := (i : Int)) hL s0 [.str name, a, y, .int .i64 0, .nils] H.length (Nat.le_trans hNb hN2) k mem (m + 1) 0 [] .nils H (by omega) (by omega) hmem (by omega) hv2 (Nat.le_refl _) (Own.nil _ _ _) ThrOk.nil
    have hy3 := hy2.keepX (show h0.length + 1 < Nb by omega) f10
    obtain ⟨y2, h2, hap, hyp, hkp, _⟩ := hy3.push (f9.monoN hN2) (fun j h1 h2 => by have := (f9.blkLt h1).2; have := (hy2.blkLt h2).1; omega) (Nat.le_trans hN2 f8) (by omega)
    have hm0 : memC c' + mem = mem' := by have : memC ([] : List Ins) = 0 := rfl; omega
    have hround : jacquardlaw3_Small_F2 (R E) Lim E.glob (jacquardlaw3_Small_s2 (most : Int) (nxF h0) (n : Int) L (mem : Int) (i : Int) s0 [.str name, a, y, .int .i64 0, .nils] h) = some (.normal, jacquardlaw3_Small_s2 (most : Int) (nxF h0) (n : Int) L (mem' : Int) ((i + 1 : Nat) : Int) s0 [.str name, a, y2, .int .i64 0, .nils] h2) := by
      have hw : E.glob.wrap .i64 (E.glob.rem .i64 r 3 + 1) = (k : Int) := by rw [g_wrap_i64 (by omega) (by omega), hk]
      rw [jacquardlaw3_Small_r2, if_pos (by simp; omega), hF, asI_ok, hw, f1, bind_ok, jacquardlaw3_Small_e1_3, show ∀ {α : Type} (f : Cell → Option α), atK [.str name, a, y, .int .i64 0, .nils] 2 f = f y from fun _ => rfl, if_pos (show (splice [Cell.nils] 0 ([xs'] : List Cell)).length = 1 * 1 from rfl), show splice [Cell.nils] 0 ([xs'] : List Cell) = [xs'] from rfl, hap, if_pos (show 2 < ([.str name, a, y, .int .i64 0, .nils] : List Cell).length by simp), g_succ (by omega)]
      rfl
    obtain ⟨mem3, m3, rows3, y3, h3, g1, g2, g3, g4, g5, g6, g7, g8, g9, g10⟩ := ih (i + 1) mem' m' (rows ++ [c']) y2 h2 (by omega) (by rw [List.length_append, List.length_singleton]; omega) f5 (by omega) (by rw [sum_app_one]; omega)
      (fun c hcm => by
        rcases List.mem_append.1 hcm with hcm | hcm
        · exact hc c hcm
        · simp at hcm; subst hcm; exact ⟨kk', by omega, f2⟩) (f6.keep (hkp.mono hNb)) (Nat.le_trans (Nat.le_trans hN2 f8) hkp.1) hyp
    exact ⟨mem3, m3, rows3, y3, h3, Lim_next hround g1, g2, g3, g4, g5, g6, by omega, g8, g9, ((hset.trans (f10.mono hN2)).trans hkp.x).trans g10⟩

end
end Jq

namespace Jq
open Go

/- jacquard/jacquardlaw6.Of: 76 -/
set_option maxRecDepth 100000 in
theorem jacquardlaw6_Of_eq (C : CallF) (L : LoopF) (G : Glo) (x0 : Cell) (a1 : Int) (h0 : AHeap) :
    jacquardlaw6_Of.body C L G [(.c x0), (.c (.int .i64 a1))] h0 =
    c1 (C 97 [(.c x0), (.c (.int .i64 a1))] h0) fun y_2 h_1 => asA y_2 fun l_3 => c1 (C 101 [(.agg l_3)] h_1) fun y_5 h_4 => asA y_5 fun l_6 => if 0 = 0 ∧ [Cell.nils, Cell.nils, Cell.nils].length = 3 ∧ l_6.length = 3 then if 0 = 0 ∧ l_6.length = 3 then some ([(.agg l_6)], h_4) else none else none := by kernel_rfl


end Jq

/- Tests made of numbers, and their programs. -/
namespace Jq
open Go

section
variable {E : Env}

def tName : ByteArray := ByteArray.mk #[116]

theorem small_end (hE : jacquardlaw3_Small_1_In E) {h0 h hb : AHeap} {x : Cell} {l : List Int} (hx : SlAt h0 x 1 (intC .i64 l) l.length) (hlow : Low h0.length x) (hl : l.length < 9223372036854775808) {m : Nat} (hv : VarsAt h0 x h m) (hm : m < 1000)
    {most : Nat} {rows : List (List Ins)} {a y : Cell} {inits : List (Int × Int)} {Nb : Nat} (hNb : h0.length + 2 ≤ Nb) (hN : Nb ≤ h.length) (hy : RowsOwn 9 codeC Nb h y rows) (ha : SlAt h a 2 (pairC inits) inits.length ∧ Low h.length a ∧ ∀ k, isBlk a k → k ≠ h0.length + 1)
    (hi : inits = [] ∨ ∃ v : Int, 0 ≤ v ∧ v < 3 ∧ inits = [(120, v)]) (hn : 2 ≤ rows.length ∧ rows.length ≤ 3) (hmem : (rows.map memC).sum ≤ most) (hc : ∃ L : Int, (L = 2 ∨ L = 3) ∧ ∀ c ∈ rows, ∃ k, k ≤ 3 ∧ ThrOk L k c) {s0 : List Cell} (hs0 : s0.length = 5) :
    ∃ (cs : List Cell) (h' : AHeap) (T : PTest), (jacquardlaw3_Small_k4 (R E) Lim E.glob hb) (.exit 0) (jacquardlaw3_Small_x2_1 (nxF h0) s0 [.str tName, a, y, .int .i64 0, .nils] h) = some ([.agg cs], h') ∧ TestAt h' cs T ∧ GoodT most T ∧ Kp h0.length h0 h' := by
  obtain ⟨r, r0, r1, hF, hv2⟩ := next_R hE hx hlow hl hv (by omega)
  have hset := KpX.set (h0.length + 1) h.length h (some ⟨true, 0, [.int .i64 ((m + 1 : Nat) : Int)]⟩)
  have hy2 := hy.keepX (show h0.length + 1 < Nb by omega) hset
  have ha2 : SlAt (setBlk h (h0.length + 1) (some ⟨true, 0, [.int .i64 ((m + 1 : Nat) : Int)]⟩)) a 2 (pairC inits) inits.length := by
    refine ⟨ha.1.1, ha.1.2.imp id ?_⟩
    rintro ⟨k, N, off, e, hh | ⟨b, hb, hN, hle, hat⟩⟩
    · exact ⟨k, N, off, e, .inl hh⟩
    · have hk := ha.2.2 k (by rw [e]; rfl)
      exact ⟨k, N, off, e, .inr ⟨b, by rw [blk_set_ne (fun q => hk q.symm)]; exact hb, hN, hle, hat⟩⟩
  have hal2 : Low (setBlk h (h0.length + 1) (some ⟨true, 0, [.int .i64 ((m + 1 : Nat) : Int)]⟩)).length a := by rw [setBlk_len]; exact ha.2.1
  rw [jacquardlaw3_Small_e2_1, hF, asI_ok]
  generalize setBlk h (h0.length + 1) (some ⟨true, 0, [.int .i64 ((m + 1 : Nat) : Int)]⟩) = H at *
  have q5 := rem_rng (E := E) (shr_nn (E := E) (k := 5) r0) (show (0 : Int) < 3 by omega)
  by_cases h3 : (E.glob.rem .i64 r 3 == 0) = true
  · rw [if_pos h3]
    dsimp only
    generalize E.glob.band .i64 (E.glob.shr .i64 r 3) 1 = b3
    generalize E.glob.band .i64 (E.glob.shr .i64 r 4) 1 = b4
    generalize E.glob.rem .i64 (E.glob.shr .i64 r 5) 3 = v5
    generalize E.glob.band .i64 (E.glob.shr .i64 r 7) 1 = b7
    generalize E.glob.wrap .i64 (E.glob.rem .i64 (E.glob.quo .i64 r 3) 2 + 1) = ck
    have e1 : splice (splice (splice [Cell.int .i64 0, Cell.int .i64 0, Cell.int .i64 0, Cell.int .i64 0] 0 ([(.int .i64 0)] : List Cell)) 1 ([(.int .i64 b3)] : List Cell)) 3 ([(.int .i64 b4)] : List Cell) = (Atm.mk 0 b3 0 b4).cs := rfl
    have e2 : splice (splice (splice [Cell.int .i64 0, Cell.int .i64 0, Cell.int .i64 0, Cell.int .i64 0] 0 ([(.int .i64 (-1))] : List Cell)) 2 ([(.int .i64 120)] : List Cell)) 3 ([(.int .i64 v5)] : List Cell) = (Atm.mk (-1) 0 120 v5).cs := rfl
    have e3 : splice (splice (splice [Cell.int .i64 0, Cell.int .i64 0, Cell.int .i64 0, Cell.int .i64 0] 0 ([(.int .i64 1)] : List Cell)) 1 ([(.int .i64 0)] : List Cell)) 3 ([(.int .i64 b7)] : List Cell) = (Atm.mk 1 0 0 b7).cs := rfl
    have e4 : ∀ a : Atm, splice [Cell.int .i64 0, Cell.int .i64 0, Cell.int .i64 0, Cell.int .i64 0] 0 a.cs = atmC [a] := fun _ => rfl
    have e5 : ∀ a b : Atm, splice (splice (List.replicate 8 (Cell.int .i64 0)) 0 a.cs) 4 b.cs = atmC [a, b] := fun _ _ => rfl
    have e6 : ∀ a b : Cell, splice (splice [Cell.nils, Cell.nils] 0 ([a] : List Cell)) 1 ([b] : List Cell) = [a, b] := fun _ _ => rfl
    have e7 : ∀ a b : Cell, splice (splice [Cell.int .i64 0, Cell.nils] 0 ([a] : List Cell)) 1 ([b] : List Cell) = [a, b] := fun _ _ => rfl
    have l1 : ∀ a : Atm, (atmC [a]).length = 4 := fun _ => rfl
    have l2 : ∀ a b : Atm, (atmC [a, b]).length = 8 := fun _ _ => rfl
    simp only [e1, e2, e3, e4, e5, e6, e7, l1, l2]
    rw [if_pos ⟨rfl, by simp⟩, if_pos trivial, if_pos ⟨rfl, by simp⟩, if_pos ⟨rfl, by simp [splice, Atm.cs]⟩, if_pos trivial, if_pos (by simp), if_pos (by simp), if_pos (by simp [splice]), if_pos (by simp [splice, hs0]), if_pos (by simp [splice])]
    have k1 : Kp H.length H (H ++ [some ⟨true, 4, atmC [⟨0, b3, 0, b4⟩]⟩]) := Kp.app _ (Nat.le_refl _)
    have n1 : (H ++ [some (Blk.mk true 4 (atmC [⟨0, b3, 0, b4⟩]))]).length = H.length + 1 := by simp
    have c1' : blk? (H ++ [some ⟨true, 4, atmC [⟨0, b3, 0, b4⟩]⟩]) H.length = some ⟨true, 4, atmC [⟨0, b3, 0, b4⟩]⟩ := blk_new _ _
    generalize H ++ [some (Blk.mk true 4 (atmC [⟨0, b3, 0, b4⟩]))] = H1 at *
    have k2 : Kp H.length H (H1 ++ [some ⟨true, 4, atmC [⟨-1, 0, 120, v5⟩, ⟨1, 0, 0, b7⟩]⟩]) := k1.trans (Kp.app _ (by omega))
    have n2 : (H1 ++ [some (Blk.mk true 4 (atmC [⟨-1, 0, 120, v5⟩, ⟨1, 0, 0, b7⟩]))]).length = H1.length + 1 := by simp
    have c2' : blk? (H1 ++ [some ⟨true, 4, atmC [⟨-1, 0, 120, v5⟩, ⟨1, 0, 0, b7⟩]⟩]) H1.length = some ⟨true, 4, atmC [⟨-1, 0, 120, v5⟩, ⟨1, 0, 0, b7⟩]⟩ := blk_new _ _
    have c1'' : blk? (H1 ++ [some ⟨true, 4, atmC [⟨-1, 0, 120, v5⟩, ⟨1, 0, 0, b7⟩]⟩]) H.length = some ⟨true, 4, atmC [⟨0, b3, 0, b4⟩]⟩ := blk_old c1' _
    generalize H1 ++ [some (Blk.mk true 4 (atmC [⟨-1, 0, 120, v5⟩, ⟨1, 0, 0, b7⟩]))] = H2 at *
    have k3 : Kp H.length H (H2 ++ [some ⟨true, 1, [Cell.sl H.length 4 0 1, Cell.sl H1.length 8 0 2]⟩]) := k2.trans (Kp.app _ (by omega))
    have c3' : blk? (H2 ++ [some ⟨true, 1, [Cell.sl H.length 4 0 1, Cell.sl H1.length 8 0 2]⟩]) H2.length = some ⟨true, 1, [Cell.sl H.length 4 0 1, Cell.sl H1.length 8 0 2]⟩ := blk_new _ _
    have c2'' : blk? (H2 ++ [some ⟨true, 1, [Cell.sl H.length 4 0 1, Cell.sl H1.length 8 0 2]⟩]) H1.length = some ⟨true, 4, atmC [⟨-1, 0, 120, v5⟩, ⟨1, 0, 0, b7⟩]⟩ := blk_old c2' _
    have c1''' : blk? (H2 ++ [some ⟨true, 1, [Cell.sl H.length 4 0 1, Cell.sl H1.length 8 0 2]⟩]) H.length = some ⟨true, 4, atmC [⟨0, b3, 0, b4⟩]⟩ := blk_old c1'' _
    have n3 : (H2 ++ [some (Blk.mk true 1 [Cell.sl H.length 4 0 1, Cell.sl H1.length 8 0 2])]).length = H2.length + 1 := by simp
    refine ⟨_, _, ⟨tName, inits, rows, ck, [[⟨0, b3, 0, b4⟩], [⟨-1, 0, 120, v5⟩, ⟨1, 0, 0, b7⟩]]⟩, rfl, ?_, ⟨hn, hc, hmem, hi, by simp, ?_⟩, hv2.2.2.2.trans (k3.mono (by have := hv2.2.2.1; omega))⟩
    · refine ⟨a, y, .sl H2.length 2 0 2, by simp [splice], ⟨ha2.keep hal2 k3, Low_mono k3.1 hal2⟩, hy2.of.keep k3, ⟨[Cell.sl H.length 4 0 1, Cell.sl H1.length 8 0 2], ⟨rfl, .inr ⟨_, _, 0, rfl, .inr ⟨_, c3', rfl, by simp, fun j _ => by simp⟩⟩⟩, .inr (by omega), fun t r ht => ?_⟩⟩
      match t, ht with
      | 0, ht =>
        cases ht
        exact ⟨_, rfl, ⟨rfl, .inr ⟨_, _, 0, rfl, .inr ⟨_, c1''', rfl, by simp, fun j _ => by simp⟩⟩⟩, .inr (by omega)⟩
      | 1, ht =>
        cases ht
        exact ⟨_, rfl, ⟨rfl, .inr ⟨_, _, 0, rfl, .inr ⟨_, c2'', rfl, by simp, fun j _ => by simp⟩⟩⟩, .inr (by omega)⟩
      | t + 2, ht => simp at ht
    · intro row hr
      simp only [List.mem_cons, List.not_mem_nil, or_false] at hr
      rcases hr with rfl | rfl
      · exact ⟨by simp, fun a ha => by simp at ha; subst ha; exact .inl rfl⟩
      · refine ⟨by simp, fun a ha => ?_⟩
        simp at ha
        rcases ha with rfl | rfl
        · exact .inr rfl
        · exact .inl rfl
  · rw [if_neg h3, if_pos ⟨rfl, rfl⟩, if_pos ⟨rfl, hs0, rfl⟩, if_pos ⟨rfl, rfl⟩]
    refine ⟨_, _, ⟨tName, inits, rows, 0, []⟩, rfl, ⟨a, y, .nils, rfl, ⟨ha2, hal2⟩, hy2.of, ⟨[], ⟨rfl, .inl ⟨rfl, rfl⟩⟩, trivial, fun t r ht => by simp at ht⟩⟩, ⟨hn, hc, hmem, hi, by simp, by simp⟩, hv2.2.2.2⟩

theorem Small_R (hE : jacquardlaw3_Small_In E) {h : AHeap} {x : Cell} {l : List Int} (hx : SlAt h x 1 (intC .i64 l) l.length) (hlow : Low h.length x) (hl : l.length < 9223372036854775808) {most : Nat} (hmost : most ≤ 900) :
    ∃ (cs : List Cell) (h' : AHeap) (T : PTest), R E 97 [.c x, .c (.int .i64 (most : Int))] h = some ([.agg cs], h') ∧ TestAt h' cs T ∧ GoodT most T ∧ Kp h.length h h' := by
  suffices hs : ∃ (cs : List Cell) (h' : AHeap) (T : PTest), jacquardlaw3_Small.body (R E) Lim E.glob [.c x, .c (.int .i64 (most : Int))] h = some ([.agg cs], h') ∧ TestAt h' cs T ∧ GoodT most T ∧ Kp h.length h h' by
    obtain ⟨cs, h', T, h1, h2⟩ := hs; exact ⟨cs, h', T, R_intro hE.fn h1, h2⟩
  have hc : AV.cells (.c x) = [x] := rfl
  have hl1 : ([x] : List Cell).length = 1 := rfl
  have hl0 : ([Cell.int .i64 0] : List Cell).length = 1 := rfl
  have hln : (h ++ [some (Blk.mk true 0 [x])]).length = h.length + 1 := by simp
  have hnm : splice [Cell.str (ByteArray.mk #[]), Cell.nils, Cell.nils, Cell.int .i64 0, Cell.nils] 0 ([(.str (ByteArray.mk #[116]))] : List Cell) = [.str tName, .nils, .nils, .int .i64 0, .nils] := rfl
  rw [jacquardlaw3_Small_eq, hc, hl1, hl0, hnm, if_pos ⟨rfl, rfl, rfl⟩, rd1' (blk_new _ _), if_pos (by simp), putH_ok (blk_new _ _) rfl, setBlk_last]
  dsimp only [List.set]
  rw [hln]
  have hv0 : VarsAt h x (h ++ [some ⟨true, 0, [x]⟩] ++ [some ⟨true, 0, [Cell.int .i64 0]⟩]) 0 := by
    refine ⟨blk_old (blk_new _ _) _, ?_, by simp, ?_⟩
    · have := blk_new (h ++ [some (Blk.mk true 0 [x])]) ⟨true, 0, [Cell.int .i64 0]⟩
      rw [hln] at this; exact this
    · rw [List.append_assoc]; exact Kp.app _ (Nat.le_refl _)
  have hlen0 : (h ++ [some (Blk.mk true 0 [x])] ++ [some (Blk.mk true 0 [Cell.int .i64 0])]).length = h.length + 2 := by simp
  generalize h ++ [some (Blk.mk true 0 [x])] ++ [some (Blk.mk true 0 [Cell.int .i64 0])] = H0 at *
  rw [show (Cell.fn 115 [(h.length + 1, 1, 0), (h.length, 1, 0)]) = nxF h from rfl]
  obtain ⟨a0, a0p, _, hF1, hv1⟩ := next_R hE.c115 hx hlow hl hv0 (by omega)
  rw [hF1, asI_ok]
  have hlen1 : (setBlk H0 (h.length + 1) (some ⟨true, 0, [.int .i64 ((0 + 1 : Nat) : Int)]⟩)).length = h.length + 2 := by rw [setBlk_len, hlen0]
  generalize setBlk H0 (h.length + 1) (some ⟨true, 0, [.int .i64 ((0 + 1 : Nat) : Int)]⟩) = H1 at *
  obtain ⟨a1, a1p, _, hF2, hv2⟩ := next_R hE.c115 hx hlow hl hv1 (by omega)
  rw [hF2, asI_ok]
  have hlen2 : (setBlk H1 (h.length + 1) (some ⟨true, 0, [.int .i64 ((0 + 1 + 1 : Nat) : Int)]⟩)).length = h.length + 2 := by rw [setBlk_len, hlen1]
  generalize setBlk H1 (h.length + 1) (some ⟨true, 0, [.int .i64 ((0 + 1 + 1 : Nat) : Int)]⟩) = H2 at *
  obtain ⟨a2, a2p, _, hF3, hv3⟩ := next_R hE.c115 hx hlow hl hv2 (by omega)
  rw [hF3, asI_ok]
  have hlen3 : (setBlk H2 (h.length + 1) (some ⟨true, 0, [.int .i64 ((0 + 1 + 1 + 1 : Nat) : Int)]⟩)).length = h.length + 2 := by rw [setBlk_len, hlen2]
  generalize setBlk H2 (h.length + 1) (some ⟨true, 0, [.int .i64 ((0 + 1 + 1 + 1 : Nat) : Int)]⟩) = H3 at *
  have n2 := rem_rng (E := E) a0p (show (0 : Int) < 2 by omega)
  have n3 := rem_rng (E := E) a1p (show (0 : Int) < 2 by omega)
  have w2 : E.glob.wrap .i64 (E.glob.rem .i64 a0 2 + 2) = E.glob.rem .i64 a0 2 + 2 := g_wrap_i64 (by omega) (by omega)
  have w3 : E.glob.wrap .i64 (E.glob.rem .i64 a1 2 + 2) = E.glob.rem .i64 a1 2 + 2 := g_wrap_i64 (by omega) (by omega)
  rw [w2, w3]
  obtain ⟨n, hn⟩ : ∃ n : Nat, E.glob.rem .i64 a0 2 + 2 = (n : Int) := ⟨(E.glob.rem .i64 a0 2 + 2).toNat, by omega⟩
  generalize hLL : E.glob.rem .i64 a1 2 + 2 = L at *
  rw [hn]
  -- what is there from the loops on
  have rest : ∀ (m : Nat) (H : AHeap) (a : Cell) (inits : List (Int × Int)), m ≤ 4 → VarsAt h x H m → SlAt H a 2 (pairC inits) inits.length → Low H.length a → (∀ k, isBlk a k → k ≠ h.length + 1) → (inits = [] ∨ ∃ v : Int, 0 ≤ v ∧ v < 3 ∧ inits = [(120, v)]) →
      ∃ (cs : List Cell) (h' : AHeap) (T : PTest), (jacquardlaw3_Small_k2 (R E) Lim E.glob h) .normal (jacquardlaw3_Small_c1 (most : Int) (nxF h) (n : Int) L [Cell.str (ByteArray.mk #[]), Cell.nils, Cell.nils, Cell.int .i64 0, Cell.nils] [.str tName, a, .nils, .int .i64 0, .nils] H) = some ([.agg cs], h') ∧ TestAt h' cs T ∧ GoodT most T ∧ Kp h.length h h' := by
    intro m H a inits hm hv ha hal had hi
    obtain ⟨mem', m', rows', y', H', f1, f2, f3, f4, f5, f6, f7, f8, f9, f10⟩ := small_thrs hE.c115 hx hlow hl hmost (n := n) (by omega) (L := L) (by omega) [Cell.str (ByteArray.mk #[]), Cell.nils, Cell.nils, Cell.int .i64 0, Cell.nils] a (name := tName) (Nb := H.length) hv.2.2.1 n 0 0 m [] .nils H (by omega) rfl (by omega) (by omega) rfl (by simp) hv (Nat.le_refl _) (RowsOwn.nil _)
    have ha' : SlAt H' a 2 (pairC inits) inits.length := by
      refine ⟨ha.1, ha.2.imp id ?_⟩
      rintro ⟨k, N, off, e, hh | ⟨b, hb, hN, hle, hat⟩⟩
      · exact ⟨k, N, off, e, .inl hh⟩
      · exact ⟨k, N, off, e, .inr ⟨b, by rw [f10.blk (blk_lt' hb) (had k (by rw [e]; rfl))]; exact hb, hN, hle, hat⟩⟩
    obtain ⟨cs, h', T, g1, g2, g3, g4⟩ := small_end hE.c115 (hb := h) hx hlow hl f6 (by omega) (most := most) (rows := rows') (a := a) (y := y') (inits := inits) (Nb := H.length) hv.2.2.1 f8 f9 ⟨ha', Low_mono f10.1 hal, had⟩ hi (by omega) (by omega) ⟨L, by omega, f5⟩ (s0 := [Cell.str (ByteArray.mk #[]), Cell.nils, Cell.nils, Cell.int .i64 0, Cell.nils]) rfl
    refine ⟨cs, h', T, ?_, g2, g3, g4⟩
    rw [jacquardlaw3_Small_ec1_n]
    have e0 : jacquardlaw3_Small_s2 (most : Int) (nxF h) (n : Int) L 0 0 [Cell.str (ByteArray.mk #[]), Cell.nils, Cell.nils, Cell.int .i64 0, Cell.nils] [.str tName, a, .nils, .int .i64 0, .nils] H = jacquardlaw3_Small_s2 (most : Int) (nxF h) (n : Int) L ((0 : Nat) : Int) ((0 : Nat) : Int) [Cell.str (ByteArray.mk #[]), Cell.nils, Cell.nils, Cell.int .i64 0, Cell.nils] [.str tName, a, .nils, .int .i64 0, .nils] H := rfl
    rw [e0, f1, bind_ok, g1]
  by_cases h4 : (E.glob.rem .i64 a2 4 == 0) = true
  · obtain ⟨a3, a3p, _, hF4, hv4⟩ := next_R hE.c115 hx hlow hl hv3 (by omega)
    have q3 := rem_rng (E := E) a3p (show (0 : Int) < 3 by omega)
    rw [if_pos h4, show ∀ {α : Type} (f : Cell → Option α), atK [Cell.str tName, .nils, .nils, .int .i64 0, .nils] 1 f = f .nils from fun _ => rfl, hF4, asI_ok]
    have hlen4 : (setBlk H3 (h.length + 1) (some ⟨true, 0, [.int .i64 ((0 + 1 + 1 + 1 + 1 : Nat) : Int)]⟩)).length = h.length + 2 := by rw [setBlk_len, hlen3]
    generalize setBlk H3 (h.length + 1) (some ⟨true, 0, [.int .i64 ((0 + 1 + 1 + 1 + 1 : Nat) : Int)]⟩) = H4 at *
    generalize E.glob.rem .i64 a3 3 = v at *
    have e1 : splice (splice [Cell.int .i64 0, Cell.int .i64 0] 0 ([(.int .i64 120)] : List Cell)) 1 ([(.int .i64 v)] : List Cell) = pairC [(120, v)] := rfl
    have e2 : splice [Cell.int .i64 0, Cell.int .i64 0] 0 (pairC [(120, v)]) = pairC [(120, v)] := rfl
    have hm : maxBytes ≥ 100 := by unfold maxBytes; omega
    have hap : ∀ {α : Type} (f : Cell → AHeap → Option α), appK 2 16 .nils (pairC [(120, v)]) H4 f = f (.sl H4.length 2 0 1) (H4 ++ [some ⟨true, 2, pairC [(120, v)]⟩]) := by
      intro α f
      unfold appK
      simp only
      rw [if_neg (by simp [pairC]), if_pos ⟨by simp [pairC]; omega, by simp [pairC]; omega⟩]
      simp [pairC]
    rw [e1, if_pos ⟨rfl, by simp⟩, e2, if_pos (show (pairC [(120, v)]).length = 1 * 2 from rfl), hap, if_pos (by simp), bind_ok]
    have hv5 : VarsAt h x (H4 ++ [some ⟨true, 2, pairC [(120, v)]⟩]) (0 + 1 + 1 + 1 + 1) := hv4.keep (Kp.app _ (by omega))
    exact rest (0 + 1 + 1 + 1 + 1) _ (.sl H4.length 2 0 1) [(120, v)] (by omega) hv5 ⟨rfl, .inr ⟨_, _, 0, rfl, .inr ⟨_, blk_new _ _, rfl, by simp, fun j _ => by simp⟩⟩⟩ (.inr (by simp)) (fun k hk => by have : H4.length = k := hk; omega) (.inr ⟨v, q3.1, q3.2, rfl⟩)
  · rw [if_neg h4, bind_ok]
    exact rest (0 + 1 + 1 + 1) _ .nils [] (by omega) hv3 ⟨rfl, .inl ⟨rfl, rfl⟩⟩ trivial (fun k hk => by cases hk) (.inl rfl)

end
end Jq

/- Laws of events: kinds, orders. -/
namespace Jq
open Go

section
variable {E : Env}

end
end Jq

/- Laws of events: kinds, orders. -/
namespace Jq
open Go

section
variable {E : Env}

/-- A row of a block of its own. -/
theorem SlAt.whole {h : AHeap} {k len esz : Nat} {cs : List Cell} {o : Bool} {e : Nat} (hb : blk? h k = some ⟨o, e, cs⟩) (hl : cs.length = len * esz) : SlAt h (.sl k cs.length 0 len) esz cs len :=
  ⟨hl, .inr ⟨k, _, 0, rfl, .inr ⟨_, hb, rfl, by omega, fun j _ => by simp⟩⟩⟩

theorem awake10_R (hE : jacquardlaw10_awake_In E) (h : AHeap) : R E 77 [] h = some ([.c (.bool true)], h) := by
  refine R_intro hE.fn ?_
  have e1 : splice [Cell.int .u8 0] 0 ([(.int .u8 120)] : List Cell) = intC .u8 [120] := rfl
  have e2 : splice [Cell.int .i64 0] 0 ([(.int .i64 4)] : List Cell) = intC .i64 [4] := rfl
  have e3 : splice (splice (List.replicate 9 (Cell.int .i64 0)) 0 ([(.int .i64 2)] : List Cell)) 1 ([(.int .i64 1)] : List Cell) = (Ins.mk 2 1 0 ⟨0, 0⟩ 0 ⟨0, 0⟩ 0).cs := rfl
  have e4 : splice (List.replicate 9 (Cell.int .i64 0)) 0 (Ins.mk 2 1 0 ⟨0, 0⟩ 0 ⟨0, 0⟩ 0).cs = codeC [Ins.mk 2 1 0 ⟨0, 0⟩ 0 ⟨0, 0⟩ 0] := rfl
  have e5 : ∀ c : Cell, splice [Cell.nils] 0 ([c] : List Cell) = [c] := fun _ => rfl
  have e6 : ∀ a b c : Cell, splice (splice (splice [Cell.nils, Cell.nils, Cell.nils] 0 ([a] : List Cell)) 1 ([b] : List Cell)) 2 ([c] : List Cell) = [a, b, c] := fun _ _ _ => rfl
  have e7 : splice [Cell.int .i64 0] 0 ([(.int .i64 5)] : List Cell) = intC .i64 [5] := rfl
  have l1 : (intC .u8 [120]).length = 1 := rfl
  have l2 : (intC .i64 [4]).length = 1 := rfl
  have l3 : (codeC [Ins.mk 2 1 0 ⟨0, 0⟩ 0 ⟨0, 0⟩ 0]).length = 9 := rfl
  have l5 : (intC .i64 [5]).length = 1 := rfl
  rw [jacquardlaw10_awake_eq]
  simp only [e1, e2, e3, e4, e5, e6, e7]
  rw [if_pos (show (intC .u8 [120]).length = 1 * 1 from rfl)]
  have hmark : ∀ {α : Type} (f : Cell → AHeap → Option α), markK (.sl h.length (intC .u8 [120]).length 0 1) (h ++ [some ⟨true, 1, intC .u8 [120]⟩]) f = f (.sl h.length 1 0 1) (h ++ [some ⟨false, 1, intC .u8 [120]⟩]) := by
    intro α f
    unfold markK
    simp only
    rw [blk_new, Option.bind_some]
    dsimp only
    rw [if_pos ⟨rfl, rfl⟩, setBlk_last]; rfl
  rw [hmark]
  have b1 : blk? (h ++ [some ⟨false, 1, intC .u8 [120]⟩]) h.length = some ⟨false, 1, intC .u8 [120]⟩ := blk_new _ _
  have n1 : (h ++ [some (Blk.mk false 1 (intC .u8 [120]))]).length = h.length + 1 := by simp
  have k1 : Kp h.length h (h ++ [some ⟨false, 1, intC .u8 [120]⟩]) := Kp.app _ (Nat.le_refl _)
  generalize h ++ [some (Blk.mk false 1 (intC .u8 [120]))] = H1 at *
  have b2 : blk? (H1 ++ [some ⟨true, 1, intC .i64 [4]⟩]) H1.length = some ⟨true, 1, intC .i64 [4]⟩ := blk_new _ _
  have b1' : blk? (H1 ++ [some ⟨true, 1, intC .i64 [4]⟩]) h.length = some ⟨false, 1, intC .u8 [120]⟩ := blk_old b1 _
  have k2 : Kp h.length h (H1 ++ [some ⟨true, 1, intC .i64 [4]⟩]) := k1.trans (Kp.app _ k1.1)
  have n2 : (H1 ++ [some (Blk.mk true 1 (intC .i64 [4]))]).length = H1.length + 1 := by simp
  rw [if_pos (show (intC .i64 [4]).length = 1 * 1 from rfl)]
  generalize H1 ++ [some (Blk.mk true 1 (intC .i64 [4]))] = H2 at *
  have b3 : blk? (H2 ++ [some ⟨true, 9, codeC [Ins.mk 2 1 0 ⟨0, 0⟩ 0 ⟨0, 0⟩ 0]⟩]) H2.length = some ⟨true, 9, codeC [Ins.mk 2 1 0 ⟨0, 0⟩ 0 ⟨0, 0⟩ 0]⟩ := blk_new _ _
  have b2' : blk? (H2 ++ [some ⟨true, 9, codeC [Ins.mk 2 1 0 ⟨0, 0⟩ 0 ⟨0, 0⟩ 0]⟩]) H1.length = some ⟨true, 1, intC .i64 [4]⟩ := blk_old b2 _
  have b1'' : blk? (H2 ++ [some ⟨true, 9, codeC [Ins.mk 2 1 0 ⟨0, 0⟩ 0 ⟨0, 0⟩ 0]⟩]) h.length = some ⟨false, 1, intC .u8 [120]⟩ := blk_old b1' _
  have k3 : Kp h.length h (H2 ++ [some ⟨true, 9, codeC [Ins.mk 2 1 0 ⟨0, 0⟩ 0 ⟨0, 0⟩ 0]⟩]) := k2.trans (Kp.app _ k2.1)
  have n3 : (H2 ++ [some (Blk.mk true 9 (codeC [Ins.mk 2 1 0 ⟨0, 0⟩ 0 ⟨0, 0⟩ 0]))]).length = H2.length + 1 := by simp
  rw [if_pos ⟨rfl, by simp⟩, if_pos (show (codeC [Ins.mk 2 1 0 ⟨0, 0⟩ 0 ⟨0, 0⟩ 0]).length = 1 * 9 from rfl)]
  generalize H2 ++ [some (Blk.mk true 9 (codeC [Ins.mk 2 1 0 ⟨0, 0⟩ 0 ⟨0, 0⟩ 0]))] = H3 at *
  rw [l2, l3]
  have b4 : blk? (H3 ++ [some ⟨true, 1, [Cell.sl H2.length 9 0 1]⟩]) H3.length = some ⟨true, 1, [Cell.sl H2.length 9 0 1]⟩ := blk_new _ _
  have b3' : blk? (H3 ++ [some ⟨true, 1, [Cell.sl H2.length 9 0 1]⟩]) H2.length = some ⟨true, 9, codeC [Ins.mk 2 1 0 ⟨0, 0⟩ 0 ⟨0, 0⟩ 0]⟩ := blk_old b3 _
  have b2'' : blk? (H3 ++ [some ⟨true, 1, [Cell.sl H2.length 9 0 1]⟩]) H1.length = some ⟨true, 1, intC .i64 [4]⟩ := blk_old b2' _
  have b1''' : blk? (H3 ++ [some ⟨true, 1, [Cell.sl H2.length 9 0 1]⟩]) h.length = some ⟨false, 1, intC .u8 [120]⟩ := blk_old b1'' _
  have k4 : Kp h.length h (H3 ++ [some ⟨true, 1, [Cell.sl H2.length 9 0 1]⟩]) := k3.trans (Kp.app _ k3.1)
  have n4 : (H3 ++ [some (Blk.mk true 1 [Cell.sl H2.length 9 0 1])]).length = H3.length + 1 := by simp
  rw [if_pos (show ([Cell.sl H2.length 9 0 1] : List Cell).length = 1 * 1 from rfl)]
  have l4 : ([Cell.sl H2.length 9 0 1] : List Cell).length = 1 := rfl
  rw [l4]
  generalize hH4 : H3 ++ [some (Blk.mk true 1 [Cell.sl H2.length 9 0 1])] = H4 at *
  have b5 : blk? (H4 ++ [some ⟨true, 1, intC .i64 [5]⟩]) H4.length = some ⟨true, 1, intC .i64 [5]⟩ := blk_new _ _
  have p0 : ProgAt H4 [.sl h.length 1 0 1, .sl H1.length 1 0 1, .sl H3.length 1 0 1] ⟨[120], [4], [[Ins.mk 2 1 0 ⟨0, 0⟩ 0 ⟨0, 0⟩ 0]]⟩ := by
    refine ⟨_, _, _, [Cell.sl H2.length 9 0 1], rfl, ⟨SlAt.whole b1''' rfl, .inr (by omega)⟩, ⟨SlAt.whole b2'' rfl, .inr (by omega)⟩, ⟨SlAt.whole b4 rfl, .inr (by omega)⟩, fun t code ht => ?_⟩
    cases t with
    | zero =>
      cases ht
      exact ⟨_, rfl, SlAt.whole b3' rfl, .inr (by omega)⟩
    | succ t => simp at ht
  have k5 : Kp H4.length H4 (H4 ++ [some ⟨true, 1, intC .i64 [5]⟩]) := Kp.app _ (Nat.le_refl _)
  have k5' : Kp h.length h (H4 ++ [some ⟨true, 1, intC .i64 [5]⟩]) := k4.trans (k5.mono k4.1)
  have p5 := p0.keep k5
  have hx : SlAt (H4 ++ [some ⟨true, 1, intC .i64 [5]⟩]) (.sl H4.length 1 0 1) 1 (intC .i64 [5]) [(5 : Int)].length := SlAt.whole b5 rfl
  have hown : Own 0 (H4 ++ [some ⟨true, 1, intC .i64 [5]⟩]) (.sl H4.length 1 0 1) 1 (intC .i64 [5]) 1 := ⟨rfl, .inr ⟨_, rfl, by omega, b5⟩⟩
  have hlow : Low (H4 ++ [some (Blk.mk true 1 (intC .i64 [5]))]).length (.sl H4.length 1 0 1) := .inr (by simp)
  rw [if_pos ⟨trivial, rfl, rfl⟩, if_pos ⟨trivial, rfl⟩, if_pos (show (intC .i64 [5]).length = 1 * 1 from rfl), l5]
  generalize H4 ++ [some (Blk.mk true 1 (intC .i64 [5]))] = H5 at *
  have hsm : PProg.small ⟨[120], [4], [[Ins.mk 2 1 0 ⟨0, 0⟩ 0 ⟨0, 0⟩ 0]]⟩ := ⟨by simp, fun c hc => by simp at hc; subst hc; simp⟩
  obtain ⟨y, H6, hu, hy, ku⟩ := Unfold_R hE.c78 hsm p5 0 hx hlow hown.okE
  have hunf : unf (PProg.code ⟨[120], [4], [[Ins.mk 2 1 0 ⟨0, 0⟩ 0 ⟨0, 0⟩ 0]]⟩ 0) 0 1001 (startL ⟨[120], [4], [[Ins.mk 2 1 0 ⟨0, 0⟩ 0 ⟨0, 0⟩ 0]]⟩ 0) [5] [] = ([⟨0, 0, 1, 0, 5, 0⟩], ⟨1, 0, 5, 0, 0⟩, false) := by decide +kernel
  rw [hunf] at hu hy
  dsimp only at hu hy
  have p6 := p5.keep ku
  obtain ⟨y2, H7, hi, hy2, ki⟩ := Inits_R hE.c88 p6 (by simp)
  have hin : initsE [4] = [⟨-1, 0, 2, 0, 0, 4⟩] := rfl
  rw [hin] at hy2
  have hya := (hy.at.keep hy.low ki)
  obtain ⟨o1, c1', g1, q1, d1⟩ := SlAt.evG (l := [⟨0, 0, 1, 0, 5, 0⟩]) hya (i := 0) rfl
  obtain ⟨o2, c2', g2, q2, d2⟩ := SlAt.evG (l := [⟨-1, 0, 2, 0, 0, 4⟩]) hy2.at (i := 0) rfl
  have g1' : ∀ {α : Type} (G : Nat → List Cell → Option α), (idxSK 6 y (0 : Int) fun k N o => rdH H7 k N fun l => G o l) = G o1 c1' := fun G => g1 G
  have g2' : ∀ {α : Type} (G : Nat → List Cell → Option α), (idxSK 6 y2 (0 : Int) fun k N o => rdH H7 k N fun l => G o l) = G o2 c2' := fun G => g2 G
  have s1 : splice (splice [Cell.int .i64 0, Cell.int .i64 0, Cell.int .i64 0, Cell.int .i64 0, Cell.int .i64 0, Cell.int .i64 0] 2 ([(.int .i64 1)] : List Cell)) 4 ([(.int .i64 5)] : List Cell) = (Evt.mk 0 0 1 0 5 0).cs := rfl
  have s2 : splice (splice (splice [Cell.int .i64 0, Cell.int .i64 0, Cell.int .i64 0, Cell.int .i64 0, Cell.int .i64 0, Cell.int .i64 0] 0 ([(.int .i64 (-1))] : List Cell)) 2 ([(.int .i64 2)] : List Cell)) 5 ([(.int .i64 4)] : List Cell) = (Evt.mk (-1) 0 2 0 0 4).cs := rfl
  rw [hu, c3_ok, asC_ok, asA_ok, asB_ok, if_pos ⟨trivial, rfl, rfl⟩, if_pos ⟨trivial, rfl⟩, hi, c1_ok, asC_ok, hya.len, s1, s2]
  rw [show ((([⟨0, 0, 1, 0, 5, 0⟩] : List Evt).length : Int) == 1) = true from rfl, scK_ok, g1', if_pos q1, d1, if_pos ⟨alike_ev _, alike_ev _⟩, show decide ((Evt.mk 0 0 1 0 5 0).cs = (Evt.mk 0 0 1 0 5 0).cs) = true by simp, bind_ok]
  dsimp only
  rw [scK_ok, show ∀ {α : Type} (f : Cell → Option α), atK (Lcl.mk 1 0 5 0 0).cs 2 f = f (.int .i64 5) from fun _ => rfl, asI_ok, bind_ok]
  dsimp only
  rw [show ((5 : Int) == 5) = true from rfl, scK_ok, bind_ok]
  dsimp only
  rw [show (!false) = true from rfl, scK_ok, hy2.at.len, bind_ok]
  dsimp only
  rw [show ((([4] : List Int).length : Int) == 1) = true from rfl, scK_ok, g2', if_pos q2, d2, if_pos ⟨alike_ev _, alike_ev _⟩, show decide ((Evt.mk (-1) 0 2 0 0 4).cs = (Evt.mk (-1) 0 2 0 0 4).cs) = true by simp, bind_ok]
  exact finish_gc (k5'.trans ((ku.mono k5'.1).trans (ki.mono (Nat.le_trans k5'.1 ku.1)))) (by simp [avOk, AV.cells, idOk])

end
end Jq

/- Programs made of numbers; what a thread's events are. -/
namespace Jq
open Go

structure GoodP (most : Nat) (P : PProg) : Prop where
  small : P.small
  good : P.good
  n : 2 ≤ P.thr.length ∧ P.thr.length ≤ 3
  init : P.init.length ≤ 3
  locs : P.locs.length = P.init.length
  code : ∀ c ∈ P.thr, c.length ≤ 6

theorem SmI.good {L : Int} {i : Ins} (s : SmI L i) {n : Nat} (hn : 1 ≤ n) : GoodI n i := by
  rcases s with ⟨h1, h2, _⟩ | ⟨h1, h2, _⟩ | rfl | ⟨h1, h2, _⟩ | ⟨h1, h2, _, _, h3, _⟩ | ⟨h1, h2, _, _, h3, _, h4⟩
  all_goals refine ⟨?_, ?_, ?_, ?_⟩ <;> (try simp only) <;> omega

theorem compI_good {locs : List Int} {i : Ins} {n : Nat} (g : GoodI n i) : GoodI n (compI locs i) := by
  unfold compI
  split
  · exact ⟨g.1, g.2, g.3, g.4⟩
  · exact g

theorem SmI.loc {L : Int} {i : Ins} (s : SmI L i) : i.loc = 0 ∨ (120 ≤ i.loc ∧ i.loc < 120 + L) := by
  rcases s with ⟨h1, h2, h3, _⟩ | ⟨h1, h2, h3, _⟩ | rfl | ⟨h1, h2, h3, _⟩ | ⟨h1, h2, h3, _, _⟩ | ⟨h1, h2, h3, _, _, _⟩
  · exact .inr h3
  · exact .inr h3
  · exact .inl rfl
  · exact .inr h3
  · exact .inl h3
  · exact .inl h3

theorem locsF_few (S : Nat → Bool) (hS : ∀ b, 97 ≤ b → b < 120 → S b = false) : ∀ n, n ≤ 26 → (locsF S n).length ≤ n - 23
  | 0, _ => by simp [locsF]
  | n + 1, h => by
    have ih := locsF_few S hS n (by omega)
    rw [locsF_succ]
    split
    · rename_i hs
      have : ¬ 97 + n < 120 := fun hlt => by rw [hS _ (by omega) hlt] at hs; cases hs
      rw [List.length_append, List.length_singleton]; omega
    · omega

theorem GoodT.small {most : Nat} {T : PTest} (g : GoodT most T) : T.small := by
  obtain ⟨L, hL, hc⟩ := g.code
  refine ⟨?_, by have := g.n; omega, fun c hcm => ?_, by have := g.any.1; omega, fun c hcm => by have := (g.any.2 c hcm).1; omega⟩
  · rcases g.inits with h | ⟨v, _, _, h⟩ <;> rw [h] <;> simp
  · obtain ⟨k, hk, ht⟩ := hc c hcm
    have := ht.len; omega

theorem GoodT.few {most : Nat} {T : PTest} (g : GoodT most T) : (locsT T).length ≤ 3 := by
  obtain ⟨L, hL, hc⟩ := g.code
  refine Nat.le_trans (locsF_few (thereT T) (fun b h1 h2 => ?_) 26 (Nat.le_refl _)) (by omega)
  unfold thereT
  rw [Bool.or_eq_false_iff, Bool.or_eq_false_iff]
  refine ⟨⟨?_, ?_⟩, ?_⟩
  · rw [List.any_eq_false]
    intro p hp
    rcases g.inits with h | ⟨v, _, _, h⟩
    · rw [h] at hp; cases hp
    · rw [h] at hp
      rw [List.mem_singleton] at hp
      subst hp
      rw [beq_iff_eq]; simp only; omega
  · rw [List.any_eq_false]
    intro c hcm
    rw [Bool.not_eq_true, List.any_eq_false]
    intro i hi
    obtain ⟨k, hk, ht⟩ := hc c hcm
    rw [beq_iff_eq]
    have := (ht.all i hi).loc
    omega
  · rw [List.any_eq_false]
    intro c hcm
    rw [Bool.not_eq_true, List.any_eq_false]
    intro i hi
    rw [beq_iff_eq]
    have := (g.any.2 c hcm).2 i hi
    omega

theorem GoodT.goodP {most : Nat} {T : PTest} (g : GoodT most T) : GoodP most (compT T) := by
  obtain ⟨L, hL, hc⟩ := g.code
  have hlen : ∀ c ∈ T.thr, c.length ≤ 6 := fun c hcm => by
    obtain ⟨k, hk, ht⟩ := hc c hcm
    have := ht.len; omega
  have hcode : ∀ c ∈ (compT T).thr, c.length ≤ 6 := fun c hcm => by
    obtain ⟨d, hd, rfl⟩ := List.mem_map.1 hcm
    rw [List.length_map]; exact hlen d hd
  have hn : (compT T).thr.length = T.thr.length := List.length_map _
  have hi : (compT T).init.length = (locsT T).length := List.length_map _
  have hfew := g.few
  have hgn := g.n
  refine ⟨⟨by omega, fun c hcm => by have := hcode c hcm; omega⟩, ⟨⟨by omega, fun c hcm => by have := hcode c hcm; omega⟩, fun c hcm => ?_⟩, by omega, by omega, hi.symm, hcode⟩
  obtain ⟨d, hd, rfl⟩ := List.mem_map.1 hcm
  intro i him
  obtain ⟨j, hj, rfl⟩ := List.mem_map.1 him
  rw [List.length_map]
  obtain ⟨k, hk, ht⟩ := hc d hd
  exact compI_good ((ht.all j hj).good (List.length_pos_of_mem hj))

section
variable {E : Env}

/-- A program made of numbers. -/
theorem Of6_R (hE : jacquardlaw6_Of_In E) {h : AHeap} {x : Cell} {l : List Int} (hx : SlAt h x 1 (intC .i64 l) l.length) (hlow : Low h.length x) (hl : l.length < 9223372036854775808) {most : Nat} (hmost : most ≤ 900) :
    ∃ (cs : List Cell) (h' : AHeap) (P : PProg), R E 76 [.c x, .c (.int .i64 (most : Int))] h = some ([.agg cs], h') ∧ ProgAt h' cs P ∧ GoodP most P ∧ Kp h.length h h' := by
  obtain ⟨cs, h1, T, s1, s2, s3, s4⟩ := Small_R hE.c97 hx hlow hl hmost
  obtain ⟨cs2, h2, t1, t2, t3⟩ := refCompile_R hE.c101 s2 s3.small
  refine ⟨cs2, h2, compT T, R_intro hE.fn ?_, t2, s3.goodP, s4.trans (t3.mono s4.1)⟩
  rw [jacquardlaw6_Of_eq, s1, c1_ok, asA_ok, t1, c1_ok, asA_ok, if_pos ⟨rfl, rfl, t2.len⟩, if_pos ⟨rfl, t2.len⟩]

end

/-- How many events read. -/
def rdc (l : List Evt) : Nat := l.countP evRd
theorem rdc_snoc (l : List Evt) (e : Evt) : rdc (l ++ [e]) = rdc l + if evRd e = true then 1 else 0 := by
  unfold rdc; rw [List.countP_append, List.countP_cons, List.countP_nil]; simp

def EvOk (t : Int) (all : List Int) (j n : Nat) (e : Evt) : Prop :=
  e.t = t ∧ e.i = (j : Int) ∧ 1 ≤ e.kind ∧ e.kind ≤ 5 ∧ (evWr e = false → e.w = 0) ∧ (evRd e = true → all[n]? = some e.r) ∧ (evRd e = false → e.r = 0)
def OutOk (t : Int) (all : List Int) (out : List Evt) : Prop := ∀ (j : Nat) (e : Evt), out[j]? = some e → EvOk t all j (rdc (out.take j)) e

theorem OutOk.nil (t : Int) (all : List Int) : OutOk t all [] := fun j e h => by simp at h
theorem OutOk.snoc {t : Int} {all : List Int} {out : List Evt} {e : Evt} (o : OutOk t all out) (he : EvOk t all out.length (rdc out) e) : OutOk t all (out ++ [e]) := by
  intro j q hq
  rcases Nat.lt_or_ge j out.length with h | h
  · rw [List.getElem?_append_left h] at hq
    rw [List.take_append_of_le_length (by omega)]
    exact o j q hq
  · have hj : j = out.length := by
      have : j < (out ++ [e]).length := by
        rcases Nat.lt_or_ge j (out ++ [e]).length with h | h
        · exact h
        · rw [List.getElem?_eq_none h] at hq; cases hq
      rw [List.length_append, List.length_singleton] at this; omega
    subst hj
    rw [List.getElem?_append_right (Nat.le_refl _), Nat.sub_self] at hq
    cases hq
    rw [List.take_left]
    exact he

theorem evOf_rd {i : Ins} (hk : 1 ≤ i.kind ∧ i.kind ≤ 4) (l : Lcl) (v t n : Int) : evRd { evOf i l v with t := t, i := n } = rdI i := by
  unfold evRd evOf rdI
  rcases (show i.kind = 1 ∨ i.kind = 2 ∨ i.kind = 3 ∨ i.kind = 4 by omega) with h | h | h | h <;> simp [h]
  split <;> simp

theorem evOf_kind (i : Ins) (l : Lcl) (v : Int) : 1 ≤ (evOf i l v).kind ∧ (evOf i l v).kind ≤ 5 := by
  unfold evOf
  repeat' split
  all_goals simp

theorem evOf_w (i : Ins) (l : Lcl) (v t n : Int) (h : evWr { evOf i l v with t := t, i := n } = false) : (evOf i l v).w = 0 := by
  revert h
  unfold evOf evWr
  repeat' split
  all_goals simp

theorem evOf_r {i : Ins} (l : Lcl) (v : Int) : (evOf i l v).r = if rdI i = true then v else 0 := by
  unfold evOf rdI
  by_cases h1 : i.kind = 1
  · simp [h1]
  · by_cases h2 : i.kind = 2
    · simp [h2]
    · by_cases h4 : i.kind = 4
      · simp [h4]; split <;> rfl
      · simp [h1, h2, h4]

theorem unf_ok {code : List Ins} {t : Int} {all : List Int} : ∀ (k : Nat) (l : Lcl) (rs : List Int) (out : List Evt), OutOk t all out → rs = all.drop (rdc out) → rdc out ≤ all.length → out.length ≤ code.length → (out.length : Int) ≤ l.pc → 0 ≤ l.pc → (code.length : Int) < l.pc + k →
    OutOk t all (unf code t k l rs out).1 ∧ rdc (unf code t k l rs out).1 ≤ all.length ∧ ((unf code t k l rs out).2.2 = true → rdc (unf code t k l rs out).1 = all.length) ∧ (nextI code (unf code t k l rs out).2.1).isSome = (unf code t k l rs out).2.2 ∧ (unf code t k l rs out).1.length ≤ code.length := by
  intro k
  induction k with
  | zero =>
    intro l rs out o hrs hle hlen hpl h0 hp
    have hn : nextI code l = none := by
      cases hq : nextI code l with
      | none => rfl
      | some i => have := nextI_kind hq; omega
    exact ⟨o, hle, (fun h => Bool.noConfusion h), (by show (nextI code l).isSome = false; rw [hn]; rfl), hlen⟩
  | succ k ih =>
    intro l rs out o hrs hle hlen hpl h0 hp
    rw [unf]
    cases hn : nextI code l with
    | none => exact ⟨o, hle, (fun h => Bool.noConfusion h), (by dsimp only; rw [hn]; rfl), hlen⟩
    | some i =>
      have hk := nextI_kind hn
      have hlt : out.length < code.length := by omega
      dsimp only
      by_cases hr : rdI i = true
      · rw [if_pos hr]
        cases rs with
        | nil =>
          have hall : all.length ≤ rdc out := by
            have := congrArg List.length hrs
            rw [List.length_drop, List.length_nil] at this; omega
          exact ⟨o, hle, fun _ => by show rdc out = _; omega, by dsimp only; rw [hn]; rfl, hlen⟩
        | cons v rs =>
          dsimp only
          have hv : all[rdc out]? = some v := by rw [← List.head?_drop, ← hrs]; rfl
          have hlt2 : rdc out < all.length := (List.getElem?_eq_some_iff.1 hv).1
          have hrd := evOf_rd hk.2.2.2 l v t out.length
          rw [hr] at hrd
          refine ih _ _ _ (o.snoc ⟨rfl, rfl, (evOf_kind i l v).1, (evOf_kind i l v).2, evOf_w i l v t out.length, fun _ => ?_, fun h => ?_⟩) ?_ ?_ ?_ ?_ ?_ ?_
          · rw [hv]; show some v = some (evOf i l v).r; rw [evOf_r, if_pos hr]
          · rw [hrd] at h; cases h
          · rw [rdc_snoc, if_pos hrd, ← List.drop_drop, ← hrs]; rfl
          · rw [rdc_snoc, if_pos hrd]; omega
          · rw [List.length_append, List.length_singleton]; omega
          · have := afterL_pc hn v; rw [List.length_append, List.length_singleton]; omega
          · have := afterL_pc hn v; omega
          · have := afterL_pc hn v; omega
      · rw [if_neg hr]
        have hr' : rdI i = false := by simpa using hr
        have hrd := evOf_rd hk.2.2.2 l 0 t out.length
        rw [hr'] at hrd
        refine ih _ _ _ (o.snoc ⟨rfl, rfl, (evOf_kind i l 0).1, (evOf_kind i l 0).2, evOf_w i l 0 t out.length, fun h => ?_, fun _ => ?_⟩) ?_ ?_ ?_ ?_ ?_ ?_
        · rw [hrd] at h; cases h
        · show (evOf i l 0).r = 0; rw [evOf_r, if_neg hr]
        · rw [rdc_snoc, if_neg (by rw [hrd]; simp)]; exact hrs
        · rw [rdc_snoc, if_neg (by rw [hrd]; simp)]; exact hle
        · rw [List.length_append, List.length_singleton]; omega
        · have := afterL_pc hn 0; rw [List.length_append, List.length_singleton]; omega
        · have := afterL_pc hn 0; omega
        · have := afterL_pc hn 0; omega

/-- What comes out begins with what was there. -/
theorem unf_pre {code : List Ins} {t : Int} : ∀ (k : Nat) (l : Lcl) (rs : List Int) (out : List Evt), ∃ tl, (unf code t k l rs out).1 = out ++ tl
  | 0, l, rs, out => ⟨[], by rw [unf, List.append_nil]⟩
  | k + 1, l, rs, out => by
    rw [unf]
    cases nextI code l with
    | none => exact ⟨[], by rw [List.append_nil]⟩
    | some i =>
      dsimp only
      split
      · cases rs with
        | nil => exact ⟨[], by rw [List.append_nil]⟩
        | cons v rs =>
          obtain ⟨tl, h⟩ := unf_pre k (afterL code l v) rs (out ++ [{ evOf i l v with t := t, i := out.length }])
          exact ⟨_, by dsimp only; rw [h, List.append_assoc]⟩
      · obtain ⟨tl, h⟩ := unf_pre k (afterL code l 0) rs (out ++ [{ evOf i l 0 with t := t, i := out.length }])
        exact ⟨_, by rw [h, List.append_assoc]⟩

/-- One value more. -/
theorem unf_more {code : List Ins} {t v : Int} : ∀ (k : Nat) (l : Lcl) (rs : List Int) (out : List Evt),
    ((unf code t k l rs out).2.2 = false → (unf code t k l (rs ++ [v]) out).1 = (unf code t k l rs out).1) ∧
    ((unf code t k l rs out).2.2 = true → ∃ e tl, (unf code t k l (rs ++ [v]) out).1 = (unf code t k l rs out).1 ++ e :: tl ∧ evRd e = true ∧ e.r = v)
  | 0, l, rs, out => ⟨fun _ => rfl, fun h => Bool.noConfusion h⟩
  | k + 1, l, rs, out => by
    rw [unf, unf]
    cases hn : nextI code l with
    | none => exact ⟨fun _ => rfl, fun h => Bool.noConfusion h⟩
    | some i =>
      dsimp only
      by_cases hr : rdI i = true
      · rw [if_pos hr, if_pos hr]
        cases rs with
        | nil =>
          refine ⟨fun h => Bool.noConfusion h, fun _ => ?_⟩
          obtain ⟨tl, h⟩ := unf_pre (t := t) k (afterL code l v) [] (out ++ [{ evOf i l v with t := t, i := out.length }])
          refine ⟨_, tl, by show (unf code t k (afterL code l v) [] _).1 = _; rw [h, List.append_assoc]; rfl, ?_, ?_⟩
          · rw [evOf_rd (nextI_kind hn).2.2.2]; exact hr
          · show (evOf i l v).r = v; rw [evOf_r, if_pos hr]
        | cons w rs => exact unf_more k (afterL code l w) rs _
      · rw [if_neg hr, if_neg hr]
        exact unf_more k (afterL code l 0) rs _

end Jq

/- Laws of events: how many. -/
namespace Jq
open Go

section
variable {E : Env}

end
end Jq

namespace Jq
open Go


end Jq

/- What a function needs of an environment. -/
namespace Jq
open Go


end Jq

namespace Jq
open Go


end Jq

/- Orders: what must be ahead of each; whether a row keeps a relation. -/
namespace Jq
open Go

/-- Words, one behind the other. -/
def setC (n : Nat) (F : Nat → Nat) : List Cell := (List.range n).map fun j => .int .u64 (F j : Nat)

variable {E : Env}

/-- Whether a row keeps to what must be ahead, some done. -/
def kpR (n : Nat) (B : Nat → Nat) : List Int → Nat → Bool
  | [], _ => true
  | v :: t, d => if (decide (v < 0) || decide (v ≥ (n : Int)) || hasI d v || (ndiff (B v.toNat) d != 0)) = true then false else kpR n B t (d ||| bitI v)

end Jq

/- Orders: rows that go on, handed on one by one: rows cut and made longer. -/
namespace Jq
open Go

/-- All rows that go on from this one, in order. -/
def ext (n : Nat) (B : Nat → Nat) : Nat → Nat → List Nat → List (List Nat)
  | 0, _, row => [row]
  | k + 1, d, row => (List.range n).flatMap fun i => if (d.testBit i || (ndiff (B i) d != 0)) = true then [] else ext n B k (d ||| 2 ^ i) (row ++ [i])

/-- Handed on, one by one, till one says stop. -/
def feed {S : Type} (P : S → List Nat → S × Bool) : S → List (List Nat) → S × Bool
  | s, [] => (s, true)
  | s, r :: rs => if (P s r).2 = true then feed P (P s r).1 rs else ((P s r).1, false)

/-- The row under way: its block may reach further than it. -/
def RowQ (h : AHeap) (q : Cell) (row : List Nat) : Prop :=
  (q = .nils ∧ row = []) ∨ ∃ kr cs, q = .sl kr cs.length 0 row.length ∧ blk? h kr = some ⟨true, 1, cs⟩ ∧ cs.take row.length = natC row ∧ row.length ≤ cs.length

theorem RowQ.at {h : AHeap} {q : Cell} {row : List Nat} (r : RowQ h q row) : SlAt h q 1 (natC row) row.length := by
  refine ⟨by rw [natC_len]; omega, ?_⟩
  rcases r with ⟨rfl, rfl⟩ | ⟨kr, cs, rfl, hb, ht, hl⟩
  · exact .inl ⟨rfl, rfl⟩
  · refine .inr ⟨kr, _, 0, rfl, .inr ⟨_, hb, rfl, by omega, fun j hj => ?_⟩⟩
    rw [← ht, List.getElem?_take, if_pos (by omega), Nat.zero_add]

theorem RowQ.app {h : AHeap} {q : Cell} {row : List Nat} (r : RowQ h q row) (hr : row.length < 100) (i : Nat) :
    ∃ q' h', (∀ {α : Type} (f : Cell → AHeap → Option α), appK 1 8 q [.int .i64 (i : Int)] h f = f q' h') ∧ RowQ h' q' (row ++ [i]) ∧ h.length ≤ h'.length ∧ (∃ k, isBlk q' k) ∧ ∀ k, k < h.length → ¬ isBlk q k → h'[k]? = h[k]? ∧ ¬ isBlk q' k := by
  have hm : maxBytes ≥ 101 * 8 := by unfold maxBytes; omega
  rcases r with ⟨rfl, rfl⟩ | ⟨kr, cs, rfl, hb, ht, hl⟩
  · refine ⟨.sl h.length 1 0 1, h ++ [some ⟨true, 1, [.int .i64 (i : Int)]⟩], fun f => ?_, .inr ⟨h.length, [.int .i64 (i : Int)], rfl, blk_new _ _, rfl, by simp⟩, by simp, ⟨_, rfl⟩, fun k hk _ => ⟨List.getElem?_append_left hk, fun hq => ?_⟩⟩
    · unfold appK; simp only; rw [if_neg (by simp), if_pos ⟨by simp; omega, by simp; omega⟩]; simp
    · have : h.length = k := hq
      omega
  · have hkl := blk_lt' hb
    have hsl : row.length < cs.length → (splice cs row.length [Cell.int .i64 (i : Int)]).length = cs.length := fun hlt => by
      unfold splice
      simp only [List.length_append, List.length_take, List.length_drop, List.length_singleton]; omega
    by_cases hlt : row.length < cs.length
    · refine ⟨.sl kr cs.length 0 (row.length + 1), setBlk h kr (some ⟨true, 1, splice cs row.length [.int .i64 (i : Int)]⟩), fun f => ?_, .inr ⟨kr, splice cs row.length [.int .i64 (i : Int)], ?_, blk_set_self hkl _, ?_, ?_⟩, by rw [setBlk_len]; exact Nat.le_refl _, ⟨_, rfl⟩, fun k hk hq => ⟨?_, hq⟩⟩
      · unfold appK; simp only; rw [hb, Option.bind_some]; dsimp only
        rw [if_pos ⟨rfl, rfl, rfl, by omega, by simp; omega, by simp; omega⟩, if_pos (by simp; omega)]
        simp
      · rw [hsl hlt]; simp
      · rw [natC_snoc, ← ht, List.length_append, List.length_singleton]; unfold splice
        rw [List.take_append_of_le_length (by simp; omega), List.take_of_length_le (by simp; omega)]
      · rw [hsl hlt]; simp; omega
      · unfold setBlk; rw [List.getElem?_set_ne (fun h => hq h)]
    · have he : row.length = cs.length := by omega
      refine ⟨.sl kr (cs.length + 1) 0 (row.length + 1), setBlk h kr (some ⟨true, 1, cs ++ [.int .i64 (i : Int)]⟩), fun f => ?_, .inr ⟨kr, cs ++ [.int .i64 (i : Int)], by simp, blk_set_self hkl _, ?_, by simp; omega⟩, by rw [setBlk_len]; exact Nat.le_refl _, ⟨_, rfl⟩, fun k hk hq => ⟨?_, hq⟩⟩
      · unfold appK; simp only; rw [hb, Option.bind_some]; dsimp only
        rw [if_pos ⟨rfl, rfl, rfl, by omega, by simp; omega, by simp; omega⟩, if_neg (by simp; omega), if_pos trivial, he]
        simp
      · rw [natC_snoc, ← ht, List.take_of_length_le (by simp; omega), List.take_of_length_le (l := cs) (by omega)]
      · unfold setBlk; rw [List.getElem?_set_ne (fun h => hq h)]

theorem RowQ.cut {h : AHeap} {q : Cell} {row : List Nat} {i : Nat} (r : RowQ h q (row ++ [i])) :
    ∃ q', (∀ {α : Type} (f : Cell → Option α), sliceK h 1 false true q [.v (.c (.int .i64 (row.length : Int)))] f = f q') ∧ RowQ h q' row ∧ ∀ k, isBlk q' k ↔ isBlk q k := by
  rcases r with ⟨_, hn⟩ | ⟨kr, cs, rfl, hb, ht, hl⟩
  · simp at hn
  · refine ⟨.sl kr cs.length 0 row.length, fun f => ?_, .inr ⟨kr, cs, rfl, hb, ?_, by simp at hl; omega⟩, fun k => Iff.rfl⟩
    · unfold sliceK
      have hok : okSl h 1 kr cs.length = true := by unfold okSl; rw [hb]; simp
      simp only [hok, if_true]
      unfold boundsK
      simp only
      rw [if_pos ⟨by omega, by simp; omega⟩]
      simp
    · have := congrArg (List.take row.length) ht
      rw [List.take_take, natC_snoc] at this
      simp [natC_len] at this
      exact this

/-- What takes the rows: it needs I of the heap, some blocks of which are its own. -/
structure Put (E : Env) (S : Type) (P : S → List Nat → S × Bool) (fnc : Cell) (I : S → (Nat → Prop) → AHeap → Prop) (go : S → Prop) : Prop where
  on : ∀ s row, go s → (P s row).2 = true → go (P s row).1
  frame : ∀ s L h h', I s L h → (∀ k, L k → h'[k]? = h[k]?) → h.length ≤ h'.length → I s L h'
  low : ∀ s L h, I s L h → ∀ k, L k → k < h.length
  put : ∀ s L h x row, I s L h → go s → row.length ≤ 64 → SlAt h x 1 (natC row) row.length → (∀ k, isBlk x k → k < h.length ∧ ¬ L k) →
    ∃ h' L', (∀ {α : Type} (F : AV → AHeap → Option α), (fnK fnc fun g cs => c1 (R E g ([.c x] ++ cs) h) F) = F (.c (.bool (P s row).2)) h') ∧ I (P s row).1 L' h' ∧ h.length ≤ h'.length ∧ ∀ k, k < h.length → ¬ L k → h'[k]? = h[k]? ∧ ¬ L' k

end Jq

/- order.walk.on: every row that goes on is handed on, in order, till one says stop. -/
namespace Jq
open Go

variable {E : Env}

/-- What stands while walking. -/
structure WI {S : Type} (I : S → (Nat → Prop) → AHeap → Prop) (n kw kb : Nat) (B : Nat → Nat) (fnc : Cell) (row : List Nat) (s : S) (L : Nat → Prop) (h : AHeap) (q : Cell) : Prop where
  i : I s L h
  w : blk? h kw = some ⟨true, 0, [.sl kb n 0 n, q, fnc]⟩
  b : blk? h kb = some ⟨true, 1, setC n B⟩
  r : RowQ h q row
  lw : ¬ L kw
  lb : ¬ L kb
  wb : kw ≠ kb
  ap : ∀ j, isBlk q j → ¬ L j ∧ j ≠ kw ∧ j ≠ kb

/-- What a stretch of walking leaves alone. -/
def Left (kw : Nat) (L : Nat → Prop) (h : AHeap) (q : Cell) (L' : Nat → Prop) (h' : AHeap) (q' : Cell) : Prop :=
  h.length ≤ h'.length ∧ ∀ j, j < h.length → ¬ L j → j ≠ kw → ¬ isBlk q j → h'[j]? = h[j]? ∧ ¬ L' j ∧ ¬ isBlk q' j

theorem Left.refl (kw : Nat) (L : Nat → Prop) (h : AHeap) (q : Cell) : Left kw L h q L h q := ⟨Nat.le_refl _, fun _ _ a _ b => ⟨rfl, a, b⟩⟩

theorem Left.trans {kw : Nat} {L L' L'' : Nat → Prop} {h h' h'' : AHeap} {q q' q'' : Cell} (a : Left kw L h q L' h' q') (b : Left kw L' h' q' L'' h'' q'') : Left kw L h q L'' h'' q'' := by
  refine ⟨Nat.le_trans a.1 b.1, fun j h1 h2 h3 h4 => ?_⟩
  obtain ⟨a1, a2, a3⟩ := a.2 j h1 h2 h3 h4
  obtain ⟨b1, b2, b3⟩ := b.2 j (by have := a.1; omega) a2 h3 a3
  exact ⟨b1.trans a1, b2, b3⟩

theorem blk_of_get {h h' : AHeap} {k : Nat} (e : h'[k]? = h[k]?) : blk? h' k = blk? h k := by unfold blk?; rw [e]

theorem set_get {h : AHeap} {k j : Nat} {x : Option Blk} (hj : j ≠ k) : (setBlk h k x)[j]? = h[j]? := by
  unfold setBlk; rw [List.getElem?_set_ne (fun e => hj e.symm)]

section
variable {S : Type} {P : S → List Nat → S × Bool} {fnc : Cell} {I : S → (Nat → Prop) → AHeap → Prop} {go : S → Prop} {n kw kb : Nat} {B : Nat → Nat}

/-- One longer. -/
theorem WI.push (pu : Put E S P fnc I go) {row : List Nat} {s : S} {L : Nat → Prop} {h : AHeap} {q : Cell} (w : WI I n kw kb B fnc row s L h q) (hr : row.length < 100) (i : Nat) :
    ∃ q1 h1, (∀ {α : Type} (f : Cell → AHeap → Option α), appK 1 8 q [.int .i64 (i : Int)] h f = f q1 h1) ∧ blk? h1 kw = some ⟨true, 0, [.sl kb n 0 n, q, fnc]⟩ ∧
      WI I n kw kb B fnc (row ++ [i]) s L (setBlk h1 kw (some ⟨true, 0, [.sl kb n 0 n, q1, fnc]⟩)) q1 ∧ Left kw L h q L (setBlk h1 kw (some ⟨true, 0, [.sl kb n 0 n, q1, fnc]⟩)) q1 := by
  obtain ⟨q1, h1, ha, hrow, hlen, ⟨k1, hk1⟩, hfr⟩ := w.r.app hr i
  have hkw := blk_lt' w.w
  have hkb := blk_lt' w.b
  have nw : ¬ isBlk q kw := fun e => (w.ap kw e).2.1 rfl
  have nb : ¬ isBlk q kb := fun e => (w.ap kb e).2.2 rfl
  obtain ⟨f1, f2⟩ := hfr kw hkw nw
  obtain ⟨g1, g2⟩ := hfr kb hkb nb
  have hw1 : blk? h1 kw = some ⟨true, 0, [.sl kb n 0 n, q, fnc]⟩ := (blk_of_get f1).trans w.w
  have hkw1 := blk_lt' hw1
  have nL : ∀ j, isBlk q1 j → ¬ L j ∧ j ≠ kw ∧ j ≠ kb := by
    intro j hj
    refine ⟨fun hL => ?_, fun e => f2 (e ▸ hj), fun e => g2 (e ▸ hj)⟩
    have hjl := pu.low _ _ _ w.i j hL
    by_cases hq : isBlk q j
    · exact (w.ap j hq).1 hL
    · exact (hfr j hjl hq).2 hj
  refine ⟨q1, h1, ha, hw1, ⟨?_, blk_set_self hkw1 _, ?_, ?_, w.lw, w.lb, w.wb, nL⟩, ?_, ?_⟩
  · refine pu.frame _ _ _ _ w.i (fun j hL => ?_) (by rw [setBlk_len]; exact hlen)
    have hjw : j ≠ kw := fun e => w.lw (e ▸ hL)
    rw [set_get hjw]
    exact (hfr j (pu.low _ _ _ w.i j hL) (fun e => (w.ap j e).1 hL)).1
  · rw [blk_of_get (set_get (fun e => w.wb e.symm)), blk_of_get g1]; exact w.b
  · rcases hrow with ⟨e, he⟩ | ⟨kr, cs, e, hb, ht, hl⟩
    · exact .inl ⟨e, he⟩
    · have hne : kr ≠ kw := (nL kr (by rw [e]; rfl)).2.1
      exact .inr ⟨kr, cs, e, by rw [blk_of_get (set_get hne)]; exact hb, ht, hl⟩
  · rw [setBlk_len]; exact hlen
  · intro j h2 h3 h4 h5
    obtain ⟨a1, a2⟩ := hfr j h2 h5
    exact ⟨by rw [set_get h4]; exact a1, h3, a2⟩

end
end Jq

/- order.walk.on comes to feeding on all rows that go on. -/
namespace Jq
open Go

def extF (n : Nat) (B : Nat → Nat) (k d : Nat) (row : List Nat) (i m : Nat) : List (List Nat) :=
  (List.range' i m).flatMap fun i => if (d.testBit i || (ndiff (B i) d != 0)) = true then [] else ext n B k (d ||| 2 ^ i) (row ++ [i])

section
variable {E : Env} {S : Type} {P : S → List Nat → S × Bool} {fnc : Cell} {I : S → (Nat → Prop) → AHeap → Prop} {go : S → Prop} {n kw kb : Nat} {B : Nat → Nat}

end
end Jq

/- order.each: all orders are handed on, none where something leads to itself. -/
namespace Jq
open Go

section
variable {E : Env} {S : Type} {P : S → List Nat → S × Bool} {fnc : Cell} {I : S → (Nat → Prop) → AHeap → Prop} {go : S → Prop} {n : Nat}

/-- All orders. -/
def ords (n : Nat) (f : Nat → Nat) : List (List Nat) := if acycR n f = true then ext n (INV n f) n 0 [] else []

end
end Jq

/- order.All$1: a row is copied and put behind the others. -/
namespace Jq
open Go

/-- The rows' cells, each a row of its own block. -/
def rowsC : List Nat → List (List Nat) → List Cell
  | k :: ks, r :: rs => .sl k r.length 0 r.length :: rowsC ks rs
  | _, _ => []

def outF (lim : Int) : List (List Nat) → List Nat → List (List Nat) × Bool := fun s r => (s ++ [r], decide (((s.length + 1 : Nat) : Int) < lim))

/-- The rows so far lie there: behind the variable `out`, with the bound beside it. -/
def OutI (ko kl : Nat) (lim : Int) : List (List Nat) → (Nat → Prop) → AHeap → Prop := fun s L h =>
  ∃ (y : Cell) (ks : List Nat), blk? h ko = some ⟨true, 0, [y]⟩ ∧ blk? h kl = some ⟨true, 0, [.int .i64 lim]⟩ ∧ ko ≠ kl ∧ ks.length = s.length ∧
    ((y = .nils ∧ s = []) ∨ ∃ ky, y = .sl ky s.length 0 s.length ∧ blk? h ky = some ⟨true, 1, rowsC ks s⟩ ∧ ky ≠ ko ∧ ky ≠ kl ∧ ¬ ky ∈ ks) ∧
    (∀ (j k : Nat) (r : List Nat), ks[j]? = some k → s[j]? = some r → blk? h k = some ⟨true, 1, natC r⟩ ∧ k ≠ ko ∧ k ≠ kl) ∧
    (∀ k, L k ↔ (k = ko ∨ k = kl ∨ isBlk y k ∨ k ∈ ks))

theorem OutI.low {ko kl : Nat} {lim : Int} {s : List (List Nat)} {L : Nat → Prop} {h : AHeap} (o : OutI ko kl lim s L h) : ∀ k, L k → k < h.length := by
  obtain ⟨y, ks, h1, h2, _, hks, hy, hrow, hL⟩ := o
  intro k hk
  rcases (hL k).1 hk with rfl | rfl | hb | hm
  · exact blk_lt' h1
  · exact blk_lt' h2
  · rcases hy with ⟨rfl, _⟩ | ⟨ky, rfl, hb2, _⟩
    · cases hb
    · have : ky = k := hb
      subst this; exact blk_lt' hb2
  · obtain ⟨j, hj⟩ := List.getElem?_of_mem hm
    have hjl : j < s.length := by
      rcases Nat.lt_or_ge j ks.length with h3 | h3
      · omega
      · rw [List.getElem?_eq_none h3] at hj; cases hj
    exact blk_lt' (hrow j k s[j] hj (by simp [hjl])).1

theorem OutI.frame {ko kl : Nat} {lim : Int} {s : List (List Nat)} {L : Nat → Prop} {h h' : AHeap} (o : OutI ko kl lim s L h) (hk : ∀ k, L k → h'[k]? = h[k]?) : OutI ko kl lim s L h' := by
  obtain ⟨y, ks, h1, h2, hne, hks, hy, hrow, hL⟩ := o
  have e : ∀ k, L k → blk? h' k = blk? h k := fun k hl => blk_of_get (hk k hl)
  refine ⟨y, ks, (e ko ((hL ko).2 (.inl rfl))).trans h1, (e kl ((hL kl).2 (.inr (.inl rfl)))).trans h2, hne, hks, ?_, fun j k r hj hr => ?_, hL⟩
  · rcases hy with hy | ⟨ky, hy, hb, hr⟩
    · exact .inl hy
    · exact .inr ⟨ky, hy, (e ky ((hL ky).2 (.inr (.inr (.inl (by rw [hy]; rfl)))))).trans hb, hr⟩
  · obtain ⟨a, b⟩ := hrow j k r hj hr
    exact ⟨(e k ((hL k).2 (.inr (.inr (.inr (List.mem_of_getElem? hj)))))).trans a, b⟩

theorem SlAt.cells {h : AHeap} {x : Cell} {cs : List Cell} {len : Nat} (s : SlAt h x 1 cs len) : slCells h 1 x = some cs := by
  have hl := s.1
  rcases s.2 with ⟨rfl, rfl⟩ | ⟨k, N, off, rfl, hb⟩
  · have : cs = [] := List.length_eq_zero_iff.1 (by omega)
    rw [this]; rfl
  · unfold slCells
    dsimp only
    by_cases h0 : len = 0
    · have : cs = [] := List.length_eq_zero_iff.1 (by omega)
      rw [if_pos h0, this]
    · rw [if_neg h0]
      rcases hb with hb | ⟨b, hb, hN, hle, hat⟩
      · exact absurd hb h0
      · rw [hb]
        simp only
        rw [if_pos ⟨hN, hle⟩]
        congr 1
        refine List.ext_getElem? fun j => ?_
        rw [List.getElem?_take, List.getElem?_drop]
        by_cases hj : j < len * 1
        · rw [if_pos hj, hat j hj]
        · rw [if_neg hj, List.getElem?_eq_none (by omega)]

end Jq

/- Laws of events: one value more. -/
namespace Jq
open Go

section
variable {E : Env}

theorem copyI {α : Type} {h : AHeap} {row : List Int} (hr : row.length ≤ 1000) (f : Cell → AHeap → Option α) : appK 1 8 (.sl h.length 0 0 0) (intC .i64 row) (h ++ [some ⟨true, 1, []⟩]) f = f (.sl h.length row.length 0 row.length) (h ++ [some ⟨true, 1, intC .i64 row⟩]) := by
  have hm : maxBytes ≥ 1000 * 8 := by unfold maxBytes; omega
  have hl : (intC .i64 row).length = row.length := by simp [intC]
  unfold appK
  simp only
  rw [blk_new, Option.bind_some]
  dsimp only
  rw [if_pos ⟨rfl, rfl, rfl, by simp, by rw [hl]; simp; omega, by rw [hl]; simp; omega⟩, hl]
  by_cases h0 : row.length = 0
  · have : row = [] := List.length_eq_zero_iff.1 h0
    subst this
    rw [if_pos (by simp), setBlk_last]; rfl
  · rw [if_neg (by omega), if_pos trivial, setBlk_last]
    simp

/-- The one loop: events are the same, and numbered. -/
theorem more_loop {a b : List Evt} {x y : Cell} {q : Nat} {all : List Int} {v : Int} {m : Bool} {h : AHeap} (hx : SlAt h x 6 (evsC a) a.length) (hy : SlAt h y 6 (evsC b) b.length) (hb : ∃ tl, b = a ++ tl) (hn : a.length ≤ 1000) (ho : OutOk (q : Int) all a) :
    Lim (jacquardlaw10_EventMore_F1 (R E) Lim E.glob) (jacquardlaw10_EventMore_s1 (q : Int) v x m y ((0 : Nat) : Int) h) = some (.exit 0, jacquardlaw10_EventMore_x1_1 v x m y h) := by
  refine Lim_count (fun i => jacquardlaw10_EventMore_s1 (q : Int) v x m y (i : Int) h) 0 a.length (by omega) (fun i _ hi => ?_) (Lim_exit ?_)
  · have hq : a[i]? = some a[i] := List.getElem?_eq_getElem hi
    generalize a[i] = e at hq
    obtain ⟨w1, w2, _⟩ := ho i e hq
    have hq2 : b[i]? = some e := by
      obtain ⟨tl, rfl⟩ := hb
      rw [List.getElem?_append_left hi]; exact hq
    obtain ⟨o1, c1, g1, h1, e1⟩ := hx.evG hq
    obtain ⟨o2, c2, g2, h2, e2⟩ := hy.evG hq2
    have F0 : ∀ {α : Type} (f : Cell → Option α), (idxSK 6 x (i : Int) fun k N o => rdH h k N fun l => atK l (o + 0) f) = f (.int .i64 e.t) := fun f => hx.evF hq (by omega) rfl
    have F1 : ∀ {α : Type} (f : Cell → Option α), (idxSK 6 x (i : Int) fun k N o => rdH h k N fun l => atK l (o + 1) f) = f (.int .i64 e.i) := fun f => hx.evF hq (by omega) rfl
    have n1 : (e.t != (q : Int)) = false := by rw [w1]; simp
    have n2 : (e.i != (i : Int)) = false := by rw [w2]; simp
    rw [jacquardlaw10_EventMore_r1, hx.len, if_pos (by simp; omega), bind_ok]
    dsimp only
    rw [jacquardlaw10_EventMore_ec8_n, g1, if_pos h1, g2, if_pos h2, e1, e2, if_pos ⟨alike_ev e, alike_ev e⟩, show (!(decide (e.cs = e.cs))) = false by simp, F0, asI_ok, scK_or, n1, show (false || false) = false from rfl, F1, asI_ok, scK_or, n2, if_neg (by simp), g_succ (by omega)]
  · rw [jacquardlaw10_EventMore_r1, hx.len, if_neg (by simp), bind_ok]
    dsimp only
    rw [jacquardlaw10_EventMore_ec8_1]

theorem EventMore_law (hE : jacquardlaw10_EventMore_In E) {h : AHeap} {c0 c1 c2 c3 : List Cell} (o0 : okC h (.sl (.i .i64)) c0) (o1 : okC h (.i .i64) c1) (o2 : okC h (.sl (.i .i64)) c2) (o3 : okC h (.i .i64) c3) :
    ∃ h', R E 210 [av1 (.sl (.i .i64)) c0, av1 (.i .i64) c1, av1 (.sl (.i .i64)) c2, av1 (.i .i64) c3] h = some ([.c (.bool true)], h') := by
  obtain ⟨x, l, e0, hx, hlow, _, hm⟩ := arg_ints o0
  obtain ⟨a, e1, _⟩ := arg_int o1
  obtain ⟨y, rs, e2, hy, hlowy, _, hmy⟩ := arg_ints o2
  obtain ⟨v, e3, _⟩ := arg_int o3
  have hok := arg_slok o2 e2
  rw [e0, e1, e2, e3]
  suffices hh : ∃ h', jacquardlaw10_EventMore.body (R E) Lim E.glob [.c x, .c (.int .i64 a), .c y, .c (.int .i64 v)] h = some ([.c (.bool true)], h') by
    obtain ⟨h', hh⟩ := hh; exact ⟨h', R_intro hE.fn hh⟩
  obtain ⟨cs, h1, P, f1, p, g, k1⟩ := Of6_R hE.c76 hx hlow (by unfold maxLen at hm; omega) (most := 12) (by omega)
  have hn := g.n
  have p' := p
  obtain ⟨pa, pb, pc, ts, rfl, _, _, ⟨hc, hcl⟩, hts⟩ := p'
  have a2 : ∀ {α : Type} (f : Cell → Option α), atK [pa, pb, pc] 2 f = f pc := fun _ => rfl
  have fin : ∀ (h' : AHeap), Kp h.length h h' → finish true h [.c (.bool true)] h' = some ([.c (.bool true)], h) := fun h' hk => finish_gc hk (by simp [avOk, AV.cells, idOk])
  rw [show ((12 : Nat) : Int) = 12 from rfl] at f1
  rw [jacquardlaw10_EventMore_eq, f1, c1_ok, asA_ok, if_pos ⟨rfl, rfl, rfl⟩, bind_ok]
  dsimp only
  rw [jacquardlaw10_EventMore_ec1_n, a2, hc.len, if_neg (by omega), bind_ok]
  dsimp only
  rw [jacquardlaw10_EventMore_ec2_n, hy.len]
  by_cases hb : rs.length > 20
  · rw [if_pos (by simp; omega), awake10_R hE.c77, c1_ok, asB_ok, bind_ok]
    dsimp only
    rw [jacquardlaw10_EventMore_ec3_0, fin _ k1]; exact ⟨_, rfl⟩
  have ht := rem_rng (E := E) (x := E.glob.band .i64 a 255) (by rw [g_band255]; omega) (show (0 : Int) < P.thr.length by omega)
  generalize E.glob.rem .i64 (E.glob.band .i64 a 255) (P.thr.length : Int) = t at *
  obtain ⟨q, rfl⟩ : ∃ q : Nat, t = (q : Int) := ⟨t.toNat, by omega⟩
  rw [if_neg (by simp; omega), bind_ok]
  dsimp only
  have hlowy1 := Low_mono k1.1 hlowy
  have hy1 := hy.keep hlowy k1
  obtain ⟨z, h2, u1, u2, u3⟩ := Unfold_R hE.c78 g.small p (q : Int) hy1 hlowy1 ((hok.e 1).mono k1)
  have hs0 : 0 ≤ (startL P (q : Int)).pc := normL_pc (P.code (q : Int)) Lcl.zero
  have hcl6 := g.small.code (q : Int)
  obtain ⟨v1, v2, v3, v4, v5⟩ := unf_ok (code := P.code (q : Int)) (t := (q : Int)) (all := rs) 1001 (startL P (q : Int)) rs [] (OutOk.nil _ _) rfl (Nat.zero_le _) (Nat.zero_le _) (by simpa using hs0) hs0 (by omega)
  obtain ⟨m1, m2⟩ := unf_more (code := P.code (q : Int)) (t := (q : Int)) (v := v) 1001 (startL P (q : Int)) rs []
  have p2 := p.keep u3
  have hlowy2 := Low_mono u3.1 hlowy1
  have hy2 := hy1.keep hlowy1 u3
  have hlr : (intC .i64 rs).length = rs.length := by simp [intC]
  have hnew : Own h2.length (h2 ++ [some ⟨true, 1, intC .i64 rs⟩]) (.sl h2.length rs.length 0 rs.length) 1 (intC .i64 rs) rs.length :=
    ⟨by rw [hlr]; omega, .inr ⟨h2.length, by rw [hlr], Nat.le_refl _, blk_new _ _⟩⟩
  have hmb : maxBytes ≥ 1000 := by unfold maxBytes; omega
  obtain ⟨w, h3, aw, ow, kw, _⟩ := hnew.app (bytes := 8) (xs := [.int .i64 v]) (by simp) rfl (by omega) (by omega) (by omega)
  have k23 : Kp h2.length h2 h3 := (Kp.app _ (Nat.le_refl _)).trans kw
  have hic : intC .i64 rs ++ [.int .i64 v] = intC .i64 (rs ++ [v]) := by simp [intC]
  rw [hic, show rs.length + 1 = (rs ++ [v]).length by simp] at ow
  have p3 := p2.keep k23
  obtain ⟨z2, h4, s1, s2, s3⟩ := Unfold_R hE.c78 g.small p3 (q : Int) ow.at ow.low ow.okE
  have kall : Kp h.length h h4 := k1.trans ((u3.mono k1.1).trans ((k23.mono (Nat.le_trans k1.1 u3.1)).trans (s3.mono (Nat.le_trans k1.1 (Nat.le_trans u3.1 k23.1)))))
  have hz4 := (u2.at.keep u2.low k23).keep (Low_mono k23.1 u2.low) s3
  have hz2 := s2.at
  generalize unf (P.code (q : Int)) (q : Int) 1001 (startL P (q : Int)) rs [] = U at *
  generalize unf (P.code (q : Int)) (q : Int) 1001 (startL P (q : Int)) (rs ++ [v]) [] = V at *
  obtain ⟨evs, l2, more⟩ := U
  obtain ⟨evs2, l3, more2⟩ := V
  dsimp only at *
  have hc0 : slCells (h2 ++ [some ⟨true, 1, []⟩]) 1 y = some (intC .i64 rs) := ((hy2.keep hlowy2 (Kp.app _ (Nat.le_refl _)))).cells
  have hpre : ∃ tl, evs2 = evs ++ tl := by
    cases hmo : more with
    | false => exact ⟨[], by rw [m1 hmo, List.append_nil]⟩
    | true => obtain ⟨e, tl, hh, _⟩ := m2 hmo; exact ⟨_, hh⟩
  have hloop := more_loop (E := E) (m := more) (v := v) (x := z) (y := z2) hz4 hz2 hpre (by omega) v1
  rw [jacquardlaw10_EventMore_ec3_n, if_pos ⟨rfl, rfl⟩, u1, c3_ok, asC_ok, asA_ok, asB_ok, if_pos ⟨rfl, rfl, rfl⟩, bind_ok]
  dsimp only
  rw [jacquardlaw10_EventMore_ec4_n, if_pos ⟨rfl, rfl⟩, if_pos (show ([] : List Cell).length = 0 * 1 from rfl), hc0, bind_ok, show (([] : List Cell).length) = 0 from rfl, copyI (by omega), show splice [Cell.int .i64 0] 0 ([(.int .i64 v)] : List Cell) = [.int .i64 v] from rfl, if_pos (show ([Cell.int .i64 v] : List Cell).length = 1 * 1 from rfl), aw, s1, c3_ok, asC_ok, asA_ok, asB_ok, if_pos ⟨rfl, rfl, rfl⟩, bind_ok]
  dsimp only
  have hle : evs.length ≤ evs2.length := by obtain ⟨tl, rfl⟩ := hpre; rw [List.length_append]; omega
  have b1 : decide ((evs2.length : Int) < (evs.length : Int)) = false := decide_eq_false (by omega)
  have b2 : (!more && ((evs2.length : Int) != (evs.length : Int))) = false := by
    cases hmo : more with
    | true => rfl
    | false => rw [m1 hmo]; simp
  have b3 : (more && ((evs2.length : Int) == (evs.length : Int))) = false := by
    cases hmo : more with
    | false => rfl
    | true =>
      obtain ⟨e, tl, hh, _⟩ := m2 hmo
      rw [hh, List.length_append, List.length_cons]
      rw [Bool.true_and, beq_eq_false_iff_ne]; omega
  rw [jacquardlaw10_EventMore_ec5_n, hz2.len, hz4.len, b1]
  simp only [hz2.len, hz4.len, scK_and, b2, b3, scK_or, Bool.or_false]
  rw [if_neg (by simp), bind_ok]
  dsimp only
  rw [jacquardlaw10_EventMore_ec6_n, show (0 : Int) = ((0 : Nat) : Int) from rfl, hloop, bind_ok]
  dsimp only
  rw [jacquardlaw10_EventMore_e1_1, bind_ok]
  dsimp only
  rw [jacquardlaw10_EventMore_ec7_n]
  cases hmo : more with
  | false =>
    rw [show (!false) = true from rfl, scK_tf, scK_ok, awake10_R hE.c77, c1_ok, asB_ok, bind_ok]
    dsimp only
    rw [fin _ kall]; exact ⟨_, rfl⟩
  | true =>
    obtain ⟨e, tl, hh, hrd, hrv⟩ := m2 hmo
    have hq : evs2[evs.length]? = some e := by rw [hh, List.getElem?_append_right (Nat.le_refl _), Nat.sub_self]; rfl
    obtain ⟨o2', c2', g2, q2, d2⟩ := hz2.evG hq
    rw [show (!true) = false from rfl, scK_ok, hz4.len, g2, if_pos q2, d2, evReads_R hE.c79, c1_ok, asB_ok, hrd, scK_ok, hz4.len, hz2.evF hq (j := 4) (by omega) rfl, asI_ok, hrv, bind_ok]
    dsimp only
    rw [bind_ok]
    dsimp only
    rw [beq_self_eq_true, scK_ok, awake10_R hE.c77, c1_ok, asB_ok, bind_ok]
    dsimp only
    rw [fin _ kall]; exact ⟨_, rfl⟩

end
end Jq

/- EventMore: whatever the input the call says true, and each argument reads behind it as before. No conditions. -/
namespace Go.Proofs.Ytldfafaiappibaa.LEventMore
open Go Jq Go.ChangeShapes Go.WideShapes Go.ChangeAt Go.RowKit
set_option linter.unusedVariables false

theorem own : ownKnob Try.prog.godebug = none := by kernel_rfl
theorem laidOut : laidOutB Try.prog = true := by kernel_rfl

set_option maxRecDepth 100000 in
theorem lifted (os : Os) (started : os.Started) (H : Type) (enc : TypeId × Value → H) :
    ReturnsInHanded {} Try.checked os 3 .any (Rows.eventMoreSpec.pre6 enc Try.prog Try.f3 Rows.eventMoreRow.domain false) (Rows.eventMoreSpec.post enc Try.prog Try.f3 false true false false) := by
  refine returnsInHanded_of_change (C := Try.checked) own started (by kernel_rfl) Try.func3
    (ChangeSpec.witness6 (enc := enc) (C := Try.checked) false ⟨#[], #[.slice none 0 0, .int .i64 0, .slice none 0 0, .int .i64 0], []⟩ 8 (by kernel_rfl) (by kernel_rfl) (by kernel_rfl) (by kernel_rfl)) ?_
  intro W base args ds gs before hval0 hW hcnd _
  have hval : ∀ (j : Nat) t v, Try.f3.params[j]? = some t → args[j]? = some v → Value.okWide Try.prog W .any base t v := hval0
  have hW' := hW
  obtain ⟨p, q, hA0, hV, rfl, hfz, hnd⟩ := hW
  have hA : DataW.TrodAll enc Try.prog W 0 (fun _ => true) true Try.f3.params.toList args.toList ds p := hA0
  rw [Try.params3] at hA hval
  obtain ⟨v0, vs0, d0, ds0, p0, q0, hargs, rfl, rfl, h0, r0⟩ := trodAll_cons hA
  obtain ⟨v1, vs1, d1, ds1, p1, q1, rfl, rfl, rfl, h1, r1⟩ := trodAll_cons r0
  obtain ⟨v2, vs2, d2, ds2, p2, q2, rfl, rfl, rfl, h2, r2⟩ := trodAll_cons r1
  obtain ⟨v3, vs3, d3, ds3, p3, q3, rfl, rfl, rfl, h3, r3⟩ := trodAll_cons r2
  obtain ⟨rfl, rfl, rfl⟩ := trodAll_nil r3
  obtain rfl : args = #[v0, v1, v2, v3] := by cases args; simp_all
  obtain ⟨rfl, rfl⟩ := trodVars_none hV
  have lt0 : ∀ x ∈ p0, x.block < W.heap.size := by obtain ⟨m, hm⟩ := h0; exact DataW.trod_lt m _ _ _ hm
  have lt1 : ∀ x ∈ p1, x.block < W.heap.size := by obtain ⟨m, hm⟩ := h1; exact DataW.trod_lt m _ _ _ hm
  have lt2 : ∀ x ∈ p2, x.block < W.heap.size := by obtain ⟨m, hm⟩ := h2; exact DataW.trod_lt m _ _ _ hm
  have lt3 : ∀ x ∈ p3, x.block < W.heap.size := by obtain ⟨m, hm⟩ := h3; exact DataW.trod_lt m _ _ _ hm
  have c := Come.nil (S := seat) (W := W) (fun _ => rfl)
  have k0 : ((.sl (.i .i64)) : Sh).chk seat.P 22 = true := by kernel_rfl
  obtain ⟨b0, ρ0, cs0, c0, e0, x0, a0, o0⟩ := opens_arg (S := seat) (W := W) (sh := (.sl (.i .i64))) k0 h0 (wide_of k0 (hval 0 22 v0 rfl rfl)) ⟨nofun, nofun⟩ c
  have k1 : ((.i .i64) : Sh).chk seat.P 3 = true := by kernel_rfl
  obtain ⟨b1, ρ1, cs1, c1, e1, x1, a1, o1⟩ := opens_arg (S := seat) (W := W) (sh := (.i .i64)) k1 h1 (wide_of k1 (hval 1 3 v1 rfl rfl)) ⟨nofun, nofun⟩ c0
  have k2 : ((.sl (.i .i64)) : Sh).chk seat.P 23 = true := by kernel_rfl
  obtain ⟨b2, ρ2, cs2, c2, e2, x2, a2, o2⟩ := opens_arg (S := seat) (W := W) (sh := (.sl (.i .i64))) k2 h2 (wide_of k2 (hval 2 23 v2 rfl rfl)) ⟨nofun, nofun⟩ c1
  have k3 : ((.i .i64) : Sh).chk seat.P 2 = true := by kernel_rfl
  obtain ⟨b3, ρ3, cs3, c3, e3, x3, a3, o3⟩ := opens_arg (S := seat) (W := W) (sh := (.i .i64)) k3 h3 (wide_of k3 (hval 3 2 v3 rfl rfl)) ⟨nofun, nofun⟩ c2
  obtain ⟨h', hR⟩ := EventMore_law (E := env) in_210 (okC_mono x3 _ _ (okC_mono x2 _ _ (okC_mono x1 _ _ o0))) (okC_mono x3 _ _ (okC_mono x2 _ _ o1)) (okC_mono x3 _ _ o2) o3
  refine (law_call (S := seat) (R_sound (S := seat) (E := env) rfl allOk) c3 (vals := #[v0, v1, v2, v3]) (L2.cons (relA.mono e3 (relA.mono e2 (relA.mono e1 a0))) (L2.cons (relA.mono e3 (relA.mono e2 a1)) (L2.cons (relA.mono e3 a2) (L2.cons a3 L2.nil)))) hR).mono fun e W' ⟨he, bel⟩ => ?_
  subst he
  exact ⟨_, rfl, _, _, _, [], _, [], hW', trodAll_mk1 (shut_bool Try.underlying4 _), (trodAll_cons_mk (Below.trod laidOut (by kernel_rfl) (of_decide_eq_true (by kernel_rfl)) h0 bel lt0) (trodAll_cons_mk (Below.trod laidOut (by kernel_rfl) (of_decide_eq_true (by kernel_rfl)) h1 bel lt1) (trodAll_cons_mk (Below.trod laidOut (by kernel_rfl) (of_decide_eq_true (by kernel_rfl)) h2 bel lt2) (trodAll_cons_mk (Below.trod laidOut (by kernel_rfl) (of_decide_eq_true (by kernel_rfl)) h3 bel lt3) trodAll_mk0)))), rfl, bel.frame _, fun h => by cases h⟩

theorem over : Rows.eventMoreRow.holds Try.pinned (OpenSpec.ofChange Rows.eventMoreSpec) :=
  OpenClaim.holds_of_wide 3 Try.f3 rfl rfl rfl rfl rfl rfl rfl ⟨rfl, rfl, rfl, rfl, rfl⟩ rfl rfl rfl rfl rfl (by kernel_rfl) Try.func3 (by kernel_rfl)
    (of_decide_eq_true (by kernel_rfl)) (by unfold Func.isWrapper; first | (rw [if_pos (by decide +kernel)]; kernel_rfl) | (rw [if_neg (by decide +kernel)]; exact ⟨rfl, rfl⟩))
    (fun os started H enc _ => lifted os started H enc)

theorem proved : Rows.EventMoreSaid := over
#print axioms proved

end Go.Proofs.Ytldfafaiappibaa.LEventMore

