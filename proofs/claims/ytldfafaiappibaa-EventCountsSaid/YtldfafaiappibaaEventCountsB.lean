/- YtldfafaiappibaaEventCountsB: a part of the proof; no conditions of its own. -/
import Derived.KernelRfl
import Derived.Lib.TrailingZeros
import Derived.Test.YtldfafaiappibaaEventCountsA
set_option linter.unusedVariables false
set_option linter.unusedSimpArgs false

/- Relations: what the package's functions come to. -/
namespace Jq
open Go

/-- A relation's cells: over how many, the rows. -/
def relL (n : Nat) (f : Nat → Nat) : List Cell := .int .i64 n :: (List.range 64).map fun i => .int .u64 (f i)

theorem relL_len (n : Nat) (f : Nat → Nat) : (relL n f).length = 65 := by simp [relL]
theorem relL_zero (n : Nat) (f : Nat → Nat) : (relL n f)[0]? = some (.int .i64 n) := rfl
theorem relL_row {n : Nat} {f : Nat → Nat} {i : Nat} (hi : i < 64) : (relL n f)[1 + i]? = some (.int .u64 (f i)) := by
  rw [relL, Nat.add_comm, List.getElem?_cons_succ, List.getElem?_map, List.getElem?_range hi]; rfl

def updF (f : Nat → Nat) (i v : Nat) : Nat → Nat := fun j => if j = i then v else f j

theorem relL_set {n : Nat} {f : Nat → Nat} {i v : Nat} : (relL n f).set (1 + i) (.int .u64 v) = relL n (updF f i v) := by
  rw [relL, Nat.add_comm, List.set_cons_succ, relL]
  congr 1
  refine List.ext_getElem? fun j => ?_
  rw [List.getElem?_set]
  simp only [List.length_map, List.length_range, List.getElem?_map, updF]
  by_cases hj : j < 64
  · rw [List.getElem?_range hj]
    by_cases hij : i = j
    · subst hij; simp [hj]
    · have : ¬ j = i := fun h => hij h.symm
      simp [hij, this]
  · rw [List.getElem?_eq_none (by simp; omega)]
    simp; intro h1; omega

theorem relL_congr {n : Nat} {f g : Nat → Nat} (h : ∀ i, i < 64 → f i = g i) : relL n f = relL n g := by
  unfold relL
  congr 1
  refine List.map_congr_left fun i hi => ?_
  rw [h i (by simpa using hi)]

theorem relL_inj {n m : Nat} {f g : Nat → Nat} (h : relL n f = relL m g) : n = m ∧ ∀ i, i < 64 → f i = g i := by
  have h0 : (relL n f)[0]? = (relL m g)[0]? := by rw [h]
  rw [relL_zero, relL_zero] at h0
  refine ⟨by simp at h0; omega, fun i hi => ?_⟩
  have h1 : (relL n f)[1 + i]? = (relL m g)[1 + i]? := by rw [h]
  rw [relL_row hi, relL_row hi] at h1
  simp at h1; omega

def zeroL : List Cell := [Cell.int .i64 0] ++ List.replicate 64 (Cell.int .u64 0)
theorem zero_len : ([Cell.int .i64 0] ++ List.replicate 64 (Cell.int .u64 0)).length = 65 := by simp
theorem zero_rel : ([Cell.int .i64 0] ++ List.replicate 64 (Cell.int .u64 0)) = relL 0 fun _ => 0 := by
  rw [relL, List.singleton_append]; congr 1
theorem splice_zero {n m : Nat} {f : Nat → Nat} : splice (relL m f) 0 [.int .i64 n] = relL n f := by
  simp [splice, relL]

/-- All rows are words. -/
def Words (f : Nat → Nat) : Prop := ∀ i, f i < 2 ^ 64

theorem words_zero : Words fun _ => 0 := fun _ => by simp
theorem words_upd {f : Nat → Nat} (h : Words f) {i v : Nat} (hv : v < 2 ^ 64) : Words (updF f i v) := fun j => by unfold updF; split; exact hv; exact h j

/-- Numbers, brought between nought and 64. -/
def clamp (a : Int) : Nat := min a.toNat 64

variable {E : Env}

theorem New_R (hE : rel_New_In E) (a : Int) (h : AHeap) : R E 9 [.c (.int .i64 a)] h = some ([.agg (relL (clamp a) fun _ => 0)], h) := by
  refine R_intro hE.fn ?_
  rw [rel_New_eq]
  have hv : (if 64 < (if 0 > a then 0 else a) then 64 else (if 0 > a then 0 else a)) = ((clamp a : Nat) : Int) := by
    unfold clamp; split <;> split <;> omega
  simp only [hv, zero_rel, splice_zero, relL_len, and_self, if_true]

def inR (n : Nat) (a : Int) : Bool := decide (0 ≤ a) && decide (a < n)

theorem in_R (hE : rel_Rel_in_In E) (n : Nat) (f : Nat → Nat) (a : Int) (h : AHeap) : R E 16 [.agg (relL n f), .c (.int .i64 a)] h = some ([.c (.bool (inR n a))], h) := by
  refine R_intro hE.fn ?_
  rw [rel_Rel_in_eq, atK_ok (relL_zero n f), asI_ok, scK_and]
  rfl

theorem N_R (hE : rel_Rel_N_In E) (n : Nat) (f : Nat → Nat) (h : AHeap) : R E 14 [.agg (relL n f)] h = some ([.c (.int .i64 n)], h) := by
  refine R_intro hE.fn ?_
  rw [rel_Rel_N_eq, atK_ok (relL_zero n f), asI_ok]

/-- Whether a leads to b. -/
def hasR (n : Nat) (f : Nat → Nat) (a b : Int) : Bool := inR n a && hasI (f a.toNat) b

theorem HasR_R (hE : rel_Rel_Has_In E) {n : Nat} (hn : n ≤ 64) {f : Nat → Nat} (hf : Words f) (a b : Int) (h : AHeap) : R E 3 [.agg (relL n f), .c (.int .i64 a), .c (.int .i64 b)] h = some ([.c (.bool (hasR n f a b))], h) := by
  refine R_intro hE.fn ?_
  rw [rel_Rel_Has_eq, if_pos ⟨rfl, relL_len n f⟩, in_R hE.c16, c1_ok, asB_ok]
  unfold hasR
  by_cases hi : inR n a = true
  · have h2 : 0 ≤ a ∧ a < n := by simpa [inR] using hi
    have h3 : a.toNat < 64 := by omega
    rw [hi, scK_ok, if_pos ⟨h2.1, by omega⟩, Nat.mul_one, atK_ok (relL_row h3), asI_ok, Has_R hE.c17 (hf _), c1_ok, asB_ok, bind_ok, Bool.true_and]
  · have hi' : inR n a = false := by simpa using hi
    rw [hi', scK_ft, Bool.false_and]

/-- A relation with a pair. -/
def addR (n : Nat) (f : Nat → Nat) (a b : Int) : Nat → Nat := if inR n a && inR n b then updF f a.toNat (f a.toNat ||| bitI b) else f

theorem words_add {n : Nat} {f : Nat → Nat} (hf : Words f) (a b : Int) : Words (addR n f a b) := by
  unfold addR; split
  · exact words_upd hf (or_lt (hf _) (bitI_lt b))
  · exact hf

theorem Add_R (hE : rel_Rel_Add_In E) {n : Nat} (hn : n ≤ 64) {f : Nat → Nat} (hf : Words f) (a b : Int) (h : AHeap) : R E 10 [.agg (relL n f), .c (.int .i64 a), .c (.int .i64 b)] h = some ([.agg (relL n (addR n f a b))], h) := by
  refine R_intro hE.fn ?_
  rw [rel_Rel_Add_eq, if_pos ⟨rfl, relL_len n f⟩, in_R hE.c16, c1_ok, asB_ok, if_pos ⟨rfl, relL_len n f⟩, in_R hE.c16, c1_ok, asB_ok, scK_and]
  unfold addR
  by_cases hi : (inR n a && inR n b) = true
  · rw [hi]
    simp only [Bool.and_eq_true] at hi
    have h2 : 0 ≤ a ∧ a < n := by simpa [inR] using hi.1
    have h3 : a.toNat < 64 := by omega
    simp only [if_true]
    rw [if_pos ⟨h2.1, by omega⟩, Nat.mul_one, atK_ok (relL_row h3), asI_ok, With_R hE.c18 (hf _), c1_ok, asI_ok, if_pos ⟨h2.1, by omega⟩, relL_set]
    simp only [relL_len, zero_len, and_self, if_true]
    rw [if_pos (by omega)]
  · rw [show (inR n a && inR n b) = false by simpa using hi]
    simp only [Bool.false_eq_true, if_false, relL_len, zero_len, and_self, if_true]

theorem Row_R (hE : rel_Rel_Row_In E) {n : Nat} (hn : n ≤ 64) (f : Nat → Nat) (a : Int) (h : AHeap) : R E 41 [.agg (relL n f), .c (.int .i64 a)] h = some ([.c (.int .u64 ((if inR n a then f a.toNat else 0 : Nat) : Int))], h) := by
  refine R_intro hE.fn ?_
  rw [rel_Rel_Row_eq, if_pos ⟨rfl, relL_len n f⟩, in_R hE.c16, c1_ok, asB_ok]
  by_cases hi : inR n a = true
  · have h2 : 0 ≤ a ∧ a < n := by simpa [inR] using hi
    have h3 : a.toNat < 64 := by omega
    rw [hi]
    simp only [Bool.not_true, Bool.false_eq_true, if_false, if_true]
    rw [if_pos ⟨h2.1, by omega⟩, Nat.mul_one, atK_ok (relL_row h3), asI_ok]
  · rw [show inR n a = false by simpa using hi]
    simp

/- Closing. -/

/-- One of a round: from i by k. -/
def clS (f : Nat → Nat) (k i : Nat) : Nat → Nat := if (f i).testBit k then updF f i (f i ||| f k) else f

def cl1 (k : Nat) : Nat → (Nat → Nat) → Nat → Nat
  | 0, f => f
  | i + 1, f => clS (cl1 k i f) k i

/-- The first k rounds. -/
def clK (n : Nat) (f : Nat → Nat) : Nat → Nat → Nat
  | 0 => f
  | k + 1 => cl1 k n (clK n f k)

theorem words_cl1 {f : Nat → Nat} (hf : Words f) (k : Nat) : ∀ n, Words (cl1 k n f)
  | 0 => hf
  | i + 1 => by
    have ih := words_cl1 hf k i
    unfold cl1 clS; split
    · exact words_upd ih (or_lt (ih _) (ih _))
    · exact ih

theorem words_clK {f : Nat → Nat} (hf : Words f) (n : Nat) : ∀ k, Words (clK n f k)
  | 0 => hf
  | k + 1 => words_cl1 (words_clK hf n k) k n

theorem wrap_succ {E : Env} {i : Nat} (hi : i < 9223372036854775807) : E.glob.wrap .i64 ((i : Int) + 1) = ((i + 1 : Nat) : Int) := by
  show IntKind.wrap .i64 _ = _
  rw [wrap_i64 (by omega) (by omega)]; omega

theorem Closure_R (hE : rel_Rel_Closure_In E) {n : Nat} (hn : n ≤ 64) {f : Nat → Nat} (hf : Words f) (h : AHeap) : R E 12 [.agg (relL n f)] h = some ([.agg (relL n (clK n f n))], h) := by
  refine R_intro hE.fn ?_
  rw [rel_Rel_Closure_eq, atK_ok (relL_zero n f), asI_ok]
  have outer : Lim (rel_Rel_Closure_F2 (R E) Lim E.glob) (rel_Rel_Closure_s2 n ((0 : Nat) : Int) (relL n (clK n f 0)) zeroL h) = some (.exit 0, rel_Rel_Closure_x2_1 (relL n (clK n f n)) zeroL h) := by
    refine Lim_count (fun k => rel_Rel_Closure_s2 n (k : Int) (relL n (clK n f k)) zeroL h) 0 n (by omega) (fun k _ hk => ?_) (Lim_exit ?_)
    · try dsimp only
      rw [rel_Rel_Closure_r2, if_pos (by simp; omega), atK_ok (relL_zero _ _), asI_ok]
      have inner : Lim (rel_Rel_Closure_F1 (R E) Lim E.glob) (rel_Rel_Closure_s1 k n k n ((0 : Nat) : Int) (relL n (cl1 k 0 (clK n f k))) zeroL h) = some (.exit 2, rel_Rel_Closure_x1_3 n k (relL n (cl1 k n (clK n f k))) zeroL h) := by
        refine Lim_count (fun i => rel_Rel_Closure_s1 k n k n (i : Int) (relL n (cl1 k i (clK n f k))) zeroL h) 0 n (by omega) (fun i _ hi => ?_) (Lim_exit ?_)
        · try dsimp only
          have hw := words_cl1 (words_clK hf n k) k i
          have e1 : (i : Int).toNat = i := by omega
          have e2 : (k : Int).toNat = k := by omega
          have q1 : 0 ≤ (i : Int) ∧ (i : Int) < ((64 : Nat) : Int) := by omega
          have q2 : 0 ≤ (k : Int) ∧ (k : Int) < ((64 : Nat) : Int) := by omega
          rw [rel_Rel_Closure_r1, if_pos (by simp; omega), if_pos q1, e1, e2, Nat.mul_one, Nat.mul_one, atK_ok (relL_row (by omega)), asI_ok, Has_R hE.c17 (hw _), c1_ok, asB_ok, wrap_succ (by omega), hasI_nat (by omega)]
          rw [cl1, clS]
          cases hb : (cl1 k i (clK n f k) i).testBit k with
          | true =>
            simp only [if_true]
            rw [if_pos q1, atK_ok (relL_row (by omega)), asI_ok, if_pos q2, atK_ok (relL_row (by omega)), asI_ok, if_pos q1, g_bor (hw _) (hw _), relL_set, if_pos (by rw [relL_len]; omega)]
          | false => simp only [Bool.false_eq_true, if_false]
        · try dsimp only
          rw [rel_Rel_Closure_r1, if_neg (by simp)]
      have inner' := inner
      simp only [Int.ofNat_zero, Int.natCast_zero] at inner'
      rw [show rel_Rel_Closure_s1 k n k n 0 (relL n (clK n f k)) zeroL h = rel_Rel_Closure_s1 k n k n ((0 : Nat) : Int) (relL n (cl1 k 0 (clK n f k))) zeroL h from rfl, inner, bind_ok, rel_Rel_Closure_e1_3, wrap_succ (by omega)]
      rfl
    · try dsimp only
      rw [rel_Rel_Closure_r2, if_neg (by simp)]
  rw [show rel_Rel_Closure_s2 n 0 (relL n f) ([Cell.int .i64 0] ++ List.replicate 64 (Cell.int .u64 0)) h = rel_Rel_Closure_s2 n ((0 : Nat) : Int) (relL n (clK n f 0)) zeroL h from rfl, outer, bind_ok, rel_Rel_Closure_e2_1]
  simp only [relL_len, zeroL, zero_len, and_self, if_true]

/-- Whether none leads to itself. -/
def acycR (n : Nat) (f : Nat → Nat) : Bool := !(List.range n).any fun i => (clK n f n i).testBit i

theorem Acyclic_R (hE : rel_Rel_Acyclic_In E) {n : Nat} (hn : n ≤ 64) {f : Nat → Nat} (hf : Words f) (h : AHeap) : R E 26 [.agg (relL n f)] h = some ([.c (.bool (acycR n f))], h) := by
  refine R_intro hE.fn ?_
  rw [rel_Rel_Acyclic_eq, if_pos ⟨rfl, relL_len n f⟩, Closure_R hE.c12 hn hf, c1_ok, asA_ok, if_pos ⟨rfl, zero_len, relL_len _ _⟩, atK_ok (relL_zero _ _), asI_ok]
  have hw := words_clK hf n n
  have loop := Lim_any (F := rel_Rel_Acyclic_F1 (R E) Lim E.glob) (fun i => rel_Rel_Acyclic_s1 n (i : Int) (relL n (clK n f n)) h) (fun i => (clK n f n i).testBit i) (.ret, rel_Rel_Acyclic_x1_0 false h) (.exit 0, rel_Rel_Acyclic_x1_1 h) n (fun i hi => by
      try dsimp only
      have q1 : 0 ≤ (i : Int) ∧ (i : Int) < ((64 : Nat) : Int) := by omega
      rw [rel_Rel_Acyclic_r1, if_pos (by simp; omega), if_pos q1, Int.toNat_natCast, Nat.mul_one, atK_ok (relL_row (by omega)), asI_ok, Has_R hE.c17 (hw _), c1_ok, asB_ok, wrap_succ (by omega), hasI_nat (by omega)]) (by simp) (by
      try dsimp only
      rw [rel_Rel_Acyclic_r1, if_neg (by simp)]) (by simp)
  simp only [Int.ofNat_zero, Int.natCast_zero] at loop
  rw [loop, bind_ok]
  unfold acycR
  cases (List.range n).any fun i => (clK n f n i).testBit i with
  | true => simp only [if_true]; rw [rel_Rel_Acyclic_e1_0]; rfl
  | false => simp only [Bool.false_eq_true, if_false]; rw [rel_Rel_Acyclic_e1_1]; rfl

end Jq

/- Relations: what closing is. -/
namespace Jq

/-- A way from one to another whose stops in between are below k. -/
inductive Way (f : Nat → Nat) (k : Nat) : Nat → Nat → Prop
  | one {a b : Nat} : (f a).testBit b = true → Way f k a b
  | step {a c b : Nat} : (f a).testBit c = true → c < k → Way f k c b → Way f k a b

theorem Way.mono {f : Nat → Nat} {k m : Nat} (hkm : k ≤ m) {a b : Nat} (w : Way f k a b) : Way f m a b := by
  induction w with
  | one h => exact .one h
  | step h hc _ ih => exact .step h (by omega) ih

theorem Way.trans {f : Nat → Nat} {k a c b : Nat} (w : Way f k a c) (hc : c < k) (v : Way f k c b) : Way f k a b := by
  induction w with
  | one h => exact .step h hc v
  | step h hc' _ ih => exact .step h hc' (ih hc v)

theorem Way.succ {f : Nat → Nat} {k a b : Nat} : Way f (k + 1) a b ↔ Way f k a b ∨ (Way f k a k ∧ Way f k k b) := by
  constructor
  · intro w
    induction w with
    | one h => exact .inl (.one h)
    | step h hc _ ih =>
      rcases Nat.lt_or_ge _ k with hk | hk
      · rcases ih with ih | ⟨i1, i2⟩
        · exact .inl (.step h hk ih)
        · exact .inr ⟨.step h hk i1, i2⟩
      · have : _ = k := Nat.le_antisymm (Nat.lt_succ_iff.1 hc) hk
        subst this
        rcases ih with ih | ⟨_, i2⟩
        · exact .inr ⟨.one h, ih⟩
        · exact .inr ⟨.one h, i2⟩
  · rintro (w | ⟨w1, w2⟩)
    · exact w.mono (by omega)
    · exact (w1.mono (by omega)).trans (Nat.lt_succ_self k) (w2.mono (by omega))

theorem cl1_eq (f : Nat → Nat) (k : Nat) : ∀ n i, cl1 k n f i = if i < n ∧ (f i).testBit k = true then f i ||| f k else f i := by
  intro n
  induction n with
  | zero => intro i; rw [if_neg (by omega)]; rfl
  | succ n ih =>
    intro i
    have hk : cl1 k n f k = f k := by
      rw [ih]; split
      · exact Nat.or_self _
      · rfl
    rw [cl1, clS]
    by_cases hb : (f n).testBit k = true
    · have hn : cl1 k n f n = f n := by rw [ih, if_neg (by omega)]
      rw [hn, if_pos hb, hk]
      unfold updF
      by_cases hi : i = n
      · subst hi; rw [if_pos rfl, if_pos ⟨by omega, hb⟩]
      · rw [if_neg hi, ih]
        congr 1
        rw [eq_iff_iff]
        exact and_congr_left fun _ => by omega
    · have hn : cl1 k n f n = f n := by rw [ih, if_neg (by omega)]
      rw [hn, if_neg hb, ih]
      by_cases hi : i = n
      · subst hi; rw [if_neg (by omega), if_neg (fun h => hb h.2)]
      · congr 1
        rw [eq_iff_iff]
        exact and_congr_left fun _ => by omega

/-- CLOSED, one leads to another just if there is a way. -/
theorem clK_way (n : Nat) (f : Nat → Nat) : ∀ k, k ≤ n → ∀ a b, a < n → ((clK n f k a).testBit b = true ↔ Way f k a b) := by
  intro k
  induction k with
  | zero =>
    intro _ a b _
    constructor
    · exact fun h => .one h
    · intro w
      cases w with
      | one h => exact h
      | step _ hc _ => omega
  | succ k ih =>
    intro hk a b ha
    have ih' := ih (by omega)
    rw [clK, cl1_eq, Way.succ, ← ih' a b ha, ← ih' a k ha, ← ih' k b (by omega)]
    by_cases hb : (clK n f k a).testBit k = true
    · rw [if_pos ⟨ha, hb⟩, Nat.testBit_or, Bool.or_eq_true]; simp [hb]
    · rw [if_neg (fun h => hb h.2)]; simp [hb]

theorem acycR_iff (n : Nat) (f : Nat → Nat) : acycR n f = true ↔ ∀ a, a < n → ¬ Way f n a a := by
  unfold acycR
  rw [Bool.not_eq_true', ← Bool.not_eq_true, List.any_eq_true]
  simp only [List.mem_range, not_exists, not_and]
  exact forall_congr' fun a => imp_congr_right fun ha => by rw [clK_way n f n (Nat.le_refl _) a a ha]

end Jq

namespace Jq
open Go

/- jacquard/jacquardlaw8.Of: 1 -/
def jacquardlaw8_Of_k2 (C : CallF) (L : LoopF) (G : Glo) (h0 : AHeap) : Ex → St → Option (List AV × AHeap) :=
  kSeq (fun st => jacquardlaw8_Of_p1.exec C L G st (jacquardlaw8_Of.fin G h0)) (jacquardlaw8_Of.fin G h0)
def jacquardlaw8_Of_k3 (C : CallF) (L : LoopF) (G : Glo) (h0 : AHeap) : Ex → St → Option (List AV × AHeap) :=
  kBlk 0 (jacquardlaw8_Of_k2 C L G h0)
def jacquardlaw8_Of_s1 (x1 : Cell) (k7 : Nat) (N7 : Nat) (o7 : Nat) (a8 : Int) (s0 : List Cell) (s1 : List Cell) (s2 : List Cell) (h : AHeap) : St := ⟨[.top, .v (.c x1), .top, .top, .loc 0 0, .loc 1 0, .loc 2 0, .v (.c (.ptr k7 N7 o7)), .v (.c (.int .i64 a8)), .top, .top, .top, .top, .top, .top, .top, .top, .top, .top, .top, .top, .top, .top, .top, .top, .top, .top, .top, .top, .top, .top, .top, .top, .top, .top, .top, .top, .top, .top, .top, .top, .top, .top, .top, .top, .top, .top, .top, .top, .top, .top, .top, .top, .top, .top, .top, .top, .top, .top, .top, .top, .top, .top, .top], [some s0, some s1, some s2], h⟩
def jacquardlaw8_Of_F1 (C : CallF) (L : LoopF) (G : Glo) : St → Option (Ex × St) :=
  roundF (fun st f => jacquardlaw8_Of_b1.exec C L G st f) [1, 4, 5, 6, 7, 8] [0, 1, 2] [(1, [4, 5, 6, 7], [0, 1, 2])]
def jacquardlaw8_Of_x1_1 (k7 : Nat) (N7 : Nat) (o7 : Nat) (s0 : List Cell) (s1 : List Cell) (s2 : List Cell) (h : AHeap) : St := ⟨[.top, .top, .top, .top, .loc 0 0, .loc 1 0, .loc 2 0, .v (.c (.ptr k7 N7 o7)), .top, .top, .top, .top, .top, .top, .top, .top, .top, .top, .top, .top, .top, .top, .top, .top, .top, .top, .top, .top, .top, .top, .top, .top, .top, .top, .top, .top, .top, .top, .top, .top, .top, .top, .top, .top, .top, .top, .top, .top, .top, .top, .top, .top, .top, .top, .top, .top, .top, .top, .top, .top, .top, .top, .top, .top], [some s0, some s1, some s2], h⟩
theorem jacquardlaw8_Of_r1 (C : CallF) (L : LoopF) (G : Glo) (x1 : Cell) (k7 : Nat) (N7 : Nat) (o7 : Nat) (a8 : Int) (s0 : List Cell) (s1 : List Cell) (s2 : List Cell) (h : AHeap) :
    jacquardlaw8_Of_F1 C L G (jacquardlaw8_Of_s1 x1 k7 N7 o7 a8 s0 s1 s2 h) =
    lenK x1 fun n_7 => scK (decide (a8 < n_7)) true (some ((decide (a8 < 200)), h)) false h fun b_8 h_9 => if b_8 = true then idxSK 2 x1 a8 fun k_10 N_11 o_12 => rdH h_9 k_10 N_11 fun l_13 => atK l_13 (o_12 + 0) fun q_14 => asI .i64 (.c q_14) fun n_15 => idxSK 2 x1 a8 fun k_16 N_17 o_18 => rdH h_9 k_16 N_17 fun l_19 => atK l_19 (o_18 + 1) fun q_20 => asI .i64 (.c q_20) fun n_21 => if 0 = 0 ∧ s2.length = 65 then c1 (C 10 [(.agg s2), (.c (.int .i64 n_15)), (.c (.int .i64 n_21))] h_9) fun y_23 h_22 => asA y_23 fun l_24 => if 0 = 0 ∧ s2.length = 65 ∧ l_24.length = 65 then scK (decide (n_15 ≥ 0)) true (rdH h_22 k7 N7 fun l_25 => atK l_25 (o7 + 0) fun q_26 => asI .i64 (.c q_26) fun n_27 => some ((decide (n_15 < n_27)), h_22)) false h_22 fun b_28 h_29 => scK b_28 true (some ((decide (n_21 ≥ 0)), h_29)) false h_29 fun b_30 h_31 => scK b_30 true (rdH h_31 k7 N7 fun l_32 => atK l_32 (o7 + 0) fun q_33 => asI .i64 (.c q_33) fun n_34 => some ((decide (n_21 < n_34)), h_31)) false h_31 fun b_35 h_36 => if b_35 = true then c0 (C 13 [(.c (.ptr k7 N7 o7)), (.c (.int .i64 n_15)), (.c (.int .i64 n_21))] h_36) fun h_37 => some (.normal, (jacquardlaw8_Of_s1 x1 k7 N7 o7 (G.wrap .i64 (a8 + 1)) s0 s1 l_24 h_37)) else some (.normal, (jacquardlaw8_Of_s1 x1 k7 N7 o7 (G.wrap .i64 (a8 + 1)) s0 s1 l_24 h_36)) else none else none else some ((.exit 0), (jacquardlaw8_Of_x1_1 k7 N7 o7 s0 s1 s2 h_9)) := by kernel_rfl
theorem jacquardlaw8_Of_e1_1 (C : CallF) (L : LoopF) (G : Glo) (h0 : AHeap) (k7 : Nat) (N7 : Nat) (o7 : Nat) (s0 : List Cell) (s1 : List Cell) (s2 : List Cell) (h : AHeap) :
    (jacquardlaw8_Of_k3 C L G h0) (.exit 0) (jacquardlaw8_Of_x1_1 k7 N7 o7 s0 s1 s2 h) =
    if 0 = 0 ∧ s2.length = 65 then rdH h k7 N7 fun l_38 => if o7 = 0 ∧ l_38.length = 65 then if 0 = 0 ∧ s0.length = 65 ∧ s2.length = 65 then if 0 = 0 ∧ s1.length = 65 ∧ l_38.length = 65 then if 0 = 0 ∧ s2.length = 65 then if 0 = 0 ∧ l_38.length = 65 then finish true h0 [(.agg s2), (.agg l_38)] h else none else none else none else none else none else none := by kernel_rfl
set_option maxRecDepth 100000 in
theorem jacquardlaw8_Of_eq (C : CallF) (L : LoopF) (G : Glo) (a0 : Int) (x1 : Cell) (h0 : AHeap) :
    jacquardlaw8_Of.body C L G [(.c (.int .i64 a0)), (.c x1)] h0 =
    c1 (C 9 [(.c (.int .i64 a0))] h0) fun y_2 h_1 => asA y_2 fun l_3 => if 0 = 0 ∧ ([Cell.int .i64 0] ++ List.replicate 64 (Cell.int .u64 0)).length = 65 ∧ l_3.length = 65 then let v_4 : Int := (if 64 < (if 0 > a0 then 0 else a0) then 64 else (if 0 > a0 then 0 else a0)); rdH (h_1 ++ [some (Blk.mk true 0 ([Cell.int .i64 0] ++ List.replicate 64 (Cell.int .u64 0)))]) h_1.length (([Cell.int .i64 0] ++ List.replicate 64 (Cell.int .u64 0)).length) fun l_5 => if 0 = 0 ∧ l_5.length = 65 ∧ (splice ([Cell.int .i64 0] ++ List.replicate 64 (Cell.int .u64 0)) 0 ([(.int .i64 v_4)] : List Cell)).length = 65 then putH (h_1 ++ [some (Blk.mk true 0 ([Cell.int .i64 0] ++ List.replicate 64 (Cell.int .u64 0)))]) h_1.length (splice ([Cell.int .i64 0] ++ List.replicate 64 (Cell.int .u64 0)) 0 ([(.int .i64 v_4)] : List Cell)) fun h_6 => (L (jacquardlaw8_Of_F1 C L G) (jacquardlaw8_Of_s1 x1 h_1.length (([Cell.int .i64 0] ++ List.replicate 64 (Cell.int .u64 0)).length) 0 0 ([Cell.int .i64 0] ++ List.replicate 64 (Cell.int .u64 0)) ([Cell.int .i64 0] ++ List.replicate 64 (Cell.int .u64 0)) l_3 h_6)).bind fun p_39 => (jacquardlaw8_Of_k3 C L G h0) p_39.1 p_39.2 else none else none := by kernel_rfl

/- jacquard/jacquardlaw8.awake: 55 -/
set_option maxRecDepth 100000 in
theorem jacquardlaw8_awake_eq (C : CallF) (L : LoopF) (G : Glo)  (h0 : AHeap) :
    jacquardlaw8_awake.body C L G [] h0 =
    c1 (C 9 [(.c (.int .i64 3))] h0) fun y_2 h_1 => asA y_2 fun l_3 => c1 (C 10 [(.agg l_3), (.c (.int .i64 0)), (.c (.int .i64 1))] h_1) fun y_5 h_4 => asA y_5 fun l_6 => c1 (C 10 [(.agg l_6), (.c (.int .i64 1)), (.c (.int .i64 2))] h_4) fun y_8 h_7 => asA y_8 fun l_9 => if 0 = 0 ∧ ([Cell.int .i64 0] ++ List.replicate 64 (Cell.int .u64 0)).length = 65 ∧ l_9.length = 65 then if 0 = 0 ∧ l_9.length = 65 then c1 (C 12 [(.agg l_9)] h_7) fun y_11 h_10 => asA y_11 fun l_12 => c1 (C 3 [(.agg l_12), (.c (.int .i64 0)), (.c (.int .i64 2))] h_10) fun y_14 h_13 => asB y_14 fun b_15 => scK b_15 true (if 0 = 0 ∧ l_9.length = 65 then c1 (C 3 [(.agg l_9), (.c (.int .i64 0)), (.c (.int .i64 2))] h_13) fun y_17 h_16 => asB y_17 fun b_18 => some ((!b_18), h_16) else none) false h_13 fun b_19 h_20 => scK b_19 true (if 0 = 0 ∧ l_9.length = 65 then c1 (C 26 [(.agg l_9)] h_20) fun y_22 h_21 => asB y_22 fun b_23 => some (b_23, h_21) else none) false h_20 fun b_24 h_25 => scK b_24 true (if 0 = 0 ∧ l_9.length = 65 then c1 (C 10 [(.agg l_9), (.c (.int .i64 2)), (.c (.int .i64 0))] h_25) fun y_27 h_26 => asA y_27 fun l_28 => c1 (C 26 [(.agg l_28)] h_26) fun y_30 h_29 => asB y_30 fun b_31 => some ((!b_31), h_29) else none) false h_25 fun b_32 h_33 => scK b_32 true (if 0 = 0 ∧ l_9.length = 65 then c1 (C 14 [(.agg l_9)] h_33) fun y_35 h_34 => asI .i64 y_35 fun n_36 => some ((n_36 == 3), h_34) else none) false h_33 fun b_37 h_38 => some ([(.c (.bool b_37))], h_38) else none else none := by kernel_rfl

/- jacquard/jacquardlaw8.Same: 69 -/
def jacquardlaw8_Same_k2 (C : CallF) (L : LoopF) (G : Glo) (h0 : AHeap) : Ex → St → Option (List AV × AHeap) :=
  kSeq (fun st => jacquardlaw8_Same_p1.exec C L G st (jacquardlaw8_Same.fin G h0)) (jacquardlaw8_Same.fin G h0)
def jacquardlaw8_Same_k3 (C : CallF) (L : LoopF) (G : Glo) (h0 : AHeap) : Ex → St → Option (List AV × AHeap) :=
  kBlk 0 (jacquardlaw8_Same_k2 C L G h0)
def jacquardlaw8_Same_s1 (a5 : Int) (s0 : List Cell) (s1 : List Cell) (h : AHeap) : St := ⟨[.top, .top, .loc 0 0, .loc 1 0, .top, .v (.c (.int .i64 a5)), .top, .top, .top, .top, .top, .top, .top, .top, .top, .top, .top, .top, .top, .top, .top, .top, .top], [some s0, some s1], h⟩
def jacquardlaw8_Same_F1 (C : CallF) (L : LoopF) (G : Glo) : St → Option (Ex × St) :=
  roundF (fun st f => jacquardlaw8_Same_b1.exec C L G st f) [2, 3, 5] [0, 1] [(0, [4], []), (1, [], [])]
def jacquardlaw8_Same_x1_0 (b4 : Bool) (h : AHeap) : St := ⟨[.top, .top, .top, .top, .v (.c (.bool b4)), .top, .top, .top, .top, .top, .top, .top, .top, .top, .top, .top, .top, .top, .top, .top, .top, .top, .top], [none, none], h⟩
def jacquardlaw8_Same_x1_1 (h : AHeap) : St := ⟨[.top, .top, .top, .top, .top, .top, .top, .top, .top, .top, .top, .top, .top, .top, .top, .top, .top, .top, .top, .top, .top, .top, .top], [none, none], h⟩
theorem jacquardlaw8_Same_r1 (C : CallF) (L : LoopF) (G : Glo) (a5 : Int) (s0 : List Cell) (s1 : List Cell) (h : AHeap) :
    jacquardlaw8_Same_F1 C L G (jacquardlaw8_Same_s1 a5 s0 s1 h) =
    if (decide (a5 < 64)) = true then if 0 = 0 ∧ s0.length = 65 then c1 (qh h (C 41 [(.agg s0), (.c (.int .i64 a5))] h)) fun y_7 h_6 => asI .u64 y_7 fun n_8 => if 0 ≤ a5 ∧ a5 < ((64 : Nat) : Int) then atK s1 (1 + ((Int.toNat a5) * 1)) fun q_9 => asI .u64 (.c q_9) fun n_10 => if (n_8 != n_10) = true then some (.ret, (jacquardlaw8_Same_x1_0 false h)) else some (.normal, (jacquardlaw8_Same_s1 (G.wrap .i64 (a5 + 1)) s0 s1 h)) else none else none else some ((.exit 0), (jacquardlaw8_Same_x1_1 h)) := by kernel_rfl
theorem jacquardlaw8_Same_e1_0 (C : CallF) (L : LoopF) (G : Glo) (h0 : AHeap) (b4 : Bool) (h : AHeap) :
    (jacquardlaw8_Same_k3 C L G h0) .ret (jacquardlaw8_Same_x1_0 b4 h) =
    some ([(.c (.bool b4))], h) := by kernel_rfl
theorem jacquardlaw8_Same_e1_1 (C : CallF) (L : LoopF) (G : Glo) (h0 : AHeap) (h : AHeap) :
    (jacquardlaw8_Same_k3 C L G h0) (.exit 0) (jacquardlaw8_Same_x1_1 h) =
    some ([(.c (.bool true))], h) := by kernel_rfl
set_option maxRecDepth 100000 in
theorem jacquardlaw8_Same_eq (C : CallF) (L : LoopF) (G : Glo) (l0 : List Cell) (l1 : List Cell) (h0 : AHeap) :
    jacquardlaw8_Same.body C L G [(.agg l0), (.agg l1)] h0 =
    if 0 = 0 ∧ l0.length = 65 then c1 (qh h0 (C 14 [(.agg l0)] h0)) fun y_2 h_1 => asI .i64 y_2 fun n_3 => atK l1 0 fun q_4 => asI .i64 (.c q_4) fun n_5 => if (n_3 != n_5) = true then some ([(.c (.bool false))], h0) else (L (jacquardlaw8_Same_F1 C L G) (jacquardlaw8_Same_s1 0 l0 l1 h0)).bind fun p_11 => (jacquardlaw8_Same_k3 C L G h0) p_11.1 p_11.2 else none := by kernel_rfl

/- jacquard/jacquardlaw8.cut: 70 -/
def jacquardlaw8_cut_k2 (C : CallF) (L : LoopF) (G : Glo) (h0 : AHeap) : Ex → St → Option (List AV × AHeap) :=
  kSeq (fun st => jacquardlaw8_cut_p1.exec C L G st (jacquardlaw8_cut.fin G h0)) (jacquardlaw8_cut.fin G h0)
def jacquardlaw8_cut_k3 (C : CallF) (L : LoopF) (G : Glo) (h0 : AHeap) : Ex → St → Option (List AV × AHeap) :=
  kBlk 0 (jacquardlaw8_cut_k2 C L G h0)
def jacquardlaw8_cut_s2 (k2 : Nat) (N2 : Nat) (o2 : Nat) (k5 : Nat) (N5 : Nat) (o5 : Nat) (a6 : Int) (s0 : List Cell) (h : AHeap) : St := ⟨[.top, .top, .v (.c (.ptr k2 N2 o2)), .top, .loc 0 0, .v (.c (.ptr k5 N5 o5)), .v (.c (.int .i64 a6)), .top, .top, .top, .top, .top, .top, .top, .top, .top, .top, .top, .top, .top, .top, .top, .top, .top, .top, .top, .top, .top, .top, .top, .top, .top], [some s0], h⟩
def jacquardlaw8_cut_F2 (C : CallF) (L : LoopF) (G : Glo) : St → Option (Ex × St) :=
  roundF (fun st f => jacquardlaw8_cut_b2.exec C L G st f) [2, 4, 5, 6] [0] [(1, [4, 5], [0])]
def jacquardlaw8_cut_k4 (C : CallF) (L : LoopF) (G : Glo) : Ex → St → Option (Ex × St) :=
  kSeq (fun st => jacquardlaw8_cut_p2.exec C L G st (kLoop [2, 4, 5, 6] [0] [(1, [4, 5], [0])])) (kLoop [2, 4, 5, 6] [0] [(1, [4, 5], [0])])
def jacquardlaw8_cut_k5 (C : CallF) (L : LoopF) (G : Glo) : Ex → St → Option (Ex × St) :=
  kBlk 1 (jacquardlaw8_cut_k4 C L G)
def jacquardlaw8_cut_k6 (C : CallF) (L : LoopF) (G : Glo) : Ex → St → Option (Ex × St) :=
  kBlk 2 (jacquardlaw8_cut_k5 C L G)
def jacquardlaw8_cut_s1 (k2 : Nat) (N2 : Nat) (o2 : Nat) (k5 : Nat) (N5 : Nat) (o5 : Nat) (a6 : Int) (a7 : Int) (s0 : List Cell) (h : AHeap) : St := ⟨[.top, .top, .v (.c (.ptr k2 N2 o2)), .top, .loc 0 0, .v (.c (.ptr k5 N5 o5)), .v (.c (.int .i64 a6)), .v (.c (.int .i64 a7)), .top, .top, .top, .top, .top, .top, .top, .top, .top, .top, .top, .top, .top, .top, .top, .top, .top, .top, .top, .top, .top, .top, .top, .top], [some s0], h⟩
def jacquardlaw8_cut_F1 (C : CallF) (L : LoopF) (G : Glo) : St → Option (Ex × St) :=
  roundF (fun st f => jacquardlaw8_cut_b1.exec C L G st f) [2, 4, 5, 6, 7] [0] [(3, [2, 4, 5, 6], [0])]
def jacquardlaw8_cut_x1_3 (k2 : Nat) (N2 : Nat) (o2 : Nat) (k5 : Nat) (N5 : Nat) (o5 : Nat) (a6 : Int) (s0 : List Cell) (h : AHeap) : St := ⟨[.top, .top, .v (.c (.ptr k2 N2 o2)), .top, .loc 0 0, .v (.c (.ptr k5 N5 o5)), .v (.c (.int .i64 a6)), .top, .top, .top, .top, .top, .top, .top, .top, .top, .top, .top, .top, .top, .top, .top, .top, .top, .top, .top, .top, .top, .top, .top, .top, .top], [some s0], h⟩
def jacquardlaw8_cut_x2_1 (k5 : Nat) (N5 : Nat) (o5 : Nat) (s0 : List Cell) (h : AHeap) : St := ⟨[.top, .top, .top, .top, .loc 0 0, .v (.c (.ptr k5 N5 o5)), .top, .top, .top, .top, .top, .top, .top, .top, .top, .top, .top, .top, .top, .top, .top, .top, .top, .top, .top, .top, .top, .top, .top, .top, .top, .top], [some s0], h⟩
theorem jacquardlaw8_cut_r1 (C : CallF) (L : LoopF) (G : Glo) (k2 : Nat) (N2 : Nat) (o2 : Nat) (k5 : Nat) (N5 : Nat) (o5 : Nat) (a6 : Int) (a7 : Int) (s0 : List Cell) (h : AHeap) :
    jacquardlaw8_cut_F1 C L G (jacquardlaw8_cut_s1 k2 N2 o2 k5 N5 o5 a6 a7 s0 h) =
    rdH h k5 N5 fun l_9 => atK l_9 (o5 + 0) fun q_10 => asI .i64 (.c q_10) fun n_11 => if (decide (a7 < n_11)) = true then c1 (C 7 [(.c (.ptr k2 N2 o2)), (.c (.int .i64 a6)), (.c (.int .i64 a7))] h) fun y_13 h_12 => asB y_13 fun b_14 => if b_14 = true then c0 (C 13 [(.c (.ptr k5 N5 o5)), (.c (.int .i64 a6)), (.c (.int .i64 a7))] h_12) fun h_15 => some (.normal, (jacquardlaw8_cut_s1 k2 N2 o2 k5 N5 o5 a6 (G.wrap .i64 (a7 + 1)) s0 h_15)) else some (.normal, (jacquardlaw8_cut_s1 k2 N2 o2 k5 N5 o5 a6 (G.wrap .i64 (a7 + 1)) s0 h_12)) else some ((.exit 2), (jacquardlaw8_cut_x1_3 k2 N2 o2 k5 N5 o5 a6 s0 h)) := by kernel_rfl
theorem jacquardlaw8_cut_e1_3 (C : CallF) (L : LoopF) (G : Glo) (k2 : Nat) (N2 : Nat) (o2 : Nat) (k5 : Nat) (N5 : Nat) (o5 : Nat) (a6 : Int) (s0 : List Cell) (h : AHeap) :
    (jacquardlaw8_cut_k6 C L G) (.exit 2) (jacquardlaw8_cut_x1_3 k2 N2 o2 k5 N5 o5 a6 s0 h) =
    some (.normal, (jacquardlaw8_cut_s2 k2 N2 o2 k5 N5 o5 (G.wrap .i64 (a6 + 1)) s0 h)) := by kernel_rfl
theorem jacquardlaw8_cut_r2 (C : CallF) (L : LoopF) (G : Glo) (k2 : Nat) (N2 : Nat) (o2 : Nat) (k5 : Nat) (N5 : Nat) (o5 : Nat) (a6 : Int) (s0 : List Cell) (h : AHeap) :
    jacquardlaw8_cut_F2 C L G (jacquardlaw8_cut_s2 k2 N2 o2 k5 N5 o5 a6 s0 h) =
    rdH h k5 N5 fun l_6 => atK l_6 (o5 + 0) fun q_7 => asI .i64 (.c q_7) fun n_8 => if (decide (a6 < n_8)) = true then (L (jacquardlaw8_cut_F1 C L G) (jacquardlaw8_cut_s1 k2 N2 o2 k5 N5 o5 a6 0 s0 h)).bind fun p_16 => (jacquardlaw8_cut_k6 C L G) p_16.1 p_16.2 else some ((.exit 0), (jacquardlaw8_cut_x2_1 k5 N5 o5 s0 h)) := by kernel_rfl
theorem jacquardlaw8_cut_e2_1 (C : CallF) (L : LoopF) (G : Glo) (h0 : AHeap) (k5 : Nat) (N5 : Nat) (o5 : Nat) (s0 : List Cell) (h : AHeap) :
    (jacquardlaw8_cut_k3 C L G h0) (.exit 0) (jacquardlaw8_cut_x2_1 k5 N5 o5 s0 h) =
    rdH h k5 N5 fun l_17 => if o5 = 0 ∧ l_17.length = 65 then if 0 = 0 ∧ s0.length = 65 ∧ l_17.length = 65 then if 0 = 0 ∧ l_17.length = 65 then finish true h0 [(.agg l_17)] h else none else none else none := by kernel_rfl
set_option maxRecDepth 100000 in
theorem jacquardlaw8_cut_eq (C : CallF) (L : LoopF) (G : Glo) (l0 : List Cell) (a1 : Int) (h0 : AHeap) :
    jacquardlaw8_cut.body C L G [(.agg l0), (.c (.int .i64 a1))] h0 =
    rdH (h0 ++ [some (Blk.mk true 0 (AV.cells (.agg l0)))]) h0.length ((AV.cells (.agg l0)).length) fun l_1 => atK l_1 0 fun q_2 => asI .i64 (.c q_2) fun n_3 => rdH ((h0 ++ [some (Blk.mk true 0 (AV.cells (.agg l0)))]) ++ [some (Blk.mk true 0 ([Cell.int .i64 0] ++ List.replicate 64 (Cell.int .u64 0)))]) ((h0 ++ [some (Blk.mk true 0 (AV.cells (.agg l0)))]).length) (([Cell.int .i64 0] ++ List.replicate 64 (Cell.int .u64 0)).length) fun l_4 => if 0 = 0 ∧ l_4.length = 65 ∧ (splice ([Cell.int .i64 0] ++ List.replicate 64 (Cell.int .u64 0)) 0 ([(.int .i64 (if a1 < n_3 then a1 else n_3))] : List Cell)).length = 65 then putH ((h0 ++ [some (Blk.mk true 0 (AV.cells (.agg l0)))]) ++ [some (Blk.mk true 0 ([Cell.int .i64 0] ++ List.replicate 64 (Cell.int .u64 0)))]) ((h0 ++ [some (Blk.mk true 0 (AV.cells (.agg l0)))]).length) (splice ([Cell.int .i64 0] ++ List.replicate 64 (Cell.int .u64 0)) 0 ([(.int .i64 (if a1 < n_3 then a1 else n_3))] : List Cell)) fun h_5 => (L (jacquardlaw8_cut_F2 C L G) (jacquardlaw8_cut_s2 h0.length ((AV.cells (.agg l0)).length) 0 ((h0 ++ [some (Blk.mk true 0 (AV.cells (.agg l0)))]).length) (([Cell.int .i64 0] ++ List.replicate 64 (Cell.int .u64 0)).length) 0 0 ([Cell.int .i64 0] ++ List.replicate 64 (Cell.int .u64 0)) h_5)).bind fun p_18 => (jacquardlaw8_cut_k3 C L G h0) p_18.1 p_18.2 else none := by kernel_rfl

/- jacquard/jacquardlaw8.RelPairs: 240 -/
def jacquardlaw8_RelPairs_k2 (C : CallF) (L : LoopF) (G : Glo) (h0 : AHeap) : Ex → St → Option (List AV × AHeap) :=
  kSeq (fun st => jacquardlaw8_RelPairs_p1.exec C L G st (jacquardlaw8_RelPairs.fin G h0)) (jacquardlaw8_RelPairs.fin G h0)
def jacquardlaw8_RelPairs_k3 (C : CallF) (L : LoopF) (G : Glo) (h0 : AHeap) : Ex → St → Option (List AV × AHeap) :=
  kBlk 0 (jacquardlaw8_RelPairs_k2 C L G h0)
def jacquardlaw8_RelPairs_s2 (a0 : Int) (k6 : Nat) (N6 : Nat) (o6 : Nat) (x7 : Cell) (a8 : Int) (a9 : Int) (s0 : List Cell) (h : AHeap) : St := ⟨[.v (.c (.int .i64 a0)), .top, .top, .top, .top, .loc 0 0, .v (.c (.ptr k6 N6 o6)), .v (.c x7), .v (.c (.int .i64 a8)), .v (.c (.int .i64 a9)), .top, .top, .top, .top, .top, .top, .top, .top, .top, .top, .top, .top, .top, .top, .top, .top, .top, .top, .top, .top, .top, .top, .top, .top, .top, .top, .top, .top, .top, .top, .top, .top, .top, .top, .top, .top, .top, .top, .top, .top, .top, .top, .top, .top, .top, .top, .top, .top, .top, .top, .top, .top, .top, .top, .top, .top, .top, .top, .top, .top, .top, .top, .top, .top, .top, .top, .top, .top, .top, .top, .top, .top, .top, .top, .top, .top, .top, .top, .top, .top, .top, .top, .top, .top, .top, .top, .top, .top, .top, .top, .top, .top, .top, .top], [some s0, none, none], h⟩
def jacquardlaw8_RelPairs_F2 (C : CallF) (L : LoopF) (G : Glo) : St → Option (Ex × St) :=
  roundF (fun st f => jacquardlaw8_RelPairs_b2.exec C L G st f) [0, 5, 6, 7, 8, 9] [0] [(0, [4], []), (1, [0, 5, 7, 8], [0])]
def jacquardlaw8_RelPairs_k4 (C : CallF) (L : LoopF) (G : Glo) : Ex → St → Option (Ex × St) :=
  kSeq (fun st => jacquardlaw8_RelPairs_p2.exec C L G st (kLoop [0, 5, 6, 7, 8, 9] [0] [(0, [4], []), (1, [0, 5, 7, 8], [0])])) (kLoop [0, 5, 6, 7, 8, 9] [0] [(0, [4], []), (1, [0, 5, 7, 8], [0])])
def jacquardlaw8_RelPairs_k5 (C : CallF) (L : LoopF) (G : Glo) : Ex → St → Option (Ex × St) :=
  kBlk 1 (jacquardlaw8_RelPairs_k4 C L G)
def jacquardlaw8_RelPairs_k6 (C : CallF) (L : LoopF) (G : Glo) : Ex → St → Option (Ex × St) :=
  kBlk 2 (jacquardlaw8_RelPairs_k5 C L G)
def jacquardlaw8_RelPairs_s1 (a0 : Int) (k6 : Nat) (N6 : Nat) (o6 : Nat) (x7 : Cell) (a8 : Int) (a9 : Int) (a10 : Int) (s0 : List Cell) (h : AHeap) : St := ⟨[.v (.c (.int .i64 a0)), .top, .top, .top, .top, .loc 0 0, .v (.c (.ptr k6 N6 o6)), .v (.c x7), .v (.c (.int .i64 a8)), .v (.c (.int .i64 a9)), .v (.c (.int .i64 a10)), .top, .top, .top, .top, .top, .top, .top, .top, .top, .top, .top, .top, .top, .top, .top, .top, .top, .top, .top, .top, .top, .top, .top, .top, .top, .top, .top, .top, .top, .top, .top, .top, .top, .top, .top, .top, .top, .top, .top, .top, .top, .top, .top, .top, .top, .top, .top, .top, .top, .top, .top, .top, .top, .top, .top, .top, .top, .top, .top, .top, .top, .top, .top, .top, .top, .top, .top, .top, .top, .top, .top, .top, .top, .top, .top, .top, .top, .top, .top, .top, .top, .top, .top, .top, .top, .top, .top, .top, .top, .top, .top, .top, .top], [some s0, none, none], h⟩
def jacquardlaw8_RelPairs_F1 (C : CallF) (L : LoopF) (G : Glo) : St → Option (Ex × St) :=
  roundF (fun st f => jacquardlaw8_RelPairs_b1.exec C L G st f) [0, 5, 6, 7, 8, 9, 10] [0] [(0, [4], []), (3, [0, 5, 6, 7, 8, 9], [0])]
def jacquardlaw8_RelPairs_x1_0 (b4 : Bool) (h : AHeap) : St := ⟨[.top, .top, .top, .top, .v (.c (.bool b4)), .top, .top, .top, .top, .top, .top, .top, .top, .top, .top, .top, .top, .top, .top, .top, .top, .top, .top, .top, .top, .top, .top, .top, .top, .top, .top, .top, .top, .top, .top, .top, .top, .top, .top, .top, .top, .top, .top, .top, .top, .top, .top, .top, .top, .top, .top, .top, .top, .top, .top, .top, .top, .top, .top, .top, .top, .top, .top, .top, .top, .top, .top, .top, .top, .top, .top, .top, .top, .top, .top, .top, .top, .top, .top, .top, .top, .top, .top, .top, .top, .top, .top, .top, .top, .top, .top, .top, .top, .top, .top, .top, .top, .top, .top, .top, .top, .top, .top, .top], [none, none, none], h⟩
def jacquardlaw8_RelPairs_x1_3 (a0 : Int) (k6 : Nat) (N6 : Nat) (o6 : Nat) (x7 : Cell) (a8 : Int) (a9 : Int) (s0 : List Cell) (h : AHeap) : St := ⟨[.v (.c (.int .i64 a0)), .top, .top, .top, .top, .loc 0 0, .v (.c (.ptr k6 N6 o6)), .v (.c x7), .v (.c (.int .i64 a8)), .v (.c (.int .i64 a9)), .top, .top, .top, .top, .top, .top, .top, .top, .top, .top, .top, .top, .top, .top, .top, .top, .top, .top, .top, .top, .top, .top, .top, .top, .top, .top, .top, .top, .top, .top, .top, .top, .top, .top, .top, .top, .top, .top, .top, .top, .top, .top, .top, .top, .top, .top, .top, .top, .top, .top, .top, .top, .top, .top, .top, .top, .top, .top, .top, .top, .top, .top, .top, .top, .top, .top, .top, .top, .top, .top, .top, .top, .top, .top, .top, .top, .top, .top, .top, .top, .top, .top, .top, .top, .top, .top, .top, .top, .top, .top, .top, .top, .top, .top], [some s0, none, none], h⟩
def jacquardlaw8_RelPairs_x2_0 (b4 : Bool) (h : AHeap) : St := ⟨[.top, .top, .top, .top, .v (.c (.bool b4)), .top, .top, .top, .top, .top, .top, .top, .top, .top, .top, .top, .top, .top, .top, .top, .top, .top, .top, .top, .top, .top, .top, .top, .top, .top, .top, .top, .top, .top, .top, .top, .top, .top, .top, .top, .top, .top, .top, .top, .top, .top, .top, .top, .top, .top, .top, .top, .top, .top, .top, .top, .top, .top, .top, .top, .top, .top, .top, .top, .top, .top, .top, .top, .top, .top, .top, .top, .top, .top, .top, .top, .top, .top, .top, .top, .top, .top, .top, .top, .top, .top, .top, .top, .top, .top, .top, .top, .top, .top, .top, .top, .top, .top, .top, .top, .top, .top, .top, .top], [none, none, none], h⟩
def jacquardlaw8_RelPairs_x2_1 (a0 : Int) (x7 : Cell) (a8 : Int) (s0 : List Cell) (h : AHeap) : St := ⟨[.v (.c (.int .i64 a0)), .top, .top, .top, .top, .loc 0 0, .top, .v (.c x7), .v (.c (.int .i64 a8)), .top, .top, .top, .top, .top, .top, .top, .top, .top, .top, .top, .top, .top, .top, .top, .top, .top, .top, .top, .top, .top, .top, .top, .top, .top, .top, .top, .top, .top, .top, .top, .top, .top, .top, .top, .top, .top, .top, .top, .top, .top, .top, .top, .top, .top, .top, .top, .top, .top, .top, .top, .top, .top, .top, .top, .top, .top, .top, .top, .top, .top, .top, .top, .top, .top, .top, .top, .top, .top, .top, .top, .top, .top, .top, .top, .top, .top, .top, .top, .top, .top, .top, .top, .top, .top, .top, .top, .top, .top, .top, .top, .top, .top, .top, .top], [some s0, none, none], h⟩
theorem jacquardlaw8_RelPairs_r1 (C : CallF) (L : LoopF) (G : Glo) (a0 : Int) (k6 : Nat) (N6 : Nat) (o6 : Nat) (x7 : Cell) (a8 : Int) (a9 : Int) (a10 : Int) (s0 : List Cell) (h : AHeap) :
    jacquardlaw8_RelPairs_F1 C L G (jacquardlaw8_RelPairs_s1 a0 k6 N6 o6 x7 a8 a9 a10 s0 h) =
    if (decide (a10 < a0)) = true then if 0 = 0 ∧ s0.length = 65 then c1 (C 3 [(.agg s0), (.c (.int .i64 a9)), (.c (.int .i64 a10))] h) fun y_13 h_12 => asB y_13 fun b_14 => c1 (C 7 [(.c (.ptr k6 N6 o6)), (.c (.int .i64 a9)), (.c (.int .i64 a10))] h_12) fun y_16 h_15 => asB y_16 fun b_17 => if (!(b_14 == b_17)) = true then some (.ret, (jacquardlaw8_RelPairs_x1_0 false h_15)) else c1 (C 7 [(.c (.ptr k6 N6 o6)), (.c (.int .i64 a9)), (.c (.int .i64 a10))] h_15) fun y_19 h_18 => asB y_19 fun b_20 => if (!b_20) = true then some (.normal, (jacquardlaw8_RelPairs_s1 a0 k6 N6 o6 x7 a8 a9 (G.wrap .i64 (a10 + 1)) s0 h_18)) else lenK x7 fun n_21 => scK (decide (a8 ≥ n_21)) false (idxSK 2 x7 a8 fun k_22 N_23 o_24 => rdH h_18 k_22 N_23 fun l_25 => if o_24 + 2 ≤ l_25.length then if alike ((l_25.drop o_24).take 2) ([Cell.int .i64 0, Cell.int .i64 0]) = true ∧ alike (splice (splice [Cell.int .i64 0, Cell.int .i64 0] 0 ([(.int .i64 a9)] : List Cell)) 1 ([(.int .i64 a10)] : List Cell)) ([Cell.int .i64 0, Cell.int .i64 0]) = true then some ((!(decide (((l_25.drop o_24).take 2) = (splice (splice [Cell.int .i64 0, Cell.int .i64 0] 0 ([(.int .i64 a9)] : List Cell)) 1 ([(.int .i64 a10)] : List Cell))))), h_18) else none else none) true h_18 fun b_26 h_27 => if b_26 = true then some (.ret, (jacquardlaw8_RelPairs_x1_0 false h_27)) else some (.normal, (jacquardlaw8_RelPairs_s1 a0 k6 N6 o6 x7 (G.wrap .i64 (a8 + 1)) a9 (G.wrap .i64 (a10 + 1)) s0 h_27)) else none else some ((.exit 2), (jacquardlaw8_RelPairs_x1_3 a0 k6 N6 o6 x7 a8 a9 s0 h)) := by kernel_rfl
theorem jacquardlaw8_RelPairs_e1_0 (C : CallF) (L : LoopF) (G : Glo) (b4 : Bool) (h : AHeap) :
    (jacquardlaw8_RelPairs_k6 C L G) .ret (jacquardlaw8_RelPairs_x1_0 b4 h) =
    some (.ret, (jacquardlaw8_RelPairs_x2_0 b4 h)) := by kernel_rfl
theorem jacquardlaw8_RelPairs_e1_3 (C : CallF) (L : LoopF) (G : Glo) (a0 : Int) (k6 : Nat) (N6 : Nat) (o6 : Nat) (x7 : Cell) (a8 : Int) (a9 : Int) (s0 : List Cell) (h : AHeap) :
    (jacquardlaw8_RelPairs_k6 C L G) (.exit 2) (jacquardlaw8_RelPairs_x1_3 a0 k6 N6 o6 x7 a8 a9 s0 h) =
    some (.normal, (jacquardlaw8_RelPairs_s2 a0 k6 N6 o6 x7 a8 (G.wrap .i64 (a9 + 1)) s0 h)) := by kernel_rfl
theorem jacquardlaw8_RelPairs_r2 (C : CallF) (L : LoopF) (G : Glo) (a0 : Int) (k6 : Nat) (N6 : Nat) (o6 : Nat) (x7 : Cell) (a8 : Int) (a9 : Int) (s0 : List Cell) (h : AHeap) :
    jacquardlaw8_RelPairs_F2 C L G (jacquardlaw8_RelPairs_s2 a0 k6 N6 o6 x7 a8 a9 s0 h) =
    if (decide (a9 < a0)) = true then (L (jacquardlaw8_RelPairs_F1 C L G) (jacquardlaw8_RelPairs_s1 a0 k6 N6 o6 x7 a8 a9 0 s0 h)).bind fun p_28 => (jacquardlaw8_RelPairs_k6 C L G) p_28.1 p_28.2 else some ((.exit 0), (jacquardlaw8_RelPairs_x2_1 a0 x7 a8 s0 h)) := by kernel_rfl
theorem jacquardlaw8_RelPairs_e2_0 (C : CallF) (L : LoopF) (G : Glo) (h0 : AHeap) (b4 : Bool) (h : AHeap) :
    (jacquardlaw8_RelPairs_k3 C L G h0) .ret (jacquardlaw8_RelPairs_x2_0 b4 h) =
    finish true h0 [(.c (.bool b4))] h := by kernel_rfl
theorem jacquardlaw8_RelPairs_e2_1 (C : CallF) (L : LoopF) (G : Glo) (h0 : AHeap) (a0 : Int) (x7 : Cell) (a8 : Int) (s0 : List Cell) (h : AHeap) :
    (jacquardlaw8_RelPairs_k3 C L G h0) (.exit 0) (jacquardlaw8_RelPairs_x2_1 a0 x7 a8 s0 h) =
    c2 (C 1 [(.c (.int .i64 a0)), (.c x7)] h) fun y_30 y_31 h_29 => asA y_30 fun l_32 => asA y_31 fun l_33 => if 0 = 0 ∧ ([Cell.int .i64 0] ++ List.replicate 64 (Cell.int .u64 0)).length = 65 ∧ l_32.length = 65 then if 0 = 0 ∧ ([Cell.int .i64 0] ++ List.replicate 64 (Cell.int .u64 0)).length = 65 ∧ l_33.length = 65 then lenK x7 fun n_34 => scK (a8 == n_34) true (scK (decide (a8 > 200)) false (if 0 = 0 ∧ l_32.length = 65 then if 0 = 0 ∧ s0.length = 65 then if alike l_32 ([Cell.int .i64 0] ++ List.replicate 64 (Cell.int .u64 0)) = true ∧ alike s0 ([Cell.int .i64 0] ++ List.replicate 64 (Cell.int .u64 0)) = true then some ((decide (l_32 = s0)), h_29) else none else none else none) true h_29 fun b_35 h_36 => some (b_35, h_36)) false h_29 fun b_37 h_38 => scK b_37 true (if 0 = 0 ∧ s0.length = 65 then c1 (C 3 [(.agg s0), (.c (.int .i64 (-1))), (.c (.int .i64 0))] h_38) fun y_40 h_39 => asB y_40 fun b_41 => some ((!b_41), h_39) else none) false h_38 fun b_42 h_43 => scK b_42 true (if 0 = 0 ∧ s0.length = 65 then c1 (C 3 [(.agg s0), (.c (.int .i64 0)), (.c (.int .i64 64))] h_43) fun y_45 h_44 => asB y_45 fun b_46 => some ((!b_46), h_44) else none) false h_43 fun b_47 h_48 => scK b_47 true (if 0 = 0 ∧ s0.length = 65 then c1 (C 41 [(.agg s0), (.c (.int .i64 (-1)))] h_48) fun y_50 h_49 => asI .u64 y_50 fun n_51 => some ((n_51 == 0), h_49) else none) false h_48 fun b_52 h_53 => scK b_52 true (if 0 = 0 ∧ s0.length = 65 then c1 (C 41 [(.agg s0), (.c (.int .i64 64))] h_53) fun y_55 h_54 => asI .u64 y_55 fun n_56 => some ((n_56 == 0), h_54) else none) false h_53 fun b_57 h_58 => scK b_57 true (c1 (C 55 [] h_58) fun y_60 h_59 => asB y_60 fun b_61 => some (b_61, h_59)) false h_58 fun b_62 h_63 => finish true h0 [(.c (.bool b_62))] h_63 else none else none := by kernel_rfl
set_option maxRecDepth 100000 in
theorem jacquardlaw8_RelPairs_eq (C : CallF) (L : LoopF) (G : Glo) (a0 : Int) (x1 : Cell) (h0 : AHeap) :
    jacquardlaw8_RelPairs.body C L G [(.c (.int .i64 a0)), (.c x1)] h0 =
    let v_1 : Int := (if 64 < (if 0 > a0 then 0 else a0) then 64 else (if 0 > a0 then 0 else a0)); c2 (C 1 [(.c (.int .i64 v_1)), (.c x1)] h0) fun y_3 y_4 h_2 => asA y_3 fun l_5 => asA y_4 fun l_6 => if 0 = 0 ∧ ([Cell.int .i64 0] ++ List.replicate 64 (Cell.int .u64 0)).length = 65 ∧ l_5.length = 65 then rdH (h_2 ++ [some (Blk.mk true 0 ([Cell.int .i64 0] ++ List.replicate 64 (Cell.int .u64 0)))]) h_2.length (([Cell.int .i64 0] ++ List.replicate 64 (Cell.int .u64 0)).length) fun l_7 => if 0 = 0 ∧ l_7.length = 65 ∧ l_6.length = 65 then putH (h_2 ++ [some (Blk.mk true 0 ([Cell.int .i64 0] ++ List.replicate 64 (Cell.int .u64 0)))]) h_2.length l_6 fun h_8 => if 0 = 0 ∧ l_5.length = 65 then c1 (C 20 [(.agg l_5)] h_8) fun y_10 h_9 => asC y_10 fun x_11 => (L (jacquardlaw8_RelPairs_F2 C L G) (jacquardlaw8_RelPairs_s2 v_1 h_2.length (([Cell.int .i64 0] ++ List.replicate 64 (Cell.int .u64 0)).length) 0 x_11 0 0 l_5 h_9)).bind fun p_64 => (jacquardlaw8_RelPairs_k3 C L G h0) p_64.1 p_64.2 else none else none else none := by kernel_rfl

/- jacquard/jacquardlaw8.RelThen: 241 -/
def jacquardlaw8_RelThen_k2 (C : CallF) (L : LoopF) (G : Glo) (h0 : AHeap) : Ex → St → Option (List AV × AHeap) :=
  kSeq (fun st => jacquardlaw8_RelThen_p1.exec C L G st (jacquardlaw8_RelThen.fin G h0)) (jacquardlaw8_RelThen.fin G h0)
def jacquardlaw8_RelThen_k3 (C : CallF) (L : LoopF) (G : Glo) (h0 : AHeap) : Ex → St → Option (List AV × AHeap) :=
  kBlk 0 (jacquardlaw8_RelThen_k2 C L G h0)
def jacquardlaw8_RelThen_s1 (a0 : Int) (a4 : Int) (a5 : Int) (b19 : Bool) (a20 : Int) (s0 : List Cell) (s2 : List Cell) (s4 : List Cell) (h : AHeap) : St := ⟨[.v (.c (.int .i64 a0)), .top, .top, .top, .v (.c (.int .i64 a4)), .v (.c (.int .i64 a5)), .top, .top, .top, .top, .top, .top, .top, .loc 0 0, .top, .loc 2 0, .top, .loc 4 0, .top, .v (.c (.bool b19)), .v (.c (.int .i64 a20)), .top, .top, .top, .top, .top, .top, .top, .top, .top, .top, .top, .top, .top, .top, .top, .top, .top, .top, .top, .top, .top, .top, .top, .top, .top, .top, .top, .top, .top, .top, .top, .top, .top, .top, .top, .top, .top, .top, .top, .top, .top, .top, .top, .top, .top, .top, .top, .top, .top, .top, .top, .top, .top, .top, .top, .top, .top, .top, .top, .top, .top, .top, .top, .top, .top, .top, .top, .top, .top, .top, .top, .top, .top, .top, .top, .top, .top, .top, .top, .top, .top, .top, .top, .top, .top, .top, .top], [some s0, none, some s2, none, some s4, none], h⟩
def jacquardlaw8_RelThen_F1 (C : CallF) (L : LoopF) (G : Glo) : St → Option (Ex × St) :=
  roundF (fun st f => jacquardlaw8_RelThen_b1.exec C L G st f) [0, 4, 5, 13, 15, 17, 19, 20] [0, 2, 4] [(1, [4, 5, 13, 15, 17, 19], [0, 2, 4])]
def jacquardlaw8_RelThen_x1_1 (a4 : Int) (a5 : Int) (b19 : Bool) (s0 : List Cell) (s2 : List Cell) (s4 : List Cell) (h : AHeap) : St := ⟨[.top, .top, .top, .top, .v (.c (.int .i64 a4)), .v (.c (.int .i64 a5)), .top, .top, .top, .top, .top, .top, .top, .loc 0 0, .top, .loc 2 0, .top, .loc 4 0, .top, .v (.c (.bool b19)), .top, .top, .top, .top, .top, .top, .top, .top, .top, .top, .top, .top, .top, .top, .top, .top, .top, .top, .top, .top, .top, .top, .top, .top, .top, .top, .top, .top, .top, .top, .top, .top, .top, .top, .top, .top, .top, .top, .top, .top, .top, .top, .top, .top, .top, .top, .top, .top, .top, .top, .top, .top, .top, .top, .top, .top, .top, .top, .top, .top, .top, .top, .top, .top, .top, .top, .top, .top, .top, .top, .top, .top, .top, .top, .top, .top, .top, .top, .top, .top, .top, .top, .top, .top, .top, .top, .top, .top], [some s0, none, some s2, none, some s4, none], h⟩
theorem jacquardlaw8_RelThen_r1 (C : CallF) (L : LoopF) (G : Glo) (a0 : Int) (a4 : Int) (a5 : Int) (b19 : Bool) (a20 : Int) (s0 : List Cell) (s2 : List Cell) (s4 : List Cell) (h : AHeap) :
    jacquardlaw8_RelThen_F1 C L G (jacquardlaw8_RelThen_s1 a0 a4 a5 b19 a20 s0 s2 s4 h) =
    if (decide (a20 < a0)) = true then scK b19 false (if 0 = 0 ∧ s0.length = 65 then c1 (C 3 [(.agg s0), (.c (.int .i64 a4)), (.c (.int .i64 a20))] h) fun y_18 h_17 => asB y_18 fun b_19 => scK b_19 true (if 0 = 0 ∧ s2.length = 65 then c1 (C 3 [(.agg s2), (.c (.int .i64 a20)), (.c (.int .i64 a5))] h_17) fun y_21 h_20 => asB y_21 fun b_22 => some (b_22, h_20) else none) false h_17 fun b_23 h_24 => some (b_23, h_24) else none) true h fun b_25 h_26 => some (.normal, (jacquardlaw8_RelThen_s1 a0 a4 a5 b_25 (G.wrap .i64 (a20 + 1)) s0 s2 s4 h_26)) else some ((.exit 0), (jacquardlaw8_RelThen_x1_1 a4 a5 b19 s0 s2 s4 h)) := by kernel_rfl
theorem jacquardlaw8_RelThen_e1_1 (C : CallF) (L : LoopF) (G : Glo) (h0 : AHeap) (a4 : Int) (a5 : Int) (b19 : Bool) (s0 : List Cell) (s2 : List Cell) (s4 : List Cell) (h : AHeap) :
    (jacquardlaw8_RelThen_k3 C L G h0) (.exit 0) (jacquardlaw8_RelThen_x1_1 a4 a5 b19 s0 s2 s4 h) =
    if 0 = 0 ∧ s0.length = 65 then if 0 = 0 ∧ s2.length = 65 then c1 (qh h (C 58 [(.agg s0), (.agg s2)] h)) fun y_28 h_27 => asA y_28 fun l_29 => c1 (qh h (C 3 [(.agg l_29), (.c (.int .i64 a4)), (.c (.int .i64 a5))] h)) fun y_31 h_30 => asB y_31 fun b_32 => scK (b_32 == b19) true (if 0 = 0 ∧ s0.length = 65 then if 0 = 0 ∧ s2.length = 65 then c1 (qh h (C 58 [(.agg s0), (.agg s2)] h)) fun y_34 h_33 => asA y_34 fun l_35 => if 0 = 0 ∧ s4.length = 65 then c1 (qh h (C 58 [(.agg l_35), (.agg s4)] h)) fun y_37 h_36 => asA y_37 fun l_38 => if 0 = 0 ∧ s0.length = 65 then if 0 = 0 ∧ s2.length = 65 then if 0 = 0 ∧ s4.length = 65 then c1 (qh h (C 58 [(.agg s2), (.agg s4)] h)) fun y_40 h_39 => asA y_40 fun l_41 => c1 (qh h (C 58 [(.agg s0), (.agg l_41)] h)) fun y_43 h_42 => asA y_43 fun l_44 => if alike l_38 ([Cell.int .i64 0] ++ List.replicate 64 (Cell.int .u64 0)) = true ∧ alike l_44 ([Cell.int .i64 0] ++ List.replicate 64 (Cell.int .u64 0)) = true then some ((decide (l_38 = l_44)), h) else none else none else none else none else none else none else none) false h fun b_45 h_46 => scK b_45 true (if 0 = 0 ∧ s0.length = 65 then if 0 = 0 ∧ s2.length = 65 then c1 (qh h_46 (C 59 [(.agg s0), (.agg s2)] h_46)) fun y_48 h_47 => asA y_48 fun l_49 => if 0 = 0 ∧ s4.length = 65 then c1 (qh h_46 (C 58 [(.agg l_49), (.agg s4)] h_46)) fun y_51 h_50 => asA y_51 fun l_52 => if 0 = 0 ∧ s0.length = 65 then if 0 = 0 ∧ s4.length = 65 then c1 (qh h_46 (C 58 [(.agg s0), (.agg s4)] h_46)) fun y_54 h_53 => asA y_54 fun l_55 => if 0 = 0 ∧ s2.length = 65 then if 0 = 0 ∧ s4.length = 65 then c1 (qh h_46 (C 58 [(.agg s2), (.agg s4)] h_46)) fun y_57 h_56 => asA y_57 fun l_58 => c1 (qh h_46 (C 59 [(.agg l_55), (.agg l_58)] h_46)) fun y_60 h_59 => asA y_60 fun l_61 => if alike l_52 ([Cell.int .i64 0] ++ List.replicate 64 (Cell.int .u64 0)) = true ∧ alike l_61 ([Cell.int .i64 0] ++ List.replicate 64 (Cell.int .u64 0)) = true then some ((decide (l_52 = l_61)), h_46) else none else none else none else none else none else none else none else none) false h_46 fun b_62 h_63 => scK b_62 true (c1 (qh h_63 (C 55 [] h_63)) fun y_65 h_64 => asB y_65 fun b_66 => some (b_66, h_63)) false h_63 fun b_67 h_68 => some ([(.c (.bool b_67))], h_68) else none else none := by kernel_rfl
set_option maxRecDepth 100000 in
theorem jacquardlaw8_RelThen_eq (C : CallF) (L : LoopF) (G : Glo) (a0 : Int) (x1 : Cell) (x2 : Cell) (x3 : Cell) (a4 : Int) (a5 : Int) (h0 : AHeap) :
    jacquardlaw8_RelThen.body C L G [(.c (.int .i64 a0)), (.c x1), (.c x2), (.c x3), (.c (.int .i64 a4)), (.c (.int .i64 a5))] h0 =
    let v_1 : Int := (G.wrap .i64 ((G.rem .i64 (G.band .i64 a0 255) 20) + 1)); if v_1 = 0 then none else if v_1 = 0 then none else c2 (C 1 [(.c (.int .i64 v_1)), (.c x1)] h0) fun y_3 y_4 h_2 => asA y_3 fun l_5 => asA y_4 fun l_6 => if 0 = 0 ∧ ([Cell.int .i64 0] ++ List.replicate 64 (Cell.int .u64 0)).length = 65 ∧ l_5.length = 65 then if 0 = 0 ∧ ([Cell.int .i64 0] ++ List.replicate 64 (Cell.int .u64 0)).length = 65 ∧ l_6.length = 65 then c2 (C 1 [(.c (.int .i64 v_1)), (.c x2)] h_2) fun y_8 y_9 h_7 => asA y_8 fun l_10 => asA y_9 fun l_11 => if 0 = 0 ∧ ([Cell.int .i64 0] ++ List.replicate 64 (Cell.int .u64 0)).length = 65 ∧ l_10.length = 65 then if 0 = 0 ∧ ([Cell.int .i64 0] ++ List.replicate 64 (Cell.int .u64 0)).length = 65 ∧ l_11.length = 65 then c2 (C 1 [(.c (.int .i64 v_1)), (.c x3)] h_7) fun y_13 y_14 h_12 => asA y_13 fun l_15 => asA y_14 fun l_16 => if 0 = 0 ∧ ([Cell.int .i64 0] ++ List.replicate 64 (Cell.int .u64 0)).length = 65 ∧ l_15.length = 65 then if 0 = 0 ∧ ([Cell.int .i64 0] ++ List.replicate 64 (Cell.int .u64 0)).length = 65 ∧ l_16.length = 65 then (L (jacquardlaw8_RelThen_F1 C L G) (jacquardlaw8_RelThen_s1 v_1 (G.rem .i64 (G.band .i64 a4 255) v_1) (G.rem .i64 (G.band .i64 a5 255) v_1) false 0 l_5 l_10 l_15 h_12)).bind fun p_69 => (jacquardlaw8_RelThen_k3 C L G h0) p_69.1 p_69.2 else none else none else none else none else none else none := by kernel_rfl

/- jacquard/jacquardlaw8.RelAlgebra: 243 -/
set_option maxRecDepth 100000 in
theorem jacquardlaw8_RelAlgebra_eq (C : CallF) (L : LoopF) (G : Glo) (a0 : Int) (x1 : Cell) (x2 : Cell) (h0 : AHeap) :
    jacquardlaw8_RelAlgebra.body C L G [(.c (.int .i64 a0)), (.c x1), (.c x2)] h0 =
    let v_1 : Int := (if 64 < (if 0 > a0 then 0 else a0) then 64 else (if 0 > a0 then 0 else a0)); c2 (C 1 [(.c (.int .i64 v_1)), (.c x1)] h0) fun y_3 y_4 h_2 => asA y_3 fun l_5 => asA y_4 fun l_6 => if 0 = 0 ∧ ([Cell.int .i64 0] ++ List.replicate 64 (Cell.int .u64 0)).length = 65 ∧ l_5.length = 65 then if 0 = 0 ∧ ([Cell.int .i64 0] ++ List.replicate 64 (Cell.int .u64 0)).length = 65 ∧ l_6.length = 65 then c2 (C 1 [(.c (.int .i64 v_1)), (.c x2)] h_2) fun y_8 y_9 h_7 => asA y_8 fun l_10 => asA y_9 fun l_11 => if 0 = 0 ∧ ([Cell.int .i64 0] ++ List.replicate 64 (Cell.int .u64 0)).length = 65 ∧ l_10.length = 65 then if 0 = 0 ∧ ([Cell.int .i64 0] ++ List.replicate 64 (Cell.int .u64 0)).length = 65 ∧ l_11.length = 65 then if 0 = 0 ∧ l_5.length = 65 then c1 (C 12 [(.agg l_5)] h_7) fun y_13 h_12 => asA y_13 fun l_14 => if 0 = 0 ∧ ([Cell.int .i64 0] ++ List.replicate 64 (Cell.int .u64 0)).length = 65 ∧ l_14.length = 65 then if 0 = 0 ∧ l_5.length = 65 then if 0 = 0 ∧ l_10.length = 65 then c1 (qh h_12 (C 59 [(.agg l_5), (.agg l_10)] h_12)) fun y_16 h_15 => asA y_16 fun l_17 => if 0 = 0 ∧ l_10.length = 65 then if 0 = 0 ∧ l_5.length = 65 then c1 (qh h_12 (C 59 [(.agg l_10), (.agg l_5)] h_12)) fun y_19 h_18 => asA y_19 fun l_20 => if alike l_17 ([Cell.int .i64 0] ++ List.replicate 64 (Cell.int .u64 0)) = true ∧ alike l_20 ([Cell.int .i64 0] ++ List.replicate 64 (Cell.int .u64 0)) = true then scK (decide (l_17 = l_20)) true (if 0 = 0 ∧ l_5.length = 65 then if 0 = 0 ∧ l_10.length = 65 then c1 (qh h_12 (C 67 [(.agg l_5), (.agg l_10)] h_12)) fun y_22 h_21 => asA y_22 fun l_23 => if 0 = 0 ∧ l_10.length = 65 then if 0 = 0 ∧ l_5.length = 65 then c1 (qh h_12 (C 67 [(.agg l_10), (.agg l_5)] h_12)) fun y_25 h_24 => asA y_25 fun l_26 => if alike l_23 ([Cell.int .i64 0] ++ List.replicate 64 (Cell.int .u64 0)) = true ∧ alike l_26 ([Cell.int .i64 0] ++ List.replicate 64 (Cell.int .u64 0)) = true then some ((decide (l_23 = l_26)), h_12) else none else none else none else none else none) false h_12 fun b_27 h_28 => scK b_27 true (if 0 = 0 ∧ l_5.length = 65 then c1 (qh h_28 (C 40 [(.agg l_5)] h_28)) fun y_30 h_29 => asA y_30 fun l_31 => c1 (qh h_28 (C 40 [(.agg l_31)] h_28)) fun y_33 h_32 => asA y_33 fun l_34 => if 0 = 0 ∧ l_5.length = 65 then if alike l_34 ([Cell.int .i64 0] ++ List.replicate 64 (Cell.int .u64 0)) = true ∧ alike l_5 ([Cell.int .i64 0] ++ List.replicate 64 (Cell.int .u64 0)) = true then some ((decide (l_34 = l_5)), h_28) else none else none else none) false h_28 fun b_35 h_36 => scK b_35 true (if 0 = 0 ∧ l_14.length = 65 then c1 (qh h_36 (C 12 [(.agg l_14)] h_36)) fun y_38 h_37 => asA y_38 fun l_39 => if 0 = 0 ∧ l_14.length = 65 then if alike l_39 ([Cell.int .i64 0] ++ List.replicate 64 (Cell.int .u64 0)) = true ∧ alike l_14 ([Cell.int .i64 0] ++ List.replicate 64 (Cell.int .u64 0)) = true then some ((decide (l_39 = l_14)), h_36) else none else none else none) false h_36 fun b_40 h_41 => scK b_40 true (if 0 = 0 ∧ l_5.length = 65 then if 0 = 0 ∧ l_10.length = 65 then c1 (qh h_41 (C 58 [(.agg l_5), (.agg l_10)] h_41)) fun y_43 h_42 => asA y_43 fun l_44 => c1 (qh h_41 (C 40 [(.agg l_44)] h_41)) fun y_46 h_45 => asA y_46 fun l_47 => if 0 = 0 ∧ l_10.length = 65 then c1 (qh h_41 (C 40 [(.agg l_10)] h_41)) fun y_49 h_48 => asA y_49 fun l_50 => if 0 = 0 ∧ l_5.length = 65 then c1 (qh h_41 (C 40 [(.agg l_5)] h_41)) fun y_52 h_51 => asA y_52 fun l_53 => c1 (qh h_41 (C 58 [(.agg l_50), (.agg l_53)] h_41)) fun y_55 h_54 => asA y_55 fun l_56 => if alike l_47 ([Cell.int .i64 0] ++ List.replicate 64 (Cell.int .u64 0)) = true ∧ alike l_56 ([Cell.int .i64 0] ++ List.replicate 64 (Cell.int .u64 0)) = true then some ((decide (l_47 = l_56)), h_41) else none else none else none else none else none) false h_41 fun b_57 h_58 => scK b_57 true (if 0 = 0 ∧ l_5.length = 65 then if 0 = 0 ∧ l_10.length = 65 then c1 (qh h_58 (C 68 [(.agg l_5), (.agg l_10)] h_58)) fun y_60 h_59 => asA y_60 fun l_61 => if 0 = 0 ∧ l_5.length = 65 then if 0 = 0 ∧ l_10.length = 65 then c1 (qh h_58 (C 67 [(.agg l_5), (.agg l_10)] h_58)) fun y_63 h_62 => asA y_63 fun l_64 => c1 (qh h_58 (C 59 [(.agg l_61), (.agg l_64)] h_58)) fun y_66 h_65 => asA y_66 fun l_67 => if 0 = 0 ∧ l_5.length = 65 then if alike l_67 ([Cell.int .i64 0] ++ List.replicate 64 (Cell.int .u64 0)) = true ∧ alike l_5 ([Cell.int .i64 0] ++ List.replicate 64 (Cell.int .u64 0)) = true then some ((decide (l_67 = l_5)), h_58) else none else none else none else none else none else none) false h_58 fun b_68 h_69 => scK b_68 true (if 0 = 0 ∧ l_14.length = 65 then if 0 = 0 ∧ l_14.length = 65 then c1 (qh h_69 (C 58 [(.agg l_14), (.agg l_14)] h_69)) fun y_71 h_70 => asA y_71 fun l_72 => if 0 = 0 ∧ l_14.length = 65 then c1 (qh h_69 (C 59 [(.agg l_72), (.agg l_14)] h_69)) fun y_74 h_73 => asA y_74 fun l_75 => if 0 = 0 ∧ l_14.length = 65 then if alike l_75 ([Cell.int .i64 0] ++ List.replicate 64 (Cell.int .u64 0)) = true ∧ alike l_14 ([Cell.int .i64 0] ++ List.replicate 64 (Cell.int .u64 0)) = true then some ((decide (l_75 = l_14)), h_69) else none else none else none else none else none) false h_69 fun b_76 h_77 => scK b_76 true (if 0 = 0 ∧ l_5.length = 65 then if 0 = 0 ∧ l_14.length = 65 then c1 (qh h_77 (C 59 [(.agg l_5), (.agg l_14)] h_77)) fun y_79 h_78 => asA y_79 fun l_80 => if 0 = 0 ∧ l_14.length = 65 then if alike l_80 ([Cell.int .i64 0] ++ List.replicate 64 (Cell.int .u64 0)) = true ∧ alike l_14 ([Cell.int .i64 0] ++ List.replicate 64 (Cell.int .u64 0)) = true then some ((decide (l_80 = l_14)), h_77) else none else none else none else none) false h_77 fun b_81 h_82 => scK b_81 true (if 0 = 0 ∧ l_5.length = 65 then if 0 = 0 ∧ l_5.length = 65 then c1 (qh h_82 (C 59 [(.agg l_5), (.agg l_5)] h_82)) fun y_84 h_83 => asA y_84 fun l_85 => if 0 = 0 ∧ l_5.length = 65 then if alike l_85 ([Cell.int .i64 0] ++ List.replicate 64 (Cell.int .u64 0)) = true ∧ alike l_5 ([Cell.int .i64 0] ++ List.replicate 64 (Cell.int .u64 0)) = true then some ((decide (l_85 = l_5)), h_82) else none else none else none else none) false h_82 fun b_86 h_87 => scK b_86 true (c1 (qh h_87 (C 55 [] h_87)) fun y_89 h_88 => asB y_89 fun b_90 => some (b_90, h_87)) false h_87 fun b_91 h_92 => some ([(.c (.bool b_91))], h_92) else none else none else none else none else none else none else none else none else none else none else none := by kernel_rfl


end Jq

namespace Jq
open Go

/- jacquard/jacquardref6.Closure: 6 -/
def jacquardref6_Closure_k2 (C : CallF) (L : LoopF) (G : Glo) (h0 : AHeap) : Ex → St → Option (List AV × AHeap) :=
  kSeq (fun st => jacquardref6_Closure_p1.exec C L G st (jacquardref6_Closure.fin G h0)) (jacquardref6_Closure.fin G h0)
def jacquardref6_Closure_k3 (C : CallF) (L : LoopF) (G : Glo) (h0 : AHeap) : Ex → St → Option (List AV × AHeap) :=
  kBlk 0 (jacquardref6_Closure_k2 C L G h0)
def jacquardref6_Closure_s2 (k1 : Nat) (N1 : Nat) (o1 : Nat) (a3 : Int) (s0 : List Cell) (h : AHeap) : St := ⟨[.top, .v (.c (.ptr k1 N1 o1)), .loc 0 0, .v (.c (.int .i64 a3)), .top, .top, .top, .top, .top, .top, .top, .top, .top, .top, .top, .top, .top, .top, .top, .top, .top, .top, .top, .top, .top, .top, .top, .top, .top, .top, .top, .top, .top], [some s0], h⟩
def jacquardref6_Closure_F2 (C : CallF) (L : LoopF) (G : Glo) : St → Option (Ex × St) :=
  roundF (fun st f => jacquardref6_Closure_b2.exec C L G st f) [1, 2, 3] [0] [(1, [1, 2], [0])]
def jacquardref6_Closure_k4 (C : CallF) (L : LoopF) (G : Glo) : Ex → St → Option (Ex × St) :=
  kSeq (fun st => jacquardref6_Closure_p2.exec C L G st (kLoop [1, 2, 3] [0] [(1, [1, 2], [0])])) (kLoop [1, 2, 3] [0] [(1, [1, 2], [0])])
def jacquardref6_Closure_k5 (C : CallF) (L : LoopF) (G : Glo) : Ex → St → Option (Ex × St) :=
  kBlk 1 (jacquardref6_Closure_k4 C L G)
def jacquardref6_Closure_k6 (C : CallF) (L : LoopF) (G : Glo) : Ex → St → Option (Ex × St) :=
  kBlk 2 (jacquardref6_Closure_k5 C L G)
def jacquardref6_Closure_s1 (k1 : Nat) (N1 : Nat) (o1 : Nat) (a3 : Int) (a4 : Int) (s0 : List Cell) (h : AHeap) : St := ⟨[.top, .v (.c (.ptr k1 N1 o1)), .loc 0 0, .v (.c (.int .i64 a3)), .v (.c (.int .i64 a4)), .top, .top, .top, .top, .top, .top, .top, .top, .top, .top, .top, .top, .top, .top, .top, .top, .top, .top, .top, .top, .top, .top, .top, .top, .top, .top, .top, .top], [some s0], h⟩
def jacquardref6_Closure_F1 (C : CallF) (L : LoopF) (G : Glo) : St → Option (Ex × St) :=
  roundF (fun st f => jacquardref6_Closure_b1.exec C L G st f) [1, 2, 3, 4] [0] [(3, [1, 2, 3], [0])]
def jacquardref6_Closure_x1_3 (k1 : Nat) (N1 : Nat) (o1 : Nat) (a3 : Int) (s0 : List Cell) (h : AHeap) : St := ⟨[.top, .v (.c (.ptr k1 N1 o1)), .loc 0 0, .v (.c (.int .i64 a3)), .top, .top, .top, .top, .top, .top, .top, .top, .top, .top, .top, .top, .top, .top, .top, .top, .top, .top, .top, .top, .top, .top, .top, .top, .top, .top, .top, .top, .top], [some s0], h⟩
def jacquardref6_Closure_x2_1 (k1 : Nat) (N1 : Nat) (o1 : Nat) (s0 : List Cell) (h : AHeap) : St := ⟨[.top, .v (.c (.ptr k1 N1 o1)), .loc 0 0, .top, .top, .top, .top, .top, .top, .top, .top, .top, .top, .top, .top, .top, .top, .top, .top, .top, .top, .top, .top, .top, .top, .top, .top, .top, .top, .top, .top, .top, .top], [some s0], h⟩
theorem jacquardref6_Closure_r1 (C : CallF) (L : LoopF) (G : Glo) (k1 : Nat) (N1 : Nat) (o1 : Nat) (a3 : Int) (a4 : Int) (s0 : List Cell) (h : AHeap) :
    jacquardref6_Closure_F1 C L G (jacquardref6_Closure_s1 k1 N1 o1 a3 a4 s0 h) =
    rdH h k1 N1 fun l_4 => atK l_4 (o1 + 0) fun q_5 => asI .i64 (.c q_5) fun n_6 => if (decide (a4 < n_6)) = true then c1 (C 7 [(.c (.ptr k1 N1 o1)), (.c (.int .i64 a4)), (.c (.int .i64 a3))] h) fun y_8 h_7 => asB y_8 fun b_9 => if b_9 = true then if 0 ≤ a4 ∧ a4 < ((64 : Nat) : Int) then rdH h_7 k1 N1 fun l_10 => atK l_10 ((o1 + 1) + ((Int.toNat a4) * 1)) fun q_11 => asI .u64 (.c q_11) fun n_12 => if 0 ≤ a3 ∧ a3 < ((64 : Nat) : Int) then rdH h_7 k1 N1 fun l_13 => atK l_13 ((o1 + 1) + ((Int.toNat a3) * 1)) fun q_14 => asI .u64 (.c q_14) fun n_15 => if 0 ≤ a4 ∧ a4 < ((64 : Nat) : Int) then rdH h_7 k1 N1 fun l_16 => if ((o1 + 1) + ((Int.toNat a4) * 1)) < l_16.length then putH h_7 k1 (l_16.set ((o1 + 1) + ((Int.toNat a4) * 1)) (.int .u64 (G.bor .u64 n_12 n_15))) fun h_17 => some (.normal, (jacquardref6_Closure_s1 k1 N1 o1 a3 (G.wrap .i64 (a4 + 1)) s0 h_17)) else none else none else none else none else some (.normal, (jacquardref6_Closure_s1 k1 N1 o1 a3 (G.wrap .i64 (a4 + 1)) s0 h_7)) else some ((.exit 2), (jacquardref6_Closure_x1_3 k1 N1 o1 a3 s0 h)) := by kernel_rfl
theorem jacquardref6_Closure_e1_3 (C : CallF) (L : LoopF) (G : Glo) (k1 : Nat) (N1 : Nat) (o1 : Nat) (a3 : Int) (s0 : List Cell) (h : AHeap) :
    (jacquardref6_Closure_k6 C L G) (.exit 2) (jacquardref6_Closure_x1_3 k1 N1 o1 a3 s0 h) =
    some (.normal, (jacquardref6_Closure_s2 k1 N1 o1 (G.wrap .i64 (a3 + 1)) s0 h)) := by kernel_rfl
theorem jacquardref6_Closure_r2 (C : CallF) (L : LoopF) (G : Glo) (k1 : Nat) (N1 : Nat) (o1 : Nat) (a3 : Int) (s0 : List Cell) (h : AHeap) :
    jacquardref6_Closure_F2 C L G (jacquardref6_Closure_s2 k1 N1 o1 a3 s0 h) =
    rdH h k1 N1 fun l_1 => atK l_1 (o1 + 0) fun q_2 => asI .i64 (.c q_2) fun n_3 => if (decide (a3 < n_3)) = true then (L (jacquardref6_Closure_F1 C L G) (jacquardref6_Closure_s1 k1 N1 o1 a3 0 s0 h)).bind fun p_18 => (jacquardref6_Closure_k6 C L G) p_18.1 p_18.2 else some ((.exit 0), (jacquardref6_Closure_x2_1 k1 N1 o1 s0 h)) := by kernel_rfl
theorem jacquardref6_Closure_e2_1 (C : CallF) (L : LoopF) (G : Glo) (h0 : AHeap) (k1 : Nat) (N1 : Nat) (o1 : Nat) (s0 : List Cell) (h : AHeap) :
    (jacquardref6_Closure_k3 C L G h0) (.exit 0) (jacquardref6_Closure_x2_1 k1 N1 o1 s0 h) =
    rdH h k1 N1 fun l_19 => if o1 = 0 ∧ l_19.length = 65 then if 0 = 0 ∧ s0.length = 65 ∧ l_19.length = 65 then if 0 = 0 ∧ l_19.length = 65 then finish true h0 [(.agg l_19)] h else none else none else none := by kernel_rfl
set_option maxRecDepth 100000 in
theorem jacquardref6_Closure_eq (C : CallF) (L : LoopF) (G : Glo) (l0 : List Cell) (h0 : AHeap) :
    jacquardref6_Closure.body C L G [(.agg l0)] h0 =
    (L (jacquardref6_Closure_F2 C L G) (jacquardref6_Closure_s2 h0.length ((AV.cells (.agg l0)).length) 0 0 ([Cell.int .i64 0] ++ List.replicate 64 (Cell.int .u64 0)) (h0 ++ [some (Blk.mk true 0 (AV.cells (.agg l0)))]))).bind fun p_20 => (jacquardref6_Closure_k3 C L G h0) p_20.1 p_20.2 := by kernel_rfl

/- (*jacquard/jacquardref6.Rel).Has: 7 -/
set_option maxRecDepth 100000 in
theorem jacquardref6_Rel_Has_eq (C : CallF) (L : LoopF) (G : Glo) (k0 : Nat) (N0 : Nat) (o0 : Nat) (a1 : Int) (a2 : Int) (h0 : AHeap) :
    jacquardref6_Rel_Has.body C L G [(.c (.ptr k0 N0 o0)), (.c (.int .i64 a1)), (.c (.int .i64 a2))] h0 =
    if 0 ≤ a1 ∧ a1 < ((64 : Nat) : Int) then rdH h0 k0 N0 fun l_1 => atK l_1 ((o0 + 1) + ((Int.toNat a1) * 1)) fun q_2 => asI .u64 (.c q_2) fun n_3 => if a2 < 0 then none else some ([(.c (.bool ((G.band .u64 (G.shr .u64 n_3 a2) 1) == 1)))], h0) else none := by kernel_rfl

/- (*jacquard/jacquardref6.Rel).Add: 13 -/
set_option maxRecDepth 100000 in
theorem jacquardref6_Rel_Add_eq (C : CallF) (L : LoopF) (G : Glo) (k0 : Nat) (N0 : Nat) (o0 : Nat) (a1 : Int) (a2 : Int) (h0 : AHeap) :
    jacquardref6_Rel_Add.body C L G [(.c (.ptr k0 N0 o0)), (.c (.int .i64 a1)), (.c (.int .i64 a2))] h0 =
    if 0 ≤ a1 ∧ a1 < ((64 : Nat) : Int) then rdH h0 k0 N0 fun l_1 => atK l_1 ((o0 + 1) + ((Int.toNat a1) * 1)) fun q_2 => asI .u64 (.c q_2) fun n_3 => if a2 < 0 then none else if 0 ≤ a1 ∧ a1 < ((64 : Nat) : Int) then rdH h0 k0 N0 fun l_4 => if ((o0 + 1) + ((Int.toNat a1) * 1)) < l_4.length then putH h0 k0 (l_4.set ((o0 + 1) + ((Int.toNat a1) * 1)) (.int .u64 (G.bor .u64 n_3 (G.shl .u64 1 a2)))) fun h_5 => some ([], h_5) else none else none else none := by kernel_rfl

/- jacquard/jacquardref6.Acyclic: 71 -/
def jacquardref6_Acyclic_k2 (C : CallF) (L : LoopF) (G : Glo) (h0 : AHeap) : Ex → St → Option (List AV × AHeap) :=
  kSeq (fun st => jacquardref6_Acyclic_p1.exec C L G st (jacquardref6_Acyclic.fin G h0)) (jacquardref6_Acyclic.fin G h0)
def jacquardref6_Acyclic_k3 (C : CallF) (L : LoopF) (G : Glo) (h0 : AHeap) : Ex → St → Option (List AV × AHeap) :=
  kBlk 0 (jacquardref6_Acyclic_k2 C L G h0)
def jacquardref6_Acyclic_s1 (k3 : Nat) (N3 : Nat) (o3 : Nat) (a4 : Int) (s0 : List Cell) (h : AHeap) : St := ⟨[.top, .loc 0 0, .top, .v (.c (.ptr k3 N3 o3)), .v (.c (.int .i64 a4)), .top, .top, .top, .top, .top, .top, .top, .top, .top, .top, .top], [some s0], h⟩
def jacquardref6_Acyclic_F1 (C : CallF) (L : LoopF) (G : Glo) : St → Option (Ex × St) :=
  roundF (fun st f => jacquardref6_Acyclic_b1.exec C L G st f) [1, 3, 4] [0] [(0, [2], []), (1, [], [])]
def jacquardref6_Acyclic_x1_0 (b2 : Bool) (h : AHeap) : St := ⟨[.top, .top, .v (.c (.bool b2)), .top, .top, .top, .top, .top, .top, .top, .top, .top, .top, .top, .top, .top], [none], h⟩
def jacquardref6_Acyclic_x1_1 (h : AHeap) : St := ⟨[.top, .top, .top, .top, .top, .top, .top, .top, .top, .top, .top, .top, .top, .top, .top, .top], [none], h⟩
theorem jacquardref6_Acyclic_r1 (C : CallF) (L : LoopF) (G : Glo) (k3 : Nat) (N3 : Nat) (o3 : Nat) (a4 : Int) (s0 : List Cell) (h : AHeap) :
    jacquardref6_Acyclic_F1 C L G (jacquardref6_Acyclic_s1 k3 N3 o3 a4 s0 h) =
    atK s0 0 fun q_6 => asI .i64 (.c q_6) fun n_7 => if (decide (a4 < n_7)) = true then c1 (C 7 [(.c (.ptr k3 N3 o3)), (.c (.int .i64 a4)), (.c (.int .i64 a4))] h) fun y_9 h_8 => asB y_9 fun b_10 => if b_10 = true then some (.ret, (jacquardref6_Acyclic_x1_0 false h_8)) else some (.normal, (jacquardref6_Acyclic_s1 k3 N3 o3 (G.wrap .i64 (a4 + 1)) s0 h_8)) else some ((.exit 0), (jacquardref6_Acyclic_x1_1 h)) := by kernel_rfl
theorem jacquardref6_Acyclic_e1_0 (C : CallF) (L : LoopF) (G : Glo) (h0 : AHeap) (b2 : Bool) (h : AHeap) :
    (jacquardref6_Acyclic_k3 C L G h0) .ret (jacquardref6_Acyclic_x1_0 b2 h) =
    finish true h0 [(.c (.bool b2))] h := by kernel_rfl
theorem jacquardref6_Acyclic_e1_1 (C : CallF) (L : LoopF) (G : Glo) (h0 : AHeap) (h : AHeap) :
    (jacquardref6_Acyclic_k3 C L G h0) (.exit 0) (jacquardref6_Acyclic_x1_1 h) =
    finish true h0 [(.c (.bool true))] h := by kernel_rfl
set_option maxRecDepth 100000 in
theorem jacquardref6_Acyclic_eq (C : CallF) (L : LoopF) (G : Glo) (l0 : List Cell) (h0 : AHeap) :
    jacquardref6_Acyclic.body C L G [(.agg l0)] h0 =
    if 0 = 0 ∧ l0.length = 65 then c1 (C 6 [(.agg l0)] h0) fun y_2 h_1 => asA y_2 fun l_3 => rdH (h_1 ++ [some (Blk.mk true 0 ([Cell.int .i64 0] ++ List.replicate 64 (Cell.int .u64 0)))]) h_1.length (([Cell.int .i64 0] ++ List.replicate 64 (Cell.int .u64 0)).length) fun l_4 => if 0 = 0 ∧ l_4.length = 65 ∧ l_3.length = 65 then putH (h_1 ++ [some (Blk.mk true 0 ([Cell.int .i64 0] ++ List.replicate 64 (Cell.int .u64 0)))]) h_1.length l_3 fun h_5 => (L (jacquardref6_Acyclic_F1 C L G) (jacquardref6_Acyclic_s1 h_1.length (([Cell.int .i64 0] ++ List.replicate 64 (Cell.int .u64 0)).length) 0 0 l0 h_5)).bind fun p_11 => (jacquardref6_Acyclic_k3 C L G h0) p_11.1 p_11.2 else none else none := by kernel_rfl

/- jacquard/jacquardref6.Next: 81 -/
set_option maxRecDepth 100000 in
theorem jacquardref6_Next_eq (C : CallF) (L : LoopF) (G : Glo) (l0 : List Cell) (a1 : Int) (l2 : List Cell) (h0 : AHeap) :
    jacquardref6_Next.body C L G [(.agg l0), (.c (.int .i64 a1)), (.agg l2)] h0 =
    if 0 = 0 ∧ l0.length = 3 then c1 (qh h0 (C 110 [(.agg l0), (.c (.int .i64 a1))] h0)) fun y_2 h_1 => asB y_2 fun b_3 => scK (!b_3) false (atK l2 0 fun q_4 => asI .i64 (.c q_4) fun n_5 => some ((decide (n_5 < 0)), h0)) true h0 fun b_6 h_7 => scK b_6 false (atK l2 0 fun q_8 => asI .i64 (.c q_8) fun n_9 => atK l0 2 fun q_10 => idxSK 1 q_10 a1 fun k_11 N_12 o_13 => rdH h_7 k_11 N_12 fun l_14 => atK l_14 o_13 fun q_15 => lenK q_15 fun n_16 => some ((decide (n_9 ≥ n_16)), h_7)) true h_7 fun b_17 h_18 => if b_17 = true then if 0 = 0 ∧ (List.replicate 9 (Cell.int .i64 0)).length = 9 ∧ (List.replicate 9 (Cell.int .i64 0)).length = 9 then if 0 = 0 ∧ (List.replicate 9 (Cell.int .i64 0)).length = 9 then some ([(.agg (List.replicate 9 (Cell.int .i64 0))), (.c (.bool false))], h_18) else none else none else atK l0 2 fun q_19 => idxSK 1 q_19 a1 fun k_20 N_21 o_22 => rdH h_18 k_20 N_21 fun l_23 => atK l_23 o_22 fun q_24 => atK l2 0 fun q_25 => asI .i64 (.c q_25) fun n_26 => idxSK 9 q_24 n_26 fun k_27 N_28 o_29 => rdH h_18 k_27 N_28 fun l_30 => if o_29 + 9 ≤ l_30.length then if 0 = 0 ∧ (List.replicate 9 (Cell.int .i64 0)).length = 9 ∧ ((l_30.drop o_29).take 9).length = 9 then atK ((l_30.drop o_29).take 9) 0 fun q_31 => asI .i64 (.c q_31) fun n_32 => scK (n_32 == 5) false (atK ((l_30.drop o_29).take 9) 0 fun q_33 => asI .i64 (.c q_33) fun n_34 => some ((n_34 == 6), h_18)) true h_18 fun b_35 h_36 => if b_35 = true then if 0 = 0 ∧ (List.replicate 9 (Cell.int .i64 0)).length = 9 ∧ (List.replicate 9 (Cell.int .i64 0)).length = 9 then if 0 = 0 ∧ (List.replicate 9 (Cell.int .i64 0)).length = 9 then some ([(.agg (List.replicate 9 (Cell.int .i64 0))), (.c (.bool false))], h_36) else none else none else if 0 = 0 ∧ ((l_30.drop o_29).take 9).length = 9 then if 0 = 0 ∧ (List.replicate 9 (Cell.int .i64 0)).length = 9 ∧ ((l_30.drop o_29).take 9).length = 9 then if 0 = 0 ∧ ((l_30.drop o_29).take 9).length = 9 then some ([(.agg ((l_30.drop o_29).take 9)), (.c (.bool true))], h_36) else none else none else none else none else none else none := by kernel_rfl

/- jacquard/jacquardref6.Reads: 85 -/
set_option maxRecDepth 100000 in
theorem jacquardref6_Reads_eq (C : CallF) (L : LoopF) (G : Glo) (l0 : List Cell) (h0 : AHeap) :
    jacquardref6_Reads.body C L G [(.agg l0)] h0 =
    atK l0 2 fun q_1 => asI .i64 (.c q_1) fun n_2 => scK (n_2 == 1) false (atK l0 2 fun q_3 => asI .i64 (.c q_3) fun n_4 => some ((n_4 == 4), h0)) true h0 fun b_5 h_6 => scK b_5 false (atK l0 2 fun q_7 => asI .i64 (.c q_7) fun n_8 => some ((n_8 == 5), h_6)) true h_6 fun b_9 h_10 => some ([(.c (.bool b_9))], h_10) := by kernel_rfl

/- jacquard/jacquardref6.Writes: 86 -/
set_option maxRecDepth 100000 in
theorem jacquardref6_Writes_eq (C : CallF) (L : LoopF) (G : Glo) (l0 : List Cell) (h0 : AHeap) :
    jacquardref6_Writes.body C L G [(.agg l0)] h0 =
    atK l0 2 fun q_1 => asI .i64 (.c q_1) fun n_2 => scK (n_2 == 2) false (atK l0 2 fun q_3 => asI .i64 (.c q_3) fun n_4 => some ((n_4 == 4), h0)) true h0 fun b_5 h_6 => some ([(.c (.bool b_5))], h_6) := by kernel_rfl

/- jacquard/jacquardref6.Fences: 87 -/
set_option maxRecDepth 100000 in
theorem jacquardref6_Fences_eq (C : CallF) (L : LoopF) (G : Glo) (l0 : List Cell) (h0 : AHeap) :
    jacquardref6_Fences.body C L G [(.agg l0)] h0 =
    atK l0 2 fun q_1 => asI .i64 (.c q_1) fun n_2 => scK (n_2 == 3) false (atK l0 2 fun q_3 => asI .i64 (.c q_3) fun n_4 => some ((n_4 == 4), h0)) true h0 fun b_5 h_6 => scK b_5 false (atK l0 2 fun q_7 => asI .i64 (.c q_7) fun n_8 => some ((n_8 == 5), h_6)) true h_6 fun b_9 h_10 => some ([(.c (.bool b_9))], h_10) := by kernel_rfl

/- jacquard/jacquardref6.Inits: 89 -/
def jacquardref6_Inits_k2 (C : CallF) (L : LoopF) (G : Glo) (h0 : AHeap) : Ex → St → Option (List AV × AHeap) :=
  kSeq (fun st => jacquardref6_Inits_p1.exec C L G st (jacquardref6_Inits.fin G h0)) (jacquardref6_Inits.fin G h0)
def jacquardref6_Inits_k3 (C : CallF) (L : LoopF) (G : Glo) (h0 : AHeap) : Ex → St → Option (List AV × AHeap) :=
  kBlk 0 (jacquardref6_Inits_k2 C L G h0)
def jacquardref6_Inits_s1 (x3 : Cell) (a4 : Int) (s0 : List Cell) (h : AHeap) : St := ⟨[.top, .loc 0 0, .top, .v (.c x3), .v (.c (.int .i64 a4)), .top, .top, .top, .top, .top, .top, .top, .top, .top, .top, .top, .top, .top, .top, .top, .top, .top, .top, .top], [some s0], h⟩
def jacquardref6_Inits_F1 (C : CallF) (L : LoopF) (G : Glo) : St → Option (Ex × St) :=
  roundF (fun st f => jacquardref6_Inits_b1.exec C L G st f) [1, 3, 4] [0] [(1, [3], [])]
def jacquardref6_Inits_x1_1 (x3 : Cell) (h : AHeap) : St := ⟨[.top, .top, .top, .v (.c x3), .top, .top, .top, .top, .top, .top, .top, .top, .top, .top, .top, .top, .top, .top, .top, .top, .top, .top, .top, .top], [none], h⟩
theorem jacquardref6_Inits_r1 (C : CallF) (L : LoopF) (G : Glo) (x3 : Cell) (a4 : Int) (s0 : List Cell) (h : AHeap) :
    jacquardref6_Inits_F1 C L G (jacquardref6_Inits_s1 x3 a4 s0 h) =
    atK s0 0 fun q_1 => lenK q_1 fun n_2 => if (decide (a4 < n_2)) = true then atK s0 1 fun q_3 => idxSK 1 q_3 a4 fun k_4 N_5 o_6 => rdH h k_4 N_5 fun l_7 => atK l_7 o_6 fun q_8 => asI .i64 (.c q_8) fun n_9 => if (splice (splice (splice (splice (splice [Cell.int .i64 0, Cell.int .i64 0, Cell.int .i64 0, Cell.int .i64 0, Cell.int .i64 0, Cell.int .i64 0] 0 ([(.int .i64 (-1))] : List Cell)) 1 ([(.int .i64 a4)] : List Cell)) 2 ([(.int .i64 2)] : List Cell)) 3 ([(.int .i64 a4)] : List Cell)) 5 ([(.int .i64 n_9)] : List Cell)).length = 6 ∧ 0 + 6 ≤ [Cell.int .i64 0, Cell.int .i64 0, Cell.int .i64 0, Cell.int .i64 0, Cell.int .i64 0, Cell.int .i64 0].length then if (splice [Cell.int .i64 0, Cell.int .i64 0, Cell.int .i64 0, Cell.int .i64 0, Cell.int .i64 0, Cell.int .i64 0] 0 (splice (splice (splice (splice (splice [Cell.int .i64 0, Cell.int .i64 0, Cell.int .i64 0, Cell.int .i64 0, Cell.int .i64 0, Cell.int .i64 0] 0 ([(.int .i64 (-1))] : List Cell)) 1 ([(.int .i64 a4)] : List Cell)) 2 ([(.int .i64 2)] : List Cell)) 3 ([(.int .i64 a4)] : List Cell)) 5 ([(.int .i64 n_9)] : List Cell))).length = 1 * 6 then appK 6 48 x3 (splice [Cell.int .i64 0, Cell.int .i64 0, Cell.int .i64 0, Cell.int .i64 0, Cell.int .i64 0, Cell.int .i64 0] 0 (splice (splice (splice (splice (splice [Cell.int .i64 0, Cell.int .i64 0, Cell.int .i64 0, Cell.int .i64 0, Cell.int .i64 0, Cell.int .i64 0] 0 ([(.int .i64 (-1))] : List Cell)) 1 ([(.int .i64 a4)] : List Cell)) 2 ([(.int .i64 2)] : List Cell)) 3 ([(.int .i64 a4)] : List Cell)) 5 ([(.int .i64 n_9)] : List Cell))) h fun x_10 h_11 => some (.normal, (jacquardref6_Inits_s1 x_10 (G.wrap .i64 (a4 + 1)) s0 h_11)) else none else none else some ((.exit 0), (jacquardref6_Inits_x1_1 x3 h)) := by kernel_rfl
theorem jacquardref6_Inits_e1_1 (C : CallF) (L : LoopF) (G : Glo) (h0 : AHeap) (x3 : Cell) (h : AHeap) :
    (jacquardref6_Inits_k3 C L G h0) (.exit 0) (jacquardref6_Inits_x1_1 x3 h) =
    some ([(.c x3)], h) := by kernel_rfl
set_option maxRecDepth 100000 in
theorem jacquardref6_Inits_eq (C : CallF) (L : LoopF) (G : Glo) (l0 : List Cell) (h0 : AHeap) :
    jacquardref6_Inits.body C L G [(.agg l0)] h0 =
    (L (jacquardref6_Inits_F1 C L G) (jacquardref6_Inits_s1 .nils 0 l0 h0)).bind fun p_12 => (jacquardref6_Inits_k3 C L G h0) p_12.1 p_12.2 := by kernel_rfl

/- jacquard/jacquardref6.PO: 91 -/
def jacquardref6_PO_k2 (C : CallF) (L : LoopF) (G : Glo) (h0 : AHeap) : Ex → St → Option (List AV × AHeap) :=
  kSeq (fun st => jacquardref6_PO_p1.exec C L G st (jacquardref6_PO.fin G h0)) (jacquardref6_PO.fin G h0)
def jacquardref6_PO_k3 (C : CallF) (L : LoopF) (G : Glo) (h0 : AHeap) : Ex → St → Option (List AV × AHeap) :=
  kBlk 0 (jacquardref6_PO_k2 C L G h0)
def jacquardref6_PO_s2 (x0 : Cell) (k3 : Nat) (N3 : Nat) (o3 : Nat) (a4 : Int) (s0 : List Cell) (h : AHeap) : St := ⟨[.v (.c x0), .top, .loc 0 0, .v (.c (.ptr k3 N3 o3)), .v (.c (.int .i64 a4)), .top, .top, .top, .top, .top, .top, .top, .top, .top, .top, .top, .top, .top, .top, .top, .top, .top, .top, .top, .top, .top, .top, .top, .top, .top, .top, .top, .top, .top, .top, .top, .top, .top, .top, .top, .top, .top, .top, .top, .top, .top, .top, .top, .top, .top, .top, .top, .top, .top, .top, .top, .top, .top, .top, .top, .top, .top, .top, .top, .top, .top, .top, .top, .top, .top, .top, .top, .top, .top, .top, .top, .top, .top], [some s0], h⟩
def jacquardref6_PO_F2 (C : CallF) (L : LoopF) (G : Glo) : St → Option (Ex × St) :=
  roundF (fun st f => jacquardref6_PO_b2.exec C L G st f) [0, 2, 3, 4] [0] [(1, [2, 3], [0])]
def jacquardref6_PO_k4 (C : CallF) (L : LoopF) (G : Glo) : Ex → St → Option (Ex × St) :=
  kSeq (fun st => jacquardref6_PO_p2.exec C L G st (kLoop [0, 2, 3, 4] [0] [(1, [2, 3], [0])])) (kLoop [0, 2, 3, 4] [0] [(1, [2, 3], [0])])
def jacquardref6_PO_k5 (C : CallF) (L : LoopF) (G : Glo) : Ex → St → Option (Ex × St) :=
  kBlk 1 (jacquardref6_PO_k4 C L G)
def jacquardref6_PO_k6 (C : CallF) (L : LoopF) (G : Glo) : Ex → St → Option (Ex × St) :=
  kBlk 2 (jacquardref6_PO_k5 C L G)
def jacquardref6_PO_s1 (x0 : Cell) (k3 : Nat) (N3 : Nat) (o3 : Nat) (a4 : Int) (a5 : Int) (s0 : List Cell) (h : AHeap) : St := ⟨[.v (.c x0), .top, .loc 0 0, .v (.c (.ptr k3 N3 o3)), .v (.c (.int .i64 a4)), .v (.c (.int .i64 a5)), .top, .top, .top, .top, .top, .top, .top, .top, .top, .top, .top, .top, .top, .top, .top, .top, .top, .top, .top, .top, .top, .top, .top, .top, .top, .top, .top, .top, .top, .top, .top, .top, .top, .top, .top, .top, .top, .top, .top, .top, .top, .top, .top, .top, .top, .top, .top, .top, .top, .top, .top, .top, .top, .top, .top, .top, .top, .top, .top, .top, .top, .top, .top, .top, .top, .top, .top, .top, .top, .top, .top, .top], [some s0], h⟩
def jacquardref6_PO_F1 (C : CallF) (L : LoopF) (G : Glo) : St → Option (Ex × St) :=
  roundF (fun st f => jacquardref6_PO_b1.exec C L G st f) [0, 2, 3, 4, 5] [0] [(3, [0, 2, 3, 4], [0])]
def jacquardref6_PO_x1_3 (x0 : Cell) (k3 : Nat) (N3 : Nat) (o3 : Nat) (a4 : Int) (s0 : List Cell) (h : AHeap) : St := ⟨[.v (.c x0), .top, .loc 0 0, .v (.c (.ptr k3 N3 o3)), .v (.c (.int .i64 a4)), .top, .top, .top, .top, .top, .top, .top, .top, .top, .top, .top, .top, .top, .top, .top, .top, .top, .top, .top, .top, .top, .top, .top, .top, .top, .top, .top, .top, .top, .top, .top, .top, .top, .top, .top, .top, .top, .top, .top, .top, .top, .top, .top, .top, .top, .top, .top, .top, .top, .top, .top, .top, .top, .top, .top, .top, .top, .top, .top, .top, .top, .top, .top, .top, .top, .top, .top, .top, .top, .top, .top, .top, .top], [some s0], h⟩
def jacquardref6_PO_x2_1 (k3 : Nat) (N3 : Nat) (o3 : Nat) (s0 : List Cell) (h : AHeap) : St := ⟨[.top, .top, .loc 0 0, .v (.c (.ptr k3 N3 o3)), .top, .top, .top, .top, .top, .top, .top, .top, .top, .top, .top, .top, .top, .top, .top, .top, .top, .top, .top, .top, .top, .top, .top, .top, .top, .top, .top, .top, .top, .top, .top, .top, .top, .top, .top, .top, .top, .top, .top, .top, .top, .top, .top, .top, .top, .top, .top, .top, .top, .top, .top, .top, .top, .top, .top, .top, .top, .top, .top, .top, .top, .top, .top, .top, .top, .top, .top, .top, .top, .top, .top, .top, .top, .top], [some s0], h⟩
theorem jacquardref6_PO_r1 (C : CallF) (L : LoopF) (G : Glo) (x0 : Cell) (k3 : Nat) (N3 : Nat) (o3 : Nat) (a4 : Int) (a5 : Int) (s0 : List Cell) (h : AHeap) :
    jacquardref6_PO_F1 C L G (jacquardref6_PO_s1 x0 k3 N3 o3 a4 a5 s0 h) =
    lenK x0 fun n_9 => if (decide (a5 < n_9)) = true then idxSK 6 x0 a4 fun k_10 N_11 o_12 => rdH h k_10 N_11 fun l_13 => atK l_13 (o_12 + 0) fun q_14 => asI .i64 (.c q_14) fun n_15 => scK (decide (n_15 < 0)) true (idxSK 6 x0 a5 fun k_16 N_17 o_18 => rdH h k_16 N_17 fun l_19 => atK l_19 (o_18 + 0) fun q_20 => asI .i64 (.c q_20) fun n_21 => some ((decide (n_21 ≥ 0)), h)) false h fun b_22 h_23 => scK b_22 false (idxSK 6 x0 a4 fun k_24 N_25 o_26 => rdH h_23 k_24 N_25 fun l_27 => atK l_27 (o_26 + 0) fun q_28 => asI .i64 (.c q_28) fun n_29 => scK (decide (n_29 ≥ 0)) true (idxSK 6 x0 a4 fun k_30 N_31 o_32 => rdH h_23 k_30 N_31 fun l_33 => atK l_33 (o_32 + 0) fun q_34 => asI .i64 (.c q_34) fun n_35 => idxSK 6 x0 a5 fun k_36 N_37 o_38 => rdH h_23 k_36 N_37 fun l_39 => atK l_39 (o_38 + 0) fun q_40 => asI .i64 (.c q_40) fun n_41 => some ((n_35 == n_41), h_23)) false h_23 fun b_42 h_43 => scK b_42 true (idxSK 6 x0 a4 fun k_44 N_45 o_46 => rdH h_43 k_44 N_45 fun l_47 => atK l_47 (o_46 + 1) fun q_48 => asI .i64 (.c q_48) fun n_49 => idxSK 6 x0 a5 fun k_50 N_51 o_52 => rdH h_43 k_50 N_51 fun l_53 => atK l_53 (o_52 + 1) fun q_54 => asI .i64 (.c q_54) fun n_55 => some ((decide (n_49 < n_55)), h_43)) false h_43 fun b_56 h_57 => some (b_56, h_57)) true h_23 fun b_58 h_59 => if b_58 = true then c0 (C 13 [(.c (.ptr k3 N3 o3)), (.c (.int .i64 a4)), (.c (.int .i64 a5))] h_59) fun h_60 => some (.normal, (jacquardref6_PO_s1 x0 k3 N3 o3 a4 (G.wrap .i64 (a5 + 1)) s0 h_60)) else some (.normal, (jacquardref6_PO_s1 x0 k3 N3 o3 a4 (G.wrap .i64 (a5 + 1)) s0 h_59)) else some ((.exit 2), (jacquardref6_PO_x1_3 x0 k3 N3 o3 a4 s0 h)) := by kernel_rfl
theorem jacquardref6_PO_e1_3 (C : CallF) (L : LoopF) (G : Glo) (x0 : Cell) (k3 : Nat) (N3 : Nat) (o3 : Nat) (a4 : Int) (s0 : List Cell) (h : AHeap) :
    (jacquardref6_PO_k6 C L G) (.exit 2) (jacquardref6_PO_x1_3 x0 k3 N3 o3 a4 s0 h) =
    some (.normal, (jacquardref6_PO_s2 x0 k3 N3 o3 (G.wrap .i64 (a4 + 1)) s0 h)) := by kernel_rfl
theorem jacquardref6_PO_r2 (C : CallF) (L : LoopF) (G : Glo) (x0 : Cell) (k3 : Nat) (N3 : Nat) (o3 : Nat) (a4 : Int) (s0 : List Cell) (h : AHeap) :
    jacquardref6_PO_F2 C L G (jacquardref6_PO_s2 x0 k3 N3 o3 a4 s0 h) =
    lenK x0 fun n_8 => if (decide (a4 < n_8)) = true then (L (jacquardref6_PO_F1 C L G) (jacquardref6_PO_s1 x0 k3 N3 o3 a4 0 s0 h)).bind fun p_61 => (jacquardref6_PO_k6 C L G) p_61.1 p_61.2 else some ((.exit 0), (jacquardref6_PO_x2_1 k3 N3 o3 s0 h)) := by kernel_rfl
theorem jacquardref6_PO_e2_1 (C : CallF) (L : LoopF) (G : Glo) (h0 : AHeap) (k3 : Nat) (N3 : Nat) (o3 : Nat) (s0 : List Cell) (h : AHeap) :
    (jacquardref6_PO_k3 C L G h0) (.exit 0) (jacquardref6_PO_x2_1 k3 N3 o3 s0 h) =
    rdH h k3 N3 fun l_62 => if o3 = 0 ∧ l_62.length = 65 then if 0 = 0 ∧ s0.length = 65 ∧ l_62.length = 65 then if 0 = 0 ∧ l_62.length = 65 then finish true h0 [(.agg l_62)] h else none else none else none := by kernel_rfl
set_option maxRecDepth 100000 in
theorem jacquardref6_PO_eq (C : CallF) (L : LoopF) (G : Glo) (x0 : Cell) (h0 : AHeap) :
    jacquardref6_PO.body C L G [(.c x0)] h0 =
    rdH (h0 ++ [some (Blk.mk true 0 ([Cell.int .i64 0] ++ List.replicate 64 (Cell.int .u64 0)))]) h0.length (([Cell.int .i64 0] ++ List.replicate 64 (Cell.int .u64 0)).length) fun l_1 => if 0 = 0 ∧ l_1.length = 65 ∧ ([Cell.int .i64 0] ++ List.replicate 64 (Cell.int .u64 0)).length = 65 then putH (h0 ++ [some (Blk.mk true 0 ([Cell.int .i64 0] ++ List.replicate 64 (Cell.int .u64 0)))]) h0.length ([Cell.int .i64 0] ++ List.replicate 64 (Cell.int .u64 0)) fun h_2 => lenK x0 fun n_3 => if (decide (n_3 > 64)) = true then rdH h_2 h0.length (([Cell.int .i64 0] ++ List.replicate 64 (Cell.int .u64 0)).length) fun l_4 => if 0 = 0 ∧ l_4.length = 65 then if 0 = 0 ∧ ([Cell.int .i64 0] ++ List.replicate 64 (Cell.int .u64 0)).length = 65 ∧ l_4.length = 65 then if 0 = 0 ∧ l_4.length = 65 then finish true h0 [(.agg l_4)] h_2 else none else none else none else lenK x0 fun n_5 => rdH h_2 h0.length (([Cell.int .i64 0] ++ List.replicate 64 (Cell.int .u64 0)).length) fun l_6 => if 0 < l_6.length then putH h_2 h0.length (l_6.set 0 (.int .i64 n_5)) fun h_7 => (L (jacquardref6_PO_F2 C L G) (jacquardref6_PO_s2 x0 h0.length (([Cell.int .i64 0] ++ List.replicate 64 (Cell.int .u64 0)).length) 0 0 ([Cell.int .i64 0] ++ List.replicate 64 (Cell.int .u64 0)) h_7)).bind fun p_63 => (jacquardref6_PO_k3 C L G h0) p_63.1 p_63.2 else none else none := by kernel_rfl

/- jacquard/jacquardref6.Value: 92 -/
set_option maxRecDepth 100000 in
theorem jacquardref6_Value_eq (C : CallF) (L : LoopF) (G : Glo) (l0 : List Cell) (l1 : List Cell) (h0 : AHeap) :
    jacquardref6_Value.body C L G [(.agg l0), (.agg l1)] h0 =
    atK l0 0 fun q_1 => asI .i64 (.c q_1) fun n_2 => scK (decide (n_2 ≥ 0)) true (atK l0 0 fun q_3 => asI .i64 (.c q_3) fun n_4 => some ((decide (n_4 ≤ 3)), h0)) false h0 fun b_5 h_6 => if b_5 = true then atK l0 0 fun q_7 => asI .i64 (.c q_7) fun n_8 => if 0 ≤ n_8 ∧ n_8 < ((4 : Nat) : Int) then atK l1 (1 + ((Int.toNat n_8) * 1)) fun q_9 => asI .i64 (.c q_9) fun n_10 => some ([(.c (.int .i64 n_10))], h_6) else none else atK l0 1 fun q_11 => asI .i64 (.c q_11) fun n_12 => some ([(.c (.int .i64 n_12))], h_6) := by kernel_rfl

/- jacquard/jacquardref6.Compile: 101 -/
def jacquardref6_Compile_k2 (C : CallF) (L : LoopF) (G : Glo) (h0 : AHeap) : Ex → St → Option (List AV × AHeap) :=
  kSeq (fun st => jacquardref6_Compile_p1.exec C L G st (jacquardref6_Compile.fin G h0)) (jacquardref6_Compile.fin G h0)
def jacquardref6_Compile_k3 (C : CallF) (L : LoopF) (G : Glo) (h0 : AHeap) : Ex → St → Option (List AV × AHeap) :=
  kBlk 0 (jacquardref6_Compile_k2 C L G h0)
def jacquardref6_Compile_s2 (a4 : Int) (s0 : List Cell) (s1 : List Cell) (s2 : List Cell) (h : AHeap) : St := ⟨[.top, .loc 0 0, .loc 1 0, .loc 2 0, .v (.c (.int .i64 a4)), .top, .top, .top, .top, .top, .top, .top, .top, .top, .top, .top, .top, .top, .top, .top, .top, .top, .top, .top, .top, .top, .top, .top, .top, .top, .top, .top, .top, .top, .top, .top, .top, .top, .top, .top, .top, .top, .top, .top, .top, .top, .top, .top, .top, .top, .top, .top, .top, .top, .top, .top, .top, .top, .top, .top, .top, .top, .top, .top, .top, .top, .top, .top, .top, .top, .top, .top, .top, .top, .top, .top, .top, .top, .top, .top, .top, .top, .top, .top, .top, .top, .top, .top, .top, .top, .top, .top, .top, .top, .top, .top, .top], [some s0, some s1, some s2, none], h⟩
def jacquardref6_Compile_F2 (C : CallF) (L : LoopF) (G : Glo) : St → Option (Ex × St) :=
  roundF (fun st f => jacquardref6_Compile_b2.exec C L G st f) [1, 2, 3, 4] [0, 1, 2] [(1, [1, 2, 3], [0, 1, 2])]
def jacquardref6_Compile_k4 (C : CallF) (L : LoopF) (G : Glo) : Ex → St → Option (Ex × St) :=
  kSeq (fun st => jacquardref6_Compile_p2.exec C L G st (kLoop [1, 2, 3, 4] [0, 1, 2] [(1, [1, 2, 3], [0, 1, 2])])) (kLoop [1, 2, 3, 4] [0, 1, 2] [(1, [1, 2, 3], [0, 1, 2])])
def jacquardref6_Compile_k5 (C : CallF) (L : LoopF) (G : Glo) : Ex → St → Option (Ex × St) :=
  kBlk 1 (jacquardref6_Compile_k4 C L G)
def jacquardref6_Compile_k6 (C : CallF) (L : LoopF) (G : Glo) : Ex → St → Option (Ex × St) :=
  kSeq (fun st => jacquardref6_Compile_p3.exec C L G st (jacquardref6_Compile_k5 C L G)) (jacquardref6_Compile_k5 C L G)
def jacquardref6_Compile_k7 (C : CallF) (L : LoopF) (G : Glo) : Ex → St → Option (Ex × St) :=
  kBlk 2 (jacquardref6_Compile_k6 C L G)
def jacquardref6_Compile_s1 (a4 : Int) (a5 : Int) (a6 : Int) (s0 : List Cell) (s1 : List Cell) (s2 : List Cell) (h : AHeap) : St := ⟨[.top, .loc 0 0, .loc 1 0, .loc 2 0, .v (.c (.int .i64 a4)), .v (.c (.int .i64 a5)), .v (.c (.int .i64 a6)), .top, .top, .top, .top, .top, .top, .top, .top, .top, .top, .top, .top, .top, .top, .top, .top, .top, .top, .top, .top, .top, .top, .top, .top, .top, .top, .top, .top, .top, .top, .top, .top, .top, .top, .top, .top, .top, .top, .top, .top, .top, .top, .top, .top, .top, .top, .top, .top, .top, .top, .top, .top, .top, .top, .top, .top, .top, .top, .top, .top, .top, .top, .top, .top, .top, .top, .top, .top, .top, .top, .top, .top, .top, .top, .top, .top, .top, .top, .top, .top, .top, .top, .top, .top, .top, .top, .top, .top, .top, .top], [some s0, some s1, some s2, none], h⟩
def jacquardref6_Compile_F1 (C : CallF) (L : LoopF) (G : Glo) : St → Option (Ex × St) :=
  roundF (fun st f => jacquardref6_Compile_b1.exec C L G st f) [1, 2, 3, 4, 5, 6] [0, 1, 2] [(3, [1, 2, 3, 4, 5], [0, 1, 2])]
def jacquardref6_Compile_x1_3 (a4 : Int) (a5 : Int) (s0 : List Cell) (s1 : List Cell) (s2 : List Cell) (h : AHeap) : St := ⟨[.top, .loc 0 0, .loc 1 0, .loc 2 0, .v (.c (.int .i64 a4)), .v (.c (.int .i64 a5)), .top, .top, .top, .top, .top, .top, .top, .top, .top, .top, .top, .top, .top, .top, .top, .top, .top, .top, .top, .top, .top, .top, .top, .top, .top, .top, .top, .top, .top, .top, .top, .top, .top, .top, .top, .top, .top, .top, .top, .top, .top, .top, .top, .top, .top, .top, .top, .top, .top, .top, .top, .top, .top, .top, .top, .top, .top, .top, .top, .top, .top, .top, .top, .top, .top, .top, .top, .top, .top, .top, .top, .top, .top, .top, .top, .top, .top, .top, .top, .top, .top, .top, .top, .top, .top, .top, .top, .top, .top, .top, .top], [some s0, some s1, some s2, none], h⟩
def jacquardref6_Compile_x2_1 (s0 : List Cell) (s1 : List Cell) (s2 : List Cell) (h : AHeap) : St := ⟨[.top, .loc 0 0, .loc 1 0, .loc 2 0, .top, .top, .top, .top, .top, .top, .top, .top, .top, .top, .top, .top, .top, .top, .top, .top, .top, .top, .top, .top, .top, .top, .top, .top, .top, .top, .top, .top, .top, .top, .top, .top, .top, .top, .top, .top, .top, .top, .top, .top, .top, .top, .top, .top, .top, .top, .top, .top, .top, .top, .top, .top, .top, .top, .top, .top, .top, .top, .top, .top, .top, .top, .top, .top, .top, .top, .top, .top, .top, .top, .top, .top, .top, .top, .top, .top, .top, .top, .top, .top, .top, .top, .top, .top, .top, .top, .top, .top, .top, .top, .top, .top, .top], [some s0, some s1, some s2, none], h⟩
def jacquardref6_Compile_k8 (C : CallF) (L : LoopF) (G : Glo) (h0 : AHeap) : Ex → St → Option (List AV × AHeap) :=
  kSeq (fun st => jacquardref6_Compile_p4.exec C L G st (jacquardref6_Compile.fin G h0)) (jacquardref6_Compile.fin G h0)
def jacquardref6_Compile_k9 (C : CallF) (L : LoopF) (G : Glo) (h0 : AHeap) : Ex → St → Option (List AV × AHeap) :=
  kBlk 4 (jacquardref6_Compile_k8 C L G h0)
def jacquardref6_Compile_s4 (a7 : Int) (s0 : List Cell) (s1 : List Cell) (s2 : List Cell) (h : AHeap) : St := ⟨[.top, .loc 0 0, .loc 1 0, .loc 2 0, .top, .top, .top, .v (.c (.int .i64 a7)), .top, .top, .top, .top, .top, .top, .top, .top, .top, .top, .top, .top, .top, .top, .top, .top, .top, .top, .top, .top, .top, .top, .top, .top, .top, .top, .top, .top, .top, .top, .top, .top, .top, .top, .top, .top, .top, .top, .top, .top, .top, .top, .top, .top, .top, .top, .top, .top, .top, .top, .top, .top, .top, .top, .top, .top, .top, .top, .top, .top, .top, .top, .top, .top, .top, .top, .top, .top, .top, .top, .top, .top, .top, .top, .top, .top, .top, .top, .top, .top, .top, .top, .top, .top, .top, .top, .top, .top, .top], [some s0, some s1, some s2, none], h⟩
def jacquardref6_Compile_F4 (C : CallF) (L : LoopF) (G : Glo) : St → Option (Ex × St) :=
  roundF (fun st f => jacquardref6_Compile_b4.exec C L G st f) [1, 2, 3, 7] [0, 1, 2] [(5, [2, 3], [1, 2])]
def jacquardref6_Compile_k10 (C : CallF) (L : LoopF) (G : Glo) : Ex → St → Option (Ex × St) :=
  kSeq (fun st => jacquardref6_Compile_p5.exec C L G st (kLoop [1, 2, 3, 7] [0, 1, 2] [(5, [2, 3], [1, 2])])) (kLoop [1, 2, 3, 7] [0, 1, 2] [(5, [2, 3], [1, 2])])
def jacquardref6_Compile_k11 (C : CallF) (L : LoopF) (G : Glo) : Ex → St → Option (Ex × St) :=
  kBlk 5 (jacquardref6_Compile_k10 C L G)
def jacquardref6_Compile_k12 (C : CallF) (L : LoopF) (G : Glo) : Ex → St → Option (Ex × St) :=
  kSeq (fun st => jacquardref6_Compile_p6.exec C L G st (jacquardref6_Compile_k11 C L G)) (jacquardref6_Compile_k11 C L G)
def jacquardref6_Compile_k13 (C : CallF) (L : LoopF) (G : Glo) : Ex → St → Option (Ex × St) :=
  kBlk 6 (jacquardref6_Compile_k12 C L G)
def jacquardref6_Compile_s3 (a7 : Int) (x8 : Cell) (a9 : Int) (s0 : List Cell) (s1 : List Cell) (s2 : List Cell) (h : AHeap) : St := ⟨[.top, .loc 0 0, .loc 1 0, .loc 2 0, .top, .top, .top, .v (.c (.int .i64 a7)), .v (.c x8), .v (.c (.int .i64 a9)), .top, .top, .top, .top, .top, .top, .top, .top, .top, .top, .top, .top, .top, .top, .top, .top, .top, .top, .top, .top, .top, .top, .top, .top, .top, .top, .top, .top, .top, .top, .top, .top, .top, .top, .top, .top, .top, .top, .top, .top, .top, .top, .top, .top, .top, .top, .top, .top, .top, .top, .top, .top, .top, .top, .top, .top, .top, .top, .top, .top, .top, .top, .top, .top, .top, .top, .top, .top, .top, .top, .top, .top, .top, .top, .top, .top, .top, .top, .top, .top, .top, .top, .top, .top, .top, .top, .top], [some s0, some s1, some s2, none], h⟩
def jacquardref6_Compile_F3 (C : CallF) (L : LoopF) (G : Glo) : St → Option (Ex × St) :=
  roundF (fun st f => jacquardref6_Compile_b3.exec C L G st f) [1, 2, 3, 7, 8, 9] [0, 1, 2] [(7, [1, 2, 3, 7, 8], [0, 1, 2])]
def jacquardref6_Compile_x3_7 (a7 : Int) (x8 : Cell) (s0 : List Cell) (s1 : List Cell) (s2 : List Cell) (h : AHeap) : St := ⟨[.top, .loc 0 0, .loc 1 0, .loc 2 0, .top, .top, .top, .v (.c (.int .i64 a7)), .v (.c x8), .top, .top, .top, .top, .top, .top, .top, .top, .top, .top, .top, .top, .top, .top, .top, .top, .top, .top, .top, .top, .top, .top, .top, .top, .top, .top, .top, .top, .top, .top, .top, .top, .top, .top, .top, .top, .top, .top, .top, .top, .top, .top, .top, .top, .top, .top, .top, .top, .top, .top, .top, .top, .top, .top, .top, .top, .top, .top, .top, .top, .top, .top, .top, .top, .top, .top, .top, .top, .top, .top, .top, .top, .top, .top, .top, .top, .top, .top, .top, .top, .top, .top, .top, .top, .top, .top, .top, .top], [some s0, some s1, some s2, none], h⟩
def jacquardref6_Compile_x4_5 (s1 : List Cell) (s2 : List Cell) (h : AHeap) : St := ⟨[.top, .top, .loc 1 0, .loc 2 0, .top, .top, .top, .top, .top, .top, .top, .top, .top, .top, .top, .top, .top, .top, .top, .top, .top, .top, .top, .top, .top, .top, .top, .top, .top, .top, .top, .top, .top, .top, .top, .top, .top, .top, .top, .top, .top, .top, .top, .top, .top, .top, .top, .top, .top, .top, .top, .top, .top, .top, .top, .top, .top, .top, .top, .top, .top, .top, .top, .top, .top, .top, .top, .top, .top, .top, .top, .top, .top, .top, .top, .top, .top, .top, .top, .top, .top, .top, .top, .top, .top, .top, .top, .top, .top, .top, .top, .top, .top, .top, .top, .top, .top], [none, some s1, some s2, none], h⟩
theorem jacquardref6_Compile_r1 (C : CallF) (L : LoopF) (G : Glo) (a4 : Int) (a5 : Int) (a6 : Int) (s0 : List Cell) (s1 : List Cell) (s2 : List Cell) (h : AHeap) :
    jacquardref6_Compile_F1 C L G (jacquardref6_Compile_s1 a4 a5 a6 s0 s1 s2 h) =
    atK s0 1 fun q_6 => lenK q_6 fun n_7 => if (decide (a6 < n_7)) = true then atK s0 1 fun q_8 => idxSK 2 q_8 a6 fun k_9 N_10 o_11 => rdH h k_9 N_10 fun l_12 => atK l_12 (o_11 + 0) fun q_13 => asI .i64 (.c q_13) fun n_14 => atK s2 0 fun q_15 => idxSK 1 q_15 a4 fun k_16 N_17 o_18 => rdH h k_16 N_17 fun l_19 => atK l_19 o_18 fun q_20 => asI .u8 (.c q_20) fun n_21 => if (n_14 == (G.wrap .i64 n_21)) = true then atK s0 1 fun q_22 => idxSK 2 q_22 a6 fun k_23 N_24 o_25 => rdH h k_23 N_24 fun l_26 => atK l_26 (o_25 + 1) fun q_27 => asI .i64 (.c q_27) fun n_28 => some (.normal, (jacquardref6_Compile_s1 a4 n_28 (G.wrap .i64 (a6 + 1)) s0 s1 s2 h)) else some (.normal, (jacquardref6_Compile_s1 a4 a5 (G.wrap .i64 (a6 + 1)) s0 s1 s2 h)) else some ((.exit 2), (jacquardref6_Compile_x1_3 a4 a5 s0 s1 s2 h)) := by kernel_rfl
theorem jacquardref6_Compile_e1_3 (C : CallF) (L : LoopF) (G : Glo) (a4 : Int) (a5 : Int) (s0 : List Cell) (s1 : List Cell) (s2 : List Cell) (h : AHeap) :
    (jacquardref6_Compile_k7 C L G) (.exit 2) (jacquardref6_Compile_x1_3 a4 a5 s0 s1 s2 h) =
    atK s2 1 fun q_29 => if (splice [Cell.int .i64 0] 0 ([(.int .i64 a5)] : List Cell)).length = 1 * 1 then appK 1 8 q_29 (splice [Cell.int .i64 0] 0 ([(.int .i64 a5)] : List Cell)) h fun x_30 h_31 => if 1 < s2.length then some (.normal, (jacquardref6_Compile_s2 (G.wrap .i64 (a4 + 1)) s0 s1 (s2.set 1 x_30) h_31)) else none else none := by kernel_rfl
theorem jacquardref6_Compile_r2 (C : CallF) (L : LoopF) (G : Glo) (a4 : Int) (s0 : List Cell) (s1 : List Cell) (s2 : List Cell) (h : AHeap) :
    jacquardref6_Compile_F2 C L G (jacquardref6_Compile_s2 a4 s0 s1 s2 h) =
    atK s2 0 fun q_4 => lenK q_4 fun n_5 => if (decide (a4 < n_5)) = true then (L (jacquardref6_Compile_F1 C L G) (jacquardref6_Compile_s1 a4 0 0 s0 s1 s2 h)).bind fun p_32 => (jacquardref6_Compile_k7 C L G) p_32.1 p_32.2 else some ((.exit 0), (jacquardref6_Compile_x2_1 s0 s1 s2 h)) := by kernel_rfl
theorem jacquardref6_Compile_r3 (C : CallF) (L : LoopF) (G : Glo) (a7 : Int) (x8 : Cell) (a9 : Int) (s0 : List Cell) (s1 : List Cell) (s2 : List Cell) (h : AHeap) :
    jacquardref6_Compile_F3 C L G (jacquardref6_Compile_s3 a7 x8 a9 s0 s1 s2 h) =
    atK s0 2 fun q_35 => idxSK 1 q_35 a7 fun k_36 N_37 o_38 => rdH h k_36 N_37 fun l_39 => atK l_39 o_38 fun q_40 => lenK q_40 fun n_41 => if (decide (a9 < n_41)) = true then atK s0 2 fun q_42 => idxSK 1 q_42 a7 fun k_43 N_44 o_45 => rdH h k_43 N_44 fun l_46 => atK l_46 o_45 fun q_47 => idxSK 9 q_47 a9 fun k_48 N_49 o_50 => rdH h k_48 N_49 fun l_51 => if o_50 + 9 ≤ l_51.length then if 0 = 0 ∧ (List.replicate 9 (Cell.int .i64 0)).length = 9 ∧ ((l_51.drop o_50).take 9).length = 9 then atK ((l_51.drop o_50).take 9) 2 fun q_52 => asI .i64 (.c q_52) fun n_53 => if (n_53 != 0) = true then if 0 = 0 ∧ s2.length = 3 then atK ((l_51.drop o_50).take 9) 2 fun q_54 => asI .i64 (.c q_54) fun n_55 => c1 (C 122 [(.agg s2), (.c (.int .i64 n_55))] h) fun y_57 h_56 => asI .i64 y_57 fun n_58 => if 2 < ((l_51.drop o_50).take 9).length then if 0 = 0 ∧ (((l_51.drop o_50).take 9).set 2 (.int .i64 n_58)).length = 9 then if (((l_51.drop o_50).take 9).set 2 (.int .i64 n_58)).length = 9 ∧ 0 + 9 ≤ (List.replicate 9 (Cell.int .i64 0)).length then if (splice (List.replicate 9 (Cell.int .i64 0)) 0 (((l_51.drop o_50).take 9).set 2 (.int .i64 n_58))).length = 1 * 9 then appK 9 72 x8 (splice (List.replicate 9 (Cell.int .i64 0)) 0 (((l_51.drop o_50).take 9).set 2 (.int .i64 n_58))) h_56 fun x_59 h_60 => some (.normal, (jacquardref6_Compile_s3 a7 x_59 (G.wrap .i64 (a9 + 1)) s0 s1 s2 h_60)) else none else none else none else none else none else if 0 = 0 ∧ ((l_51.drop o_50).take 9).length = 9 then if ((l_51.drop o_50).take 9).length = 9 ∧ 0 + 9 ≤ (List.replicate 9 (Cell.int .i64 0)).length then if (splice (List.replicate 9 (Cell.int .i64 0)) 0 ((l_51.drop o_50).take 9)).length = 1 * 9 then appK 9 72 x8 (splice (List.replicate 9 (Cell.int .i64 0)) 0 ((l_51.drop o_50).take 9)) h fun x_61 h_62 => some (.normal, (jacquardref6_Compile_s3 a7 x_61 (G.wrap .i64 (a9 + 1)) s0 s1 s2 h_62)) else none else none else none else none else none else some ((.exit 6), (jacquardref6_Compile_x3_7 a7 x8 s0 s1 s2 h)) := by kernel_rfl
theorem jacquardref6_Compile_e3_7 (C : CallF) (L : LoopF) (G : Glo) (a7 : Int) (x8 : Cell) (s0 : List Cell) (s1 : List Cell) (s2 : List Cell) (h : AHeap) :
    (jacquardref6_Compile_k13 C L G) (.exit 6) (jacquardref6_Compile_x3_7 a7 x8 s0 s1 s2 h) =
    atK s2 2 fun q_63 => if (splice [Cell.nils] 0 ([x8] : List Cell)).length = 1 * 1 then appK 1 24 q_63 (splice [Cell.nils] 0 ([x8] : List Cell)) h fun x_64 h_65 => if 2 < s2.length then some (.normal, (jacquardref6_Compile_s4 (G.wrap .i64 (a7 + 1)) s0 s1 (s2.set 2 x_64) h_65)) else none else none := by kernel_rfl
theorem jacquardref6_Compile_r4 (C : CallF) (L : LoopF) (G : Glo) (a7 : Int) (s0 : List Cell) (s1 : List Cell) (s2 : List Cell) (h : AHeap) :
    jacquardref6_Compile_F4 C L G (jacquardref6_Compile_s4 a7 s0 s1 s2 h) =
    atK s0 2 fun q_33 => lenK q_33 fun n_34 => if (decide (a7 < n_34)) = true then (L (jacquardref6_Compile_F3 C L G) (jacquardref6_Compile_s3 a7 .nils 0 s0 s1 s2 h)).bind fun p_66 => (jacquardref6_Compile_k13 C L G) p_66.1 p_66.2 else some ((.exit 4), (jacquardref6_Compile_x4_5 s1 s2 h)) := by kernel_rfl
theorem jacquardref6_Compile_e4_5 (C : CallF) (L : LoopF) (G : Glo) (h0 : AHeap) (s1 : List Cell) (s2 : List Cell) (h : AHeap) :
    (jacquardref6_Compile_k9 C L G h0) (.exit 4) (jacquardref6_Compile_x4_5 s1 s2 h) =
    if 0 = 0 ∧ s2.length = 3 then if 0 = 0 ∧ s1.length = 3 ∧ s2.length = 3 then if 0 = 0 ∧ s2.length = 3 then some ([(.agg s2)], h) else none else none else none := by kernel_rfl
theorem jacquardref6_Compile_e2_1 (C : CallF) (L : LoopF) (G : Glo) (h0 : AHeap) (s0 : List Cell) (s1 : List Cell) (s2 : List Cell) (h : AHeap) :
    (jacquardref6_Compile_k3 C L G h0) (.exit 0) (jacquardref6_Compile_x2_1 s0 s1 s2 h) =
    (L (jacquardref6_Compile_F4 C L G) (jacquardref6_Compile_s4 0 s0 s1 s2 h)).bind fun p_67 => (jacquardref6_Compile_k9 C L G h0) p_67.1 p_67.2 := by kernel_rfl
set_option maxRecDepth 100000 in
theorem jacquardref6_Compile_eq (C : CallF) (L : LoopF) (G : Glo) (l0 : List Cell) (h0 : AHeap) :
    jacquardref6_Compile.body C L G [(.agg l0)] h0 =
    if 0 = 0 ∧ l0.length = 5 then c1 (C 121 [(.agg l0)] h0) fun y_2 h_1 => asC y_2 fun x_3 => if 0 = 0 ∧ [Cell.nils, Cell.nils, Cell.nils].length = 3 ∧ (splice [Cell.nils, Cell.nils, Cell.nils] 0 ([x_3] : List Cell)).length = 3 then (L (jacquardref6_Compile_F2 C L G) (jacquardref6_Compile_s2 0 l0 [Cell.nils, Cell.nils, Cell.nils] (splice [Cell.nils, Cell.nils, Cell.nils] 0 ([x_3] : List Cell)) h_1)).bind fun p_68 => (jacquardref6_Compile_k3 C L G h0) p_68.1 p_68.2 else none else none := by kernel_rfl

/- jacquard/jacquardref6.Start: 104 -/
set_option maxRecDepth 100000 in
theorem jacquardref6_Start_eq (C : CallF) (L : LoopF) (G : Glo) (l0 : List Cell) (a1 : Int) (h0 : AHeap) :
    jacquardref6_Start.body C L G [(.agg l0), (.c (.int .i64 a1))] h0 =
    if 0 = 0 ∧ l0.length = 3 then c1 (C 110 [(.agg l0), (.c (.int .i64 a1))] h0) fun y_2 h_1 => asB y_2 fun b_3 => if (!b_3) = true then if 0 = 0 ∧ [Cell.int .i64 0, Cell.int .i64 0, Cell.int .i64 0, Cell.int .i64 0, Cell.int .i64 0].length = 5 ∧ [Cell.int .i64 0, Cell.int .i64 0, Cell.int .i64 0, Cell.int .i64 0, Cell.int .i64 0].length = 5 then if 0 = 0 ∧ [Cell.int .i64 0, Cell.int .i64 0, Cell.int .i64 0, Cell.int .i64 0, Cell.int .i64 0].length = 5 then some ([(.agg [Cell.int .i64 0, Cell.int .i64 0, Cell.int .i64 0, Cell.int .i64 0, Cell.int .i64 0])], h_1) else none else none else if 0 = 0 ∧ l0.length = 3 then c1 (C 123 [(.agg l0), (.c (.int .i64 a1)), (.agg [Cell.int .i64 0, Cell.int .i64 0, Cell.int .i64 0, Cell.int .i64 0, Cell.int .i64 0])] h_1) fun y_5 h_4 => asA y_5 fun l_6 => if 0 = 0 ∧ [Cell.int .i64 0, Cell.int .i64 0, Cell.int .i64 0, Cell.int .i64 0, Cell.int .i64 0].length = 5 ∧ l_6.length = 5 then if 0 = 0 ∧ l_6.length = 5 then some ([(.agg l_6)], h_4) else none else none else none else none := by kernel_rfl

/- jacquard/jacquardref6.After: 107 -/
set_option maxRecDepth 100000 in
theorem jacquardref6_After_eq (C : CallF) (L : LoopF) (G : Glo) (l0 : List Cell) (a1 : Int) (l2 : List Cell) (a3 : Int) (h0 : AHeap) :
    jacquardref6_After.body C L G [(.agg l0), (.c (.int .i64 a1)), (.agg l2), (.c (.int .i64 a3))] h0 =
    if 0 = 0 ∧ l0.length = 3 then if 0 = 0 ∧ l2.length = 5 then c2 (C 81 [(.agg l0), (.c (.int .i64 a1)), (.agg l2)] h0) fun y_2 y_3 h_1 => asA y_2 fun l_4 => asB y_3 fun b_5 => if 0 = 0 ∧ (List.replicate 9 (Cell.int .i64 0)).length = 9 ∧ l_4.length = 9 then if (!b_5) = true then if 0 = 0 ∧ l2.length = 5 then if 0 = 0 ∧ [Cell.int .i64 0, Cell.int .i64 0, Cell.int .i64 0, Cell.int .i64 0, Cell.int .i64 0].length = 5 ∧ l2.length = 5 then if 0 = 0 ∧ l2.length = 5 then some ([(.agg l2)], h_1) else none else none else none else atK l_4 0 fun q_6 => asI .i64 (.c q_6) fun n_7 => scK (n_7 == 2) false (atK l_4 0 fun q_8 => asI .i64 (.c q_8) fun n_9 => some ((n_9 == 4), h_1)) true h_1 fun b_10 h_11 => if b_10 = true then atK l_4 1 fun q_12 => asI .i64 (.c q_12) fun n_13 => if 0 ≤ n_13 ∧ n_13 < ((4 : Nat) : Int) then if (1 + ((Int.toNat n_13) * 1)) < l2.length then atK (l2.set (1 + ((Int.toNat n_13) * 1)) (.int .i64 a3)) 0 fun q_14 => asI .i64 (.c q_14) fun n_15 => if 0 < (l2.set (1 + ((Int.toNat n_13) * 1)) (.int .i64 a3)).length then if 0 = 0 ∧ l0.length = 3 then if 0 = 0 ∧ ((l2.set (1 + ((Int.toNat n_13) * 1)) (.int .i64 a3)).set 0 (.int .i64 (G.wrap .i64 (n_15 + 1)))).length = 5 then c1 (C 123 [(.agg l0), (.c (.int .i64 a1)), (.agg ((l2.set (1 + ((Int.toNat n_13) * 1)) (.int .i64 a3)).set 0 (.int .i64 (G.wrap .i64 (n_15 + 1)))))] h_11) fun y_17 h_16 => asA y_17 fun l_18 => if 0 = 0 ∧ [Cell.int .i64 0, Cell.int .i64 0, Cell.int .i64 0, Cell.int .i64 0, Cell.int .i64 0].length = 5 ∧ l_18.length = 5 then if 0 = 0 ∧ l_18.length = 5 then some ([(.agg l_18)], h_16) else none else none else none else none else none else none else none else atK l2 0 fun q_19 => asI .i64 (.c q_19) fun n_20 => if 0 < l2.length then if 0 = 0 ∧ l0.length = 3 then if 0 = 0 ∧ (l2.set 0 (.int .i64 (G.wrap .i64 (n_20 + 1)))).length = 5 then c1 (C 123 [(.agg l0), (.c (.int .i64 a1)), (.agg (l2.set 0 (.int .i64 (G.wrap .i64 (n_20 + 1)))))] h_11) fun y_22 h_21 => asA y_22 fun l_23 => if 0 = 0 ∧ [Cell.int .i64 0, Cell.int .i64 0, Cell.int .i64 0, Cell.int .i64 0, Cell.int .i64 0].length = 5 ∧ l_23.length = 5 then if 0 = 0 ∧ l_23.length = 5 then some ([(.agg l_23)], h_21) else none else none else none else none else none else none else none else none := by kernel_rfl

/- jacquard/jacquardref6.there: 110 -/
set_option maxRecDepth 100000 in
theorem jacquardref6_there_eq (C : CallF) (L : LoopF) (G : Glo) (l0 : List Cell) (a1 : Int) (h0 : AHeap) :
    jacquardref6_there.body C L G [(.agg l0), (.c (.int .i64 a1))] h0 =
    scK (decide (a1 ≥ 0)) true (atK l0 2 fun q_1 => lenK q_1 fun n_2 => some ((decide (a1 < n_2)), h0)) false h0 fun b_3 h_4 => some ([(.c (.bool b_3))], h_4) := by kernel_rfl

/- jacquard/jacquardref6.Event: 111 -/
set_option maxRecDepth 100000 in
theorem jacquardref6_Event_eq (C : CallF) (L : LoopF) (G : Glo) (l0 : List Cell) (l1 : List Cell) (a2 : Int) (h0 : AHeap) :
    jacquardref6_Event.body C L G [(.agg l0), (.agg l1), (.c (.int .i64 a2))] h0 =
    atK l0 0 fun q_1 => asI .i64 (.c q_1) fun n_2 => if (n_2 == 1) = true then atK l0 2 fun q_3 => asI .i64 (.c q_3) fun n_4 => if 3 + 2 ≤ l0.length then if 0 = 0 ∧ l1.length = 5 then c1 (qh h0 (C 92 [(.agg ((l0.drop 3).take 2)), (.agg l1)] h0)) fun y_6 h_5 => asI .i64 y_6 fun n_7 => if 0 = 0 ∧ [Cell.int .i64 0, Cell.int .i64 0, Cell.int .i64 0, Cell.int .i64 0, Cell.int .i64 0, Cell.int .i64 0].length = 6 ∧ (splice (splice (splice [Cell.int .i64 0, Cell.int .i64 0, Cell.int .i64 0, Cell.int .i64 0, Cell.int .i64 0, Cell.int .i64 0] 2 ([(.int .i64 2)] : List Cell)) 3 ([(.int .i64 n_4)] : List Cell)) 5 ([(.int .i64 n_7)] : List Cell)).length = 6 then if 0 = 0 ∧ (splice (splice (splice [Cell.int .i64 0, Cell.int .i64 0, Cell.int .i64 0, Cell.int .i64 0, Cell.int .i64 0, Cell.int .i64 0] 2 ([(.int .i64 2)] : List Cell)) 3 ([(.int .i64 n_4)] : List Cell)) 5 ([(.int .i64 n_7)] : List Cell)).length = 6 then some ([(.agg (splice (splice (splice [Cell.int .i64 0, Cell.int .i64 0, Cell.int .i64 0, Cell.int .i64 0, Cell.int .i64 0, Cell.int .i64 0] 2 ([(.int .i64 2)] : List Cell)) 3 ([(.int .i64 n_4)] : List Cell)) 5 ([(.int .i64 n_7)] : List Cell)))], h0) else none else none else none else none else if (n_2 == 2) = true then atK l0 2 fun q_8 => asI .i64 (.c q_8) fun n_9 => if 0 = 0 ∧ [Cell.int .i64 0, Cell.int .i64 0, Cell.int .i64 0, Cell.int .i64 0, Cell.int .i64 0, Cell.int .i64 0].length = 6 ∧ (splice (splice (splice [Cell.int .i64 0, Cell.int .i64 0, Cell.int .i64 0, Cell.int .i64 0, Cell.int .i64 0, Cell.int .i64 0] 2 ([(.int .i64 1)] : List Cell)) 3 ([(.int .i64 n_9)] : List Cell)) 4 ([(.int .i64 a2)] : List Cell)).length = 6 then if 0 = 0 ∧ (splice (splice (splice [Cell.int .i64 0, Cell.int .i64 0, Cell.int .i64 0, Cell.int .i64 0, Cell.int .i64 0, Cell.int .i64 0] 2 ([(.int .i64 1)] : List Cell)) 3 ([(.int .i64 n_9)] : List Cell)) 4 ([(.int .i64 a2)] : List Cell)).length = 6 then some ([(.agg (splice (splice (splice [Cell.int .i64 0, Cell.int .i64 0, Cell.int .i64 0, Cell.int .i64 0, Cell.int .i64 0, Cell.int .i64 0] 2 ([(.int .i64 1)] : List Cell)) 3 ([(.int .i64 n_9)] : List Cell)) 4 ([(.int .i64 a2)] : List Cell)))], h0) else none else none else if (n_2 == 4) = true then if 3 + 2 ≤ l0.length then if 0 = 0 ∧ l1.length = 5 then c1 (C 92 [(.agg ((l0.drop 3).take 2)), (.agg l1)] h0) fun y_11 h_10 => asI .i64 y_11 fun n_12 => if (a2 == n_12) = true then atK l0 2 fun q_13 => asI .i64 (.c q_13) fun n_14 => if 6 + 2 ≤ l0.length then if 0 = 0 ∧ l1.length = 5 then c1 (qh h_10 (C 92 [(.agg ((l0.drop 6).take 2)), (.agg l1)] h_10)) fun y_16 h_15 => asI .i64 y_16 fun n_17 => if 0 = 0 ∧ [Cell.int .i64 0, Cell.int .i64 0, Cell.int .i64 0, Cell.int .i64 0, Cell.int .i64 0, Cell.int .i64 0].length = 6 ∧ (splice (splice (splice (splice [Cell.int .i64 0, Cell.int .i64 0, Cell.int .i64 0, Cell.int .i64 0, Cell.int .i64 0, Cell.int .i64 0] 2 ([(.int .i64 4)] : List Cell)) 3 ([(.int .i64 n_14)] : List Cell)) 4 ([(.int .i64 a2)] : List Cell)) 5 ([(.int .i64 n_17)] : List Cell)).length = 6 then if 0 = 0 ∧ (splice (splice (splice (splice [Cell.int .i64 0, Cell.int .i64 0, Cell.int .i64 0, Cell.int .i64 0, Cell.int .i64 0, Cell.int .i64 0] 2 ([(.int .i64 4)] : List Cell)) 3 ([(.int .i64 n_14)] : List Cell)) 4 ([(.int .i64 a2)] : List Cell)) 5 ([(.int .i64 n_17)] : List Cell)).length = 6 then some ([(.agg (splice (splice (splice (splice [Cell.int .i64 0, Cell.int .i64 0, Cell.int .i64 0, Cell.int .i64 0, Cell.int .i64 0, Cell.int .i64 0] 2 ([(.int .i64 4)] : List Cell)) 3 ([(.int .i64 n_14)] : List Cell)) 4 ([(.int .i64 a2)] : List Cell)) 5 ([(.int .i64 n_17)] : List Cell)))], h_10) else none else none else none else none else atK l0 2 fun q_18 => asI .i64 (.c q_18) fun n_19 => if 0 = 0 ∧ [Cell.int .i64 0, Cell.int .i64 0, Cell.int .i64 0, Cell.int .i64 0, Cell.int .i64 0, Cell.int .i64 0].length = 6 ∧ (splice (splice (splice [Cell.int .i64 0, Cell.int .i64 0, Cell.int .i64 0, Cell.int .i64 0, Cell.int .i64 0, Cell.int .i64 0] 2 ([(.int .i64 5)] : List Cell)) 3 ([(.int .i64 n_19)] : List Cell)) 4 ([(.int .i64 a2)] : List Cell)).length = 6 then if 0 = 0 ∧ (splice (splice (splice [Cell.int .i64 0, Cell.int .i64 0, Cell.int .i64 0, Cell.int .i64 0, Cell.int .i64 0, Cell.int .i64 0] 2 ([(.int .i64 5)] : List Cell)) 3 ([(.int .i64 n_19)] : List Cell)) 4 ([(.int .i64 a2)] : List Cell)).length = 6 then some ([(.agg (splice (splice (splice [Cell.int .i64 0, Cell.int .i64 0, Cell.int .i64 0, Cell.int .i64 0, Cell.int .i64 0, Cell.int .i64 0] 2 ([(.int .i64 5)] : List Cell)) 3 ([(.int .i64 n_19)] : List Cell)) 4 ([(.int .i64 a2)] : List Cell)))], h_10) else none else none else none else none else if 0 = 0 ∧ [Cell.int .i64 0, Cell.int .i64 0, Cell.int .i64 0, Cell.int .i64 0, Cell.int .i64 0, Cell.int .i64 0].length = 6 ∧ (splice [Cell.int .i64 0, Cell.int .i64 0, Cell.int .i64 0, Cell.int .i64 0, Cell.int .i64 0, Cell.int .i64 0] 2 ([(.int .i64 3)] : List Cell)).length = 6 then if 0 = 0 ∧ (splice [Cell.int .i64 0, Cell.int .i64 0, Cell.int .i64 0, Cell.int .i64 0, Cell.int .i64 0, Cell.int .i64 0] 2 ([(.int .i64 3)] : List Cell)).length = 6 then some ([(.agg (splice [Cell.int .i64 0, Cell.int .i64 0, Cell.int .i64 0, Cell.int .i64 0, Cell.int .i64 0, Cell.int .i64 0] 2 ([(.int .i64 3)] : List Cell)))], h0) else none else none := by kernel_rfl

/- jacquard/jacquardref6.Place: 122 -/
def jacquardref6_Place_k2 (C : CallF) (L : LoopF) (G : Glo) (h0 : AHeap) : Ex → St → Option (List AV × AHeap) :=
  kSeq (fun st => jacquardref6_Place_p1.exec C L G st (jacquardref6_Place.fin G h0)) (jacquardref6_Place.fin G h0)
def jacquardref6_Place_k3 (C : CallF) (L : LoopF) (G : Glo) (h0 : AHeap) : Ex → St → Option (List AV × AHeap) :=
  kBlk 0 (jacquardref6_Place_k2 C L G h0)
def jacquardref6_Place_s1 (a1 : Int) (a5 : Int) (s0 : List Cell) (h : AHeap) : St := ⟨[.top, .v (.c (.int .i64 a1)), .loc 0 0, .top, .top, .v (.c (.int .i64 a5)), .top, .top, .top, .top, .top, .top, .top, .top, .top, .top, .top, .top, .top, .top, .top, .top], [some s0], h⟩
def jacquardref6_Place_F1 (C : CallF) (L : LoopF) (G : Glo) : St → Option (Ex × St) :=
  roundF (fun st f => jacquardref6_Place_b1.exec C L G st f) [1, 2, 5] [0] [(0, [4], []), (1, [], [])]
def jacquardref6_Place_x1_0 (a4 : Int) (h : AHeap) : St := ⟨[.top, .top, .top, .top, .v (.c (.int .i64 a4)), .top, .top, .top, .top, .top, .top, .top, .top, .top, .top, .top, .top, .top, .top, .top, .top, .top], [none], h⟩
def jacquardref6_Place_x1_1 (h : AHeap) : St := ⟨[.top, .top, .top, .top, .top, .top, .top, .top, .top, .top, .top, .top, .top, .top, .top, .top, .top, .top, .top, .top, .top, .top], [none], h⟩
theorem jacquardref6_Place_r1 (C : CallF) (L : LoopF) (G : Glo) (a1 : Int) (a5 : Int) (s0 : List Cell) (h : AHeap) :
    jacquardref6_Place_F1 C L G (jacquardref6_Place_s1 a1 a5 s0 h) =
    atK s0 0 fun q_1 => lenK q_1 fun n_2 => if (decide (a5 < n_2)) = true then atK s0 0 fun q_3 => idxSK 1 q_3 a5 fun k_4 N_5 o_6 => rdH h k_4 N_5 fun l_7 => atK l_7 o_6 fun q_8 => asI .u8 (.c q_8) fun n_9 => if ((G.wrap .i64 n_9) == a1) = true then some (.ret, (jacquardref6_Place_x1_0 a5 h)) else some (.normal, (jacquardref6_Place_s1 a1 (G.wrap .i64 (a5 + 1)) s0 h)) else some ((.exit 0), (jacquardref6_Place_x1_1 h)) := by kernel_rfl
theorem jacquardref6_Place_e1_0 (C : CallF) (L : LoopF) (G : Glo) (h0 : AHeap) (a4 : Int) (h : AHeap) :
    (jacquardref6_Place_k3 C L G h0) .ret (jacquardref6_Place_x1_0 a4 h) =
    some ([(.c (.int .i64 a4))], h) := by kernel_rfl
theorem jacquardref6_Place_e1_1 (C : CallF) (L : LoopF) (G : Glo) (h0 : AHeap) (h : AHeap) :
    (jacquardref6_Place_k3 C L G h0) (.exit 0) (jacquardref6_Place_x1_1 h) =
    some ([(.c (.int .i64 (-1)))], h) := by kernel_rfl
set_option maxRecDepth 100000 in
theorem jacquardref6_Place_eq (C : CallF) (L : LoopF) (G : Glo) (l0 : List Cell) (a1 : Int) (h0 : AHeap) :
    jacquardref6_Place.body C L G [(.agg l0), (.c (.int .i64 a1))] h0 =
    (L (jacquardref6_Place_F1 C L G) (jacquardref6_Place_s1 a1 0 l0 h0)).bind fun p_10 => (jacquardref6_Place_k3 C L G h0) p_10.1 p_10.2 := by kernel_rfl

/- jacquard/jacquardref6.normal: 123 -/
def jacquardref6_normal_k2 (C : CallF) (L : LoopF) (G : Glo) (h0 : AHeap) : Ex → St → Option (List AV × AHeap) :=
  kSeq (fun st => jacquardref6_normal_p1.exec C L G st (jacquardref6_normal.fin G h0)) (jacquardref6_normal.fin G h0)
def jacquardref6_normal_k3 (C : CallF) (L : LoopF) (G : Glo) (h0 : AHeap) : Ex → St → Option (List AV × AHeap) :=
  kBlk 0 (jacquardref6_normal_k2 C L G h0)
def jacquardref6_normal_s1 (a1 : Int) (s0 : List Cell) (s1 : List Cell) (s2 : List Cell) (h : AHeap) : St := ⟨[.top, .v (.c (.int .i64 a1)), .top, .loc 0 0, .top, .loc 1 0, .loc 2 0, .top, .top, .top, .top, .top, .top, .top, .top, .top, .top, .top, .top, .top, .top, .top, .top, .top, .top, .top, .top, .top, .top, .top, .top, .top, .top, .top, .top, .top, .top, .top, .top, .top, .top, .top, .top, .top, .top, .top, .top, .top, .top, .top, .top, .top, .top, .top, .top, .top, .top, .top, .top, .top, .top, .top, .top, .top, .top, .top, .top, .top, .top, .top, .top, .top, .top, .top, .top, .top, .top, .top, .top, .top, .top], [some s0, some s1, some s2, none], h⟩
def jacquardref6_normal_F1 (C : CallF) (L : LoopF) (G : Glo) : St → Option (Ex × St) :=
  roundF (fun st f => jacquardref6_normal_b1.exec C L G st f) [1, 3, 5, 6] [0, 1, 2] [(0, [6], [2]), (1, [5, 6], [1, 2])]
def jacquardref6_normal_x1_0 (s2 : List Cell) (h : AHeap) : St := ⟨[.top, .top, .top, .top, .top, .top, .loc 2 0, .top, .top, .top, .top, .top, .top, .top, .top, .top, .top, .top, .top, .top, .top, .top, .top, .top, .top, .top, .top, .top, .top, .top, .top, .top, .top, .top, .top, .top, .top, .top, .top, .top, .top, .top, .top, .top, .top, .top, .top, .top, .top, .top, .top, .top, .top, .top, .top, .top, .top, .top, .top, .top, .top, .top, .top, .top, .top, .top, .top, .top, .top, .top, .top, .top, .top, .top, .top, .top, .top, .top, .top, .top, .top], [none, none, some s2, none], h⟩
def jacquardref6_normal_x1_1 (s1 : List Cell) (s2 : List Cell) (h : AHeap) : St := ⟨[.top, .top, .top, .top, .top, .loc 1 0, .loc 2 0, .top, .top, .top, .top, .top, .top, .top, .top, .top, .top, .top, .top, .top, .top, .top, .top, .top, .top, .top, .top, .top, .top, .top, .top, .top, .top, .top, .top, .top, .top, .top, .top, .top, .top, .top, .top, .top, .top, .top, .top, .top, .top, .top, .top, .top, .top, .top, .top, .top, .top, .top, .top, .top, .top, .top, .top, .top, .top, .top, .top, .top, .top, .top, .top, .top, .top, .top, .top, .top, .top, .top, .top, .top, .top], [none, some s1, some s2, none], h⟩
theorem jacquardref6_normal_r1 (C : CallF) (L : LoopF) (G : Glo) (a1 : Int) (s0 : List Cell) (s1 : List Cell) (s2 : List Cell) (h : AHeap) :
    jacquardref6_normal_F1 C L G (jacquardref6_normal_s1 a1 s0 s1 s2 h) =
    atK s1 0 fun q_1 => asI .i64 (.c q_1) fun n_2 => atK s0 2 fun q_3 => idxSK 1 q_3 a1 fun k_4 N_5 o_6 => rdH h k_4 N_5 fun l_7 => atK l_7 o_6 fun q_8 => lenK q_8 fun n_9 => if (decide (n_2 < n_9)) = true then atK s0 2 fun q_10 => idxSK 1 q_10 a1 fun k_11 N_12 o_13 => rdH h k_11 N_12 fun l_14 => atK l_14 o_13 fun q_15 => atK s1 0 fun q_16 => asI .i64 (.c q_16) fun n_17 => idxSK 9 q_15 n_17 fun k_18 N_19 o_20 => rdH h k_18 N_19 fun l_21 => if o_20 + 9 ≤ l_21.length then if 0 = 0 ∧ (List.replicate 9 (Cell.int .i64 0)).length = 9 ∧ ((l_21.drop o_20).take 9).length = 9 then atK ((l_21.drop o_20).take 9) 0 fun q_22 => asI .i64 (.c q_22) fun n_23 => if (n_23 == 5) = true then if 3 + 2 ≤ ((l_21.drop o_20).take 9).length then if 0 = 0 ∧ s1.length = 5 then c1 (C 92 [(.agg ((((l_21.drop o_20).take 9).drop 3).take 2)), (.agg s1)] h) fun y_25 h_24 => asI .i64 y_25 fun n_26 => atK ((l_21.drop o_20).take 9) 5 fun q_27 => asI .i64 (.c q_27) fun n_28 => if (n_28 != 0) = true then atK ((l_21.drop o_20).take 9) 5 fun q_29 => asI .i64 (.c q_29) fun n_30 => if 6 + 2 ≤ ((l_21.drop o_20).take 9).length then if 0 = 0 ∧ s1.length = 5 then c1 (qh h_24 (C 92 [(.agg ((((l_21.drop o_20).take 9).drop 6).take 2)), (.agg s1)] h_24)) fun y_32 h_31 => asI .i64 y_32 fun n_33 => c2 (qh h_24 (C 93 [(.c (.int .i64 n_30)), (.c (.int .i64 n_26)), (.c (.int .i64 n_33))] h_24)) fun y_35 y_36 h_34 => asI .i64 y_35 fun n_37 => asB y_36 fun b_38 => atK ((l_21.drop o_20).take 9) 1 fun q_39 => asI .i64 (.c q_39) fun n_40 => if 0 ≤ n_40 ∧ n_40 < ((4 : Nat) : Int) then if (1 + ((Int.toNat n_40) * 1)) < s1.length then atK (s1.set (1 + ((Int.toNat n_40) * 1)) (.int .i64 n_37)) 0 fun q_41 => asI .i64 (.c q_41) fun n_42 => if 0 < (s1.set (1 + ((Int.toNat n_40) * 1)) (.int .i64 n_37)).length then some (.normal, (jacquardref6_normal_s1 a1 s0 ((s1.set (1 + ((Int.toNat n_40) * 1)) (.int .i64 n_37)).set 0 (.int .i64 (G.wrap .i64 (n_42 + 1)))) s2 h_24)) else none else none else none else none else none else atK ((l_21.drop o_20).take 9) 1 fun q_43 => asI .i64 (.c q_43) fun n_44 => if 0 ≤ n_44 ∧ n_44 < ((4 : Nat) : Int) then if (1 + ((Int.toNat n_44) * 1)) < s1.length then atK (s1.set (1 + ((Int.toNat n_44) * 1)) (.int .i64 n_26)) 0 fun q_45 => asI .i64 (.c q_45) fun n_46 => if 0 < (s1.set (1 + ((Int.toNat n_44) * 1)) (.int .i64 n_26)).length then some (.normal, (jacquardref6_normal_s1 a1 s0 ((s1.set (1 + ((Int.toNat n_44) * 1)) (.int .i64 n_26)).set 0 (.int .i64 (G.wrap .i64 (n_46 + 1)))) s2 h_24)) else none else none else none else none else none else if (n_23 == 6) = true then if 3 + 2 ≤ ((l_21.drop o_20).take 9).length then if 0 = 0 ∧ s1.length = 5 then c1 (qh h (C 92 [(.agg ((((l_21.drop o_20).take 9).drop 3).take 2)), (.agg s1)] h)) fun y_48 h_47 => asI .i64 y_48 fun n_49 => if 6 + 2 ≤ ((l_21.drop o_20).take 9).length then if 0 = 0 ∧ s1.length = 5 then c1 (qh h (C 92 [(.agg ((((l_21.drop o_20).take 9).drop 6).take 2)), (.agg s1)] h)) fun y_51 h_50 => asI .i64 y_51 fun n_52 => if (n_49 == n_52) = true then atK s1 0 fun q_53 => asI .i64 (.c q_53) fun n_54 => atK ((l_21.drop o_20).take 9) 8 fun q_55 => asI .i64 (.c q_55) fun n_56 => if 0 < s1.length then atK (s1.set 0 (.int .i64 (G.wrap .i64 (n_54 + n_56)))) 0 fun q_57 => asI .i64 (.c q_57) fun n_58 => if 0 < (s1.set 0 (.int .i64 (G.wrap .i64 (n_54 + n_56)))).length then some (.normal, (jacquardref6_normal_s1 a1 s0 ((s1.set 0 (.int .i64 (G.wrap .i64 (n_54 + n_56)))).set 0 (.int .i64 (G.wrap .i64 (n_58 + 1)))) s2 h)) else none else none else atK s1 0 fun q_59 => asI .i64 (.c q_59) fun n_60 => if 0 < s1.length then some (.normal, (jacquardref6_normal_s1 a1 s0 (s1.set 0 (.int .i64 (G.wrap .i64 (n_60 + 1)))) s2 h)) else none else none else none else none else none else if 0 = 0 ∧ s1.length = 5 then if 0 = 0 ∧ s2.length = 5 ∧ s1.length = 5 then some (.ret, (jacquardref6_normal_x1_0 s1 h)) else none else none else none else none else some ((.exit 0), (jacquardref6_normal_x1_1 s1 s2 h)) := by kernel_rfl
theorem jacquardref6_normal_e1_0 (C : CallF) (L : LoopF) (G : Glo) (h0 : AHeap) (s2 : List Cell) (h : AHeap) :
    (jacquardref6_normal_k3 C L G h0) .ret (jacquardref6_normal_x1_0 s2 h) =
    if 0 = 0 ∧ s2.length = 5 then some ([(.agg s2)], h) else none := by kernel_rfl
theorem jacquardref6_normal_e1_1 (C : CallF) (L : LoopF) (G : Glo) (h0 : AHeap) (s1 : List Cell) (s2 : List Cell) (h : AHeap) :
    (jacquardref6_normal_k3 C L G h0) (.exit 0) (jacquardref6_normal_x1_1 s1 s2 h) =
    if 0 = 0 ∧ s1.length = 5 then if 0 = 0 ∧ s2.length = 5 ∧ s1.length = 5 then if 0 = 0 ∧ s1.length = 5 then some ([(.agg s1)], h) else none else none else none := by kernel_rfl
set_option maxRecDepth 100000 in
theorem jacquardref6_normal_eq (C : CallF) (L : LoopF) (G : Glo) (l0 : List Cell) (a1 : Int) (l2 : List Cell) (h0 : AHeap) :
    jacquardref6_normal.body C L G [(.agg l0), (.c (.int .i64 a1)), (.agg l2)] h0 =
    (L (jacquardref6_normal_F1 C L G) (jacquardref6_normal_s1 a1 l0 l2 [Cell.int .i64 0, Cell.int .i64 0, Cell.int .i64 0, Cell.int .i64 0, Cell.int .i64 0] h0)).bind fun p_61 => (jacquardref6_normal_k3 C L G h0) p_61.1 p_61.2 := by kernel_rfl


end Jq

/- The statements of relations: what their helpers come to. -/
namespace Jq
open Go

/-- A relation of pairs. -/
def ofR (n : Nat) (l : List (Int × Int)) : Nat → Nat := l.foldl (fun f p => addR n f p.1 p.2) fun _ => 0

theorem words_of (n : Nat) (l : List (Int × Int)) : Words (ofR n l) := by
  unfold ofR
  have : ∀ (l : List (Int × Int)) (f : Nat → Nat), Words f → Words (l.foldl (fun f p => addR n f p.1 p.2) f) := by
    intro l
    induction l with
    | nil => exact fun f h => h
    | cons p l ih => exact fun f h => ih _ (words_add h _ _)
  exact this l _ words_zero

theorem of_snoc (n : Nat) (l : List (Int × Int)) (p : Int × Int) : ofR n (l ++ [p]) = addR n (ofR n l) p.1 p.2 := by
  unfold ofR; rw [List.foldl_append]; rfl

theorem take_succ {α : Type} {l : List α} {i : Nat} {p : α} (h : l[i]? = some p) : l.take (i + 1) = l.take i ++ [p] := by
  rw [List.take_add_one, h]; rfl

variable {E : Env}

theorem refAdd_R (hE : jacquardref6_Rel_Add_In E) {n : Nat} (hn : n ≤ 64) {f : Nat → Nat} (hf : Words f) {a b : Int} (ha : inR n a = true) (hb : inR n b = true) {k : Nat} {h : AHeap} (hk : blk? h k = some ⟨true, 0, relL n f⟩) :
    R E 13 [.c (.ptr k 65 0), .c (.int .i64 a), .c (.int .i64 b)] h = some ([], setBlk h k (some ⟨true, 0, relL n (addR n f a b)⟩)) := by
  refine R_intro hE.fn ?_
  have h2 : 0 ≤ a ∧ a < n := by simpa [inR] using ha
  have h3 : 0 ≤ b ∧ b < n := by simpa [inR] using hb
  have q1 : 0 ≤ a ∧ a < ((64 : Nat) : Int) := by omega
  obtain ⟨m, rfl⟩ := Int.eq_ofNat_of_zero_le h3.1
  have hbit : bitI (m : Int) = 2 ^ m := by unfold bitI; rw [if_pos (by omega)]; simp
  rw [jacquardref6_Rel_Add_eq, if_pos q1, rdH_ok hk (relL_len n f)]
  dsimp only
  rw [show 0 + 1 + a.toNat * 1 = 1 + a.toNat by omega, atK_ok (relL_row (by omega)), asI_ok, if_neg (by omega), if_pos q1, rdH_ok hk (relL_len n f)]
  dsimp only
  rw [if_pos (by rw [relL_len]; omega), g_shl_one (by omega), ← hbit, g_bor (hf _) (bitI_lt _), relL_set, putH_ok hk rfl]
  unfold addR
  rw [ha, hb]; rfl

theorem inR_le {n : Nat} {a : Int} : inR n a = (decide (a ≥ 0) && decide (a < n)) := rfl

theorem Of_R (hE : jacquardlaw8_Of_In E) (a : Int) {x : Cell} {l : List (Int × Int)} {h : AHeap} (hx : SlAt h x 2 (pairC l) l.length) (hlow : Low h.length x) :
    R E 1 [.c (.int .i64 a), .c x] h = some ([.agg (relL (clamp a) (ofR (clamp a) (l.take 200))), .agg (relL (clamp a) (ofR (clamp a) (l.take 200)))], h) := by
  refine R_intro hE.fn ?_
  have hn : clamp a ≤ 64 := by unfold clamp; omega
  generalize hN : clamp a = n at hn ⊢
  have hv : (if 64 < (if 0 > a then 0 else a) then 64 else (if 0 > a then 0 else a)) = (n : Int) := by
    rw [← hN]; unfold clamp; split <;> split <;> omega
  rw [jacquardlaw8_Of_eq, New_R hE.c9, c1_ok, asA_ok, if_pos ⟨rfl, zero_len, relL_len _ _⟩, hN]
  simp only [hv, zero_rel, relL_len]
  rw [rdH_ok (blk_new h _) (relL_len _ _)]
  dsimp only
  rw [if_pos ⟨by trivial, relL_len _ _, by rw [splice_zero]; exact relL_len _ _⟩, splice_zero, putH_ok (blk_new h _) rfl, setBlk_last]
  dsimp only
  let g : Nat → St := fun i => jacquardlaw8_Of_s1 x h.length 65 0 (i : Int) (relL 0 fun _ => 0) (relL 0 fun _ => 0) (relL n (ofR n (l.take i))) (h ++ [some ⟨true, 0, relL n (ofR n (l.take i))⟩])
  have hk : ∀ t : AHeap, SlAt (h ++ t) x 2 (pairC l) l.length := fun t => hx.keep hlow (Kp.app t (Nat.le_refl _))
  have loop : Lim (jacquardlaw8_Of_F1 (R E) Lim E.glob) (g 0) = some (.exit 0, jacquardlaw8_Of_x1_1 h.length 65 0 (relL 0 fun _ => 0) (relL 0 fun _ => 0) (relL n (ofR n (l.take 200))) (h ++ [some ⟨true, 0, relL n (ofR n (l.take 200))⟩])) := by
    refine Lim_count g 0 (min l.length 200) (by omega) (fun i _ hi => ?_) ?_
    · obtain ⟨p, hp⟩ : ∃ p, l[i]? = some p := ⟨l[i], by simp⟩
      obtain ⟨g1, g2⟩ := pairC_get l i p hp
      have hil : i < l.length := by omega
      have hw := words_of n (l.take i)
      have hki := hk [some ⟨true, 0, relL n (ofR n (l.take i))⟩]
      show jacquardlaw8_Of_F1 (R E) Lim E.glob (jacquardlaw8_Of_s1 x h.length 65 0 (i : Int) _ _ _ _) = _
      rw [jacquardlaw8_Of_r1, hx.len, scK_and, show (decide ((i : Int) < (l.length : Int)) && decide ((i : Int) < 200)) = true by simp; omega]
      simp only [if_true]
      rw [hki.get hil (by omega) g1, asI_ok, hki.get hil (by omega) g2, asI_ok, if_pos ⟨by trivial, relL_len _ _⟩, Add_R hE.c10 hn hw, c1_ok, asA_ok, if_pos ⟨by trivial, relL_len _ _, relL_len _ _⟩]
      rw [rdH_ok (blk_new h _) (relL_len _ _), atK_ok (i := 0 + 0) (relL_zero _ _), asI_ok, scK_and, ← inR_le, scK_and, rdH_ok (blk_new h _) (relL_len _ _), atK_ok (i := 0 + 0) (relL_zero _ _), asI_ok, scK_and, Bool.and_assoc, ← inR_le]
      have hnext : g (i + 1) = jacquardlaw8_Of_s1 x h.length 65 0 ((i + 1 : Nat) : Int) (relL 0 fun _ => 0) (relL 0 fun _ => 0) (relL n (addR n (ofR n (l.take i)) p.1 p.2)) (h ++ [some ⟨true, 0, relL n (addR n (ofR n (l.take i)) p.1 p.2)⟩]) := by
        show jacquardlaw8_Of_s1 x h.length 65 0 ((i + 1 : Nat) : Int) _ _ _ _ = _
        rw [take_succ hp, of_snoc]
      rw [hnext]
      by_cases hin : (inR n p.1 && inR n p.2) = true
      · rw [hin]
        simp only [Bool.and_eq_true] at hin
        simp only [if_true]
        rw [refAdd_R hE.c13 hn hw hin.1 hin.2 (blk_new h _), c0_ok, setBlk_last, g_succ (by omega)]
      · have hadd : addR n (ofR n (l.take i)) p.1 p.2 = ofR n (l.take i) := by unfold addR; rw [if_neg hin]
        rw [show (inR n p.1 && inR n p.2) = false by simpa using hin, hadd]
        simp only [Bool.false_eq_true, if_false]
        rw [g_succ (by omega)]
    · refine Lim_exit ?_
      show jacquardlaw8_Of_F1 (R E) Lim E.glob (jacquardlaw8_Of_s1 x h.length 65 0 ((min l.length 200 : Nat) : Int) _ _ _ _) = _
      rw [jacquardlaw8_Of_r1, hx.len, scK_and, show (decide (((min l.length 200 : Nat) : Int) < (l.length : Int)) && decide (((min l.length 200 : Nat) : Int) < 200)) = false by simp; omega]
      simp only [Bool.false_eq_true, if_false]
      have : l.take (min l.length 200) = l.take 200 := by rw [Nat.min_comm, ← List.take_take, List.take_length]
      rw [this]
  have start : g 0 = jacquardlaw8_Of_s1 x h.length 65 0 0 (relL 0 fun _ => 0) (relL 0 fun _ => 0) (relL n fun _ => 0) (h ++ [some ⟨true, 0, relL n fun _ => 0⟩]) := rfl
  rw [start] at loop
  rw [loop, bind_ok, jacquardlaw8_Of_e1_1, if_pos ⟨rfl, relL_len _ _⟩, rdH_ok (blk_new h _) (relL_len _ _)]
  simp only [relL_len, and_self, if_true]
  unfold finish
  have hgc : gcOk h (h ++ [some ⟨true, 0, relL n (ofR n (l.take 200))⟩]) [.agg (relL n (ofR n (l.take 200))), .agg (relL n (ofR n (l.take 200)))] = true := by
    have hav : ∀ (m k : Nat) (f : Nat → Nat), avOk m (.agg (relL k f)) = true := by
      intro m k f
      simp [avOk, AV.cells, relL, idOk]
    simp only [gcOk, Bool.and_eq_true, List.all_cons, List.all_nil, hav, decide_eq_true_eq, List.length_append, List.all_eq_true, List.mem_range, Bool.or_eq_true]
    exact ⟨⟨by omega, by trivial⟩, fun k hk => .inl (List.getElem?_append_left hk)⟩
  simp only [hgc, if_true, List.take_left]

theorem awake8_R (hE : jacquardlaw8_awake_In E) (h : AHeap) : R E 55 [] h = some ([.c (.bool true)], h) := by
  refine R_intro hE.fn ?_
  have w0 : Words fun _ => 0 := words_zero
  have w1 : Words (addR 3 (fun _ => 0) 0 1) := words_add w0 0 1
  have w2 : Words (addR 3 (addR 3 (fun _ => 0) 0 1) 1 2) := words_add w1 1 2
  have w3 := words_add (n := 3) w2 2 0
  have w4 := words_clK w2 3 3
  have c3 : clamp 3 = 3 := rfl
  have b1 : hasR 3 (clK 3 (addR 3 (addR 3 (fun _ => 0) 0 1) 1 2) 3) 0 2 = true := by decide +kernel
  have b2 : hasR 3 (addR 3 (addR 3 (fun _ => 0) 0 1) 1 2) 0 2 = false := by decide +kernel
  have b3 : acycR 3 (addR 3 (addR 3 (fun _ => 0) 0 1) 1 2) = true := by decide +kernel
  have b4 : acycR 3 (addR 3 (addR 3 (addR 3 (fun _ => 0) 0 1) 1 2) 2 0) = false := by decide +kernel
  rw [jacquardlaw8_awake_eq, New_R hE.c9, c1_ok, asA_ok, c3, Add_R hE.c10 (by omega) w0, c1_ok, asA_ok, Add_R hE.c10 (by omega) w1, c1_ok, asA_ok, if_pos ⟨rfl, zero_len, relL_len _ _⟩, if_pos ⟨rfl, relL_len _ _⟩,
    Closure_R hE.c12 (by omega) w2, c1_ok, asA_ok, HasR_R hE.c3 (by omega) w4, c1_ok, asB_ok, b1, scK_ok, if_pos ⟨rfl, relL_len _ _⟩, HasR_R hE.c3 (by omega) w2, c1_ok, asB_ok, b2, bind_ok]
  dsimp only
  rw [show (!false) = true from rfl, scK_ok, if_pos ⟨rfl, relL_len _ _⟩, Acyclic_R hE.c26 (by omega) w2, c1_ok, asB_ok, b3, bind_ok]
  dsimp only
  rw [scK_ok, if_pos ⟨rfl, relL_len _ _⟩, Add_R hE.c10 (by omega) w2, c1_ok, asA_ok, Acyclic_R hE.c26 (by omega) w3, c1_ok, asB_ok, b4, bind_ok]
  dsimp only
  rw [show (!false) = true from rfl, scK_ok, if_pos ⟨rfl, relL_len _ _⟩, N_R hE.c14, c1_ok, asI_ok, bind_ok]
  rfl

/- What pairs make. -/
theorem addR_bit {n : Nat} (hn : n ≤ 64) (f : Nat → Nat) (x y : Int) (a b : Nat) : (addR n f x y a).testBit b = ((f a).testBit b || (inR n x && inR n y && decide (x = a) && decide (y = b))) := by
  unfold addR
  by_cases hin : (inR n x && inR n y) = true
  · rw [if_pos hin, hin, Bool.true_and]
    simp only [Bool.and_eq_true] at hin
    have hx : 0 ≤ x ∧ x < n := by simpa [inR] using hin.1
    have hy : 0 ≤ y ∧ y < n := by simpa [inR] using hin.2
    unfold updF
    by_cases ha : a = x.toNat
    · rw [if_pos ha, Nat.testBit_or, testBit_bitI, ← ha]
      have h1 : decide (x = (a : Int)) = true := by simp; omega
      rw [h1, Bool.true_and]
      by_cases hb : y = (b : Int)
      · have : b < 64 := by omega
        simp [hb, this]
      · simp [hb]
    · rw [if_neg ha]
      have h1 : decide (x = (a : Int)) = false := by simp; omega
      rw [h1, Bool.false_and, Bool.or_false]
  · rw [if_neg hin, show (inR n x && inR n y) = false by simpa using hin]; simp

theorem of_bit {n : Nat} (hn : n ≤ 64) (l : List (Int × Int)) (a b : Nat) : (ofR n l a).testBit b = true ↔ ∃ p ∈ l, inR n p.1 = true ∧ inR n p.2 = true ∧ p.1 = a ∧ p.2 = b := by
  have key : ∀ (l : List (Int × Int)) (f : Nat → Nat), ((l.foldl (fun f p => addR n f p.1 p.2) f) a).testBit b = true ↔ ((f a).testBit b = true ∨ ∃ p ∈ l, inR n p.1 = true ∧ inR n p.2 = true ∧ p.1 = a ∧ p.2 = b) := by
    intro l
    induction l with
    | nil => intro f; simp
    | cons p l ih =>
      intro f
      rw [List.foldl_cons, ih, addR_bit hn, Bool.or_eq_true]
      simp only [List.mem_cons, Bool.and_eq_true, decide_eq_true_eq]
      constructor
      · rintro ((h | ⟨⟨⟨h1, h2⟩, h3⟩, h4⟩) | ⟨q, hq, h⟩)
        · exact .inl h
        · exact .inr ⟨p, .inl rfl, h1, h2, h3, h4⟩
        · exact .inr ⟨q, .inr hq, h⟩
      · rintro (h | ⟨q, rfl | hq, h⟩)
        · exact .inl (.inl h)
        · exact .inl (.inr ⟨⟨⟨h.1, h.2.1⟩, h.2.2.1⟩, h.2.2.2⟩)
        · exact .inr ⟨q, hq, h⟩
  unfold ofR
  rw [key]; simp

theorem inR_nat {n a : Nat} : inR n (a : Int) = decide (a < n) := by
  unfold inR
  rw [Bool.eq_iff_iff]; simp

end Jq

namespace Jq
open Go

/- math/bits.TrailingZeros64: 42 -/
set_option maxRecDepth 100000 in
theorem bits_TrailingZeros64_eq (C : CallF) (L : LoopF) (G : Glo) (a0 : Int) (h0 : AHeap) :
    bits_TrailingZeros64.body C L G [(.c (.int .u64 a0))] h0 =
    if (a0 == 0) = true then some ([(.c (.int .i64 64))], h0) else let v_1 : Int := (G.wrap .u64 ((G.band .u64 a0 (G.wrap .u64 (0 - a0))) * 285870213051353865)); if 0 ≤ (G.shr .u64 v_1 58) ∧ (G.shr .u64 v_1 58) < ((64 : Nat) : Int) then atK (G.tab 1) (0 + ((Int.toNat (G.shr .u64 v_1 58)) * 1)) fun q_2 => asI .u8 (.c q_2) fun n_3 => some ([(.c (.int .i64 (G.wrap .i64 n_3)))], h0) else none := by kernel_rfl

/- math/bits.OnesCount64: 57 -/
set_option maxRecDepth 100000 in
theorem bits_OnesCount64_eq (C : CallF) (L : LoopF) (G : Glo) (a0 : Int) (h0 : AHeap) :
    bits_OnesCount64.body C L G [(.c (.int .u64 a0))] h0 =
    let v_1 : Int := (G.band .u64 (G.shr .u64 a0 1) 6148914691236517205); let v_2 : Int := (G.wrap .u64 (v_1 + (G.band .u64 a0 6148914691236517205))); let v_3 : Int := (G.band .u64 (G.shr .u64 v_2 2) 3689348814741910323); let v_4 : Int := (G.wrap .u64 (v_3 + (G.band .u64 v_2 3689348814741910323))); let v_5 : Int := (G.band .u64 (G.wrap .u64 ((G.shr .u64 v_4 4) + v_4)) 1085102592571150095); let v_6 : Int := (G.shr .u64 (G.wrap .u64 (v_5 + (G.shr .u64 v_5 8))) 16); let v_7 : Int := (G.wrap .u64 ((G.wrap .u64 (v_5 + (G.shr .u64 v_5 8))) + v_6)); let v_8 : Int := (G.wrap .u64 (v_7 + (G.shr .u64 v_7 32))); some ([(.c (.int .i64 (G.band .i64 (G.wrap .i64 v_8) 127)))], h0) := by kernel_rfl


end Jq

/- Bits counted, and the lowest one: what math/bits comes to. -/
namespace Jq
open Go

/-- How many of the first k bits are set. -/
def pcN : Nat → Nat → Nat
  | 0, _ => 0
  | k + 1, x => x % 2 + pcN k (x / 2)

/-- How many numbers a word has. -/
def pc (x : Nat) : Nat := pcN 64 x

theorem pcN_add : ∀ (m n x : Nat), pcN (m + n) x = pcN m x + pcN n (x / 2 ^ m)
  | 0, n, x => by simp [pcN]
  | m + 1, n, x => by
    rw [show m + 1 + n = (m + n) + 1 by omega, pcN, pcN_add m n, pcN, Nat.div_div_eq_div_mul, Nat.pow_succ, Nat.mul_comm 2, Nat.add_assoc]

theorem pcN_mod : ∀ (m x : Nat), pcN m (x % 2 ^ m) = pcN m x
  | 0, _ => rfl
  | m + 1, x => by
    rw [pcN, pcN, ← pcN_mod m (x / 2), ← pcN_mod m (x % 2 ^ (m + 1) / 2)]
    have h1 : x % 2 ^ (m + 1) % 2 = x % 2 := Nat.mod_mod_of_dvd _ ⟨2 ^ m, by rw [Nat.pow_succ, Nat.mul_comm]⟩
    have h2 : x % 2 ^ (m + 1) / 2 = x / 2 % 2 ^ m := by
      rw [Nat.pow_succ, Nat.mul_comm, Nat.mod_mul_right_div_self]
    rw [h1, h2, Nat.mod_mod]

/-- A function of each byte. -/
def mapB (f : Nat → Nat) : Nat → Nat → Nat
  | 0, _ => 0
  | k + 1, x => f (x % 256) + 256 * mapB f k (x / 256)

def repB (c : Nat) : Nat → Nat
  | 0 => 0
  | k + 1 => c + 256 * repB c k

theorem land_bytes {a b m n : Nat} (ha : a < 256) (hm : m < 256) : (a + 256 * b) &&& (m + 256 * n) = (a &&& m) + 256 * (b &&& n) := by
  have h1 : ((a + 256 * b) &&& (m + 256 * n)) % 256 = a &&& m := by
    have := @Nat.and_mod_two_pow (a + 256 * b) (m + 256 * n) 8
    rw [show (2 : Nat) ^ 8 = 256 from rfl] at this
    rw [this, Nat.add_mul_mod_self_left, Nat.add_mul_mod_self_left, Nat.mod_eq_of_lt ha, Nat.mod_eq_of_lt hm]
  have h2 : ((a + 256 * b) &&& (m + 256 * n)) / 256 = b &&& n := by
    have := @Nat.and_div_two_pow (a + 256 * b) (m + 256 * n) 8
    rw [show (2 : Nat) ^ 8 = 256 from rfl] at this
    rw [this, Nat.add_mul_div_left _ _ (by omega), Nat.add_mul_div_left _ _ (by omega), Nat.div_eq_of_lt ha, Nat.div_eq_of_lt hm, Nat.zero_add, Nat.zero_add]
  omega

def fb1 (b : Nat) : Nat := ((b / 2) &&& 0x55) + (b &&& 0x55)
def fb2 (b : Nat) : Nat := ((b / 4) &&& 0x33) + (b &&& 0x33)
def fb3 (b : Nat) : Nat := (b + b / 16) &&& 0x0f

theorem fb1_lt : ∀ b, b < 256 → fb1 b < 256 ∧ fb1 b % 4 < 3 ∧ ((b / 2 + 128) &&& 0x55 = (b / 2) &&& 0x55) := by decide +kernel
theorem fb2_lt : ∀ b, b < 256 → fb2 b < 256 ∧ (∀ c, c < 4 → ((b / 4 + 64 * c) &&& 0x33 = (b / 4) &&& 0x33)) := by decide +kernel
theorem fb12_lt : ∀ b, b < 256 → fb2 (fb1 b) ≤ 68 ∧ fb2 (fb1 b) % 16 ≤ 4 ∧ fb2 (fb1 b) / 16 ≤ 4 := by decide +kernel
theorem fb3_c : ∀ b, b < 69 → ∀ c, c < 5 → (b + b / 16 + 16 * c) < 256 ∧ (b % 16 ≤ 4 → b / 16 ≤ 4 → (b + b / 16 + 16 * c) &&& 0x0f = fb3 b) := by decide +kernel
theorem fb_pc : ∀ b, b < 256 → fb3 (fb2 (fb1 b)) = pcN 8 b ∧ pcN 8 b ≤ 8 := by decide +kernel

theorem mapB_lt {f : Nat → Nat} (hf : ∀ b, b < 256 → f b < 256) : ∀ k x, mapB f k x < 256 ^ k
  | 0, _ => by simp [mapB]
  | k + 1, x => by
    have h1 := hf (x % 256) (Nat.mod_lt _ (by omega))
    have h2 := mapB_lt hf k (x / 256)
    rw [mapB, Nat.pow_succ]; omega

theorem mapB_le {f : Nat → Nat} {c : Nat} (hf : ∀ b, b < 256 → f b ≤ c) : ∀ k x, mapB f k x ≤ repB c k
  | 0, _ => by simp [mapB]
  | k + 1, x => by
    have h1 := hf (x % 256) (Nat.mod_lt _ (by omega))
    have h2 := mapB_le hf k (x / 256)
    rw [mapB, repB]; omega

theorem mapB_mod {f : Nat → Nat} (hf : ∀ b, b < 256 → f b < 256) (k x : Nat) : mapB f (k + 1) x % 256 = f (x % 256) ∧ mapB f (k + 1) x / 256 = mapB f k (x / 256) := by
  have h1 := hf (x % 256) (Nat.mod_lt _ (by omega))
  rw [mapB]; omega

theorem stage1 : ∀ k x, x < 256 ^ k → ((x / 2) &&& repB 0x55 k) + (x &&& repB 0x55 k) = mapB fb1 k x
  | 0, x, h => by simp [repB, mapB]
  | k + 1, x, h => by
    have hx : x = x % 256 + 256 * (x / 256) := by omega
    have hlt : x / 256 < 256 ^ k := by rw [Nat.pow_succ] at h; omega
    have ih := stage1 k (x / 256) hlt
    have hb : x % 256 < 256 := Nat.mod_lt _ (by omega)
    generalize hlo : x % 256 = lo at hx hb
    generalize hhi : x / 256 = hi at hx ih hlt
    have e1 : x / 2 = (lo / 2 + 128 * (hi % 2)) + 256 * (hi / 2) := by omega
    rw [repB, e1, land_bytes (by omega) (by omega), hx, land_bytes hb (by omega), ← hx, mapB, hlo, hhi, ← ih]
    have hc : (lo / 2 + 128 * (hi % 2)) &&& 0x55 = (lo / 2) &&& 0x55 := by
      rcases Nat.mod_two_eq_zero_or_one hi with h0 | h0
      · rw [h0]; simp
      · rw [h0]; exact (fb1_lt lo hb).2.2
    rw [hc]; unfold fb1; omega

theorem stage2 : ∀ k x, x < 256 ^ k → ((x / 4) &&& repB 0x33 k) + (x &&& repB 0x33 k) = mapB fb2 k x
  | 0, x, h => by simp [repB, mapB]
  | k + 1, x, h => by
    have hx : x = x % 256 + 256 * (x / 256) := by omega
    have hlt : x / 256 < 256 ^ k := by rw [Nat.pow_succ] at h; omega
    have ih := stage2 k (x / 256) hlt
    have hb : x % 256 < 256 := Nat.mod_lt _ (by omega)
    generalize hlo : x % 256 = lo at hx hb
    generalize hhi : x / 256 = hi at hx ih hlt
    have e1 : x / 4 = (lo / 4 + 64 * (hi % 4)) + 256 * (hi / 4) := by omega
    rw [repB, e1, land_bytes (by omega) (by omega), hx, land_bytes hb (by omega), ← hx, mapB, hlo, hhi, ← ih, (fb2_lt lo hb).2 (hi % 4) (Nat.mod_lt _ (by omega))]
    unfold fb2; omega

theorem mapB_comp {f g : Nat → Nat} (hg : ∀ b, b < 256 → g b < 256) : ∀ k x, mapB f k (mapB g k x) = mapB (fun b => f (g b)) k x
  | 0, _ => rfl
  | k + 1, x => by
    obtain ⟨h1, h2⟩ := mapB_mod hg k x
    rw [mapB, h1, h2, mapB_comp hg k, mapB]

theorem stage3 : ∀ k x, ((mapB (fun b => fb2 (fb1 b)) k x / 16 + mapB (fun b => fb2 (fb1 b)) k x) &&& repB 0x0f k) = mapB (fun b => fb3 (fb2 (fb1 b))) k x
  | 0, x => by simp [repB, mapB]
  | k + 1, x => by
    have hb : x % 256 < 256 := Nat.mod_lt _ (by omega)
    obtain ⟨q1, q2, q3⟩ := fb12_lt _ hb
    have ih := stage3 k (x / 256)
    have hc : mapB (fun b => fb2 (fb1 b)) k (x / 256) % 16 < 5 := by
      cases k with
      | zero => simp [mapB]
      | succ k =>
        have hb2 : x / 256 % 256 < 256 := Nat.mod_lt _ (by omega)
        have := (fb12_lt _ hb2).2.1
        rw [mapB]; omega
    rw [mapB, mapB, repB]
    generalize hhi : mapB (fun b => fb2 (fb1 b)) k (x / 256) = hi at ih hc
    try dsimp only at q1 q2 q3 ⊢
    generalize hlo : fb2 (fb1 (x % 256)) = lo at q1 q2 q3
    have e1 : (lo + 256 * hi) / 16 + (lo + 256 * hi) = (lo + lo / 16 + 16 * (hi % 16)) + 256 * (hi / 16 + hi) := by omega
    obtain ⟨r1, r2⟩ := fb3_c lo (by omega) (hi % 16) hc
    rw [e1, land_bytes r1 (by omega), r2 q2 q3, ih]

theorem bytes_pc (x : Nat) : pc x = pcN 8 (x % 256) + pcN 8 (x / 256 % 256) + pcN 8 (x / 256 / 256 % 256) + pcN 8 (x / 256 / 256 / 256 % 256) + pcN 8 (x / 256 / 256 / 256 / 256 % 256) +
    pcN 8 (x / 256 / 256 / 256 / 256 / 256 % 256) + pcN 8 (x / 256 / 256 / 256 / 256 / 256 / 256 % 256) + pcN 8 (x / 256 / 256 / 256 / 256 / 256 / 256 / 256 % 256) := by
  have h8 : ∀ y, pcN 8 (y % 256) = pcN 8 y := fun y => pcN_mod 8 y
  have s : ∀ n y, pcN (8 + n) y = pcN 8 y + pcN n (y / 256) := fun n y => pcN_add 8 n y
  simp only [h8]
  unfold pc
  rw [show 64 = 8 + 56 from rfl, s, show 56 = 8 + 48 from rfl, s, show 48 = 8 + 40 from rfl, s, show 40 = 8 + 32 from rfl, s, show 32 = 8 + 24 from rfl, s, show 24 = 8 + 16 from rfl, s, show 16 = 8 + 8 from rfl, s]
  omega

theorem dm {a b k : Nat} (hk : 0 < k) (h : a < k) : (a + k * b) / k = b := by
  rw [Nat.add_mul_div_left _ _ hk, Nat.div_eq_of_lt h, Nat.zero_add]
theorem s8a (p0 p1 p2 r3 : Nat) : p0 + 256 * (p1 + 256 * (p2 + 256 * r3)) + (p1 + 256 * (p2 + 256 * r3)) = (p0 + p1 + 256 * (p1 + p2)) + 65536 * (p2 + 256 * r3 + r3) := by omega
theorem s8b (p2 p3 p4 r5 : Nat) : p2 + 256 * (p3 + 256 * (p4 + 256 * r5)) + (p3 + 256 * (p4 + 256 * r5)) = (p2 + p3 + 256 * (p3 + p4)) + 65536 * (p4 + 256 * r5 + r5) := by omega
theorem s8c (a b c d Q : Nat) : a + 65536 * (b + 65536 * Q) + (b + 65536 * Q) = (a + b + 65536 * b) + 65536 * Q + 4294967296 * Q := by omega
theorem s8d (X c Q : Nat) : X + 65536 * (c + 65536 * Q) + 4294967296 * (c + 65536 * Q) = (X + 65536 * c) + 4294967296 * (Q + (c + 65536 * Q)) := by omega
theorem v_le (p0 p1 p2 p3 p4 p5 p6 p7 : Nat) (h0 : p0 ≤ 8) (h1 : p1 ≤ 8) (h2 : p2 ≤ 8) (h3 : p3 ≤ 8) (h4 : p4 ≤ 8) (h5 : p5 ≤ 8) (h6 : p6 ≤ 8) (h7 : p7 ≤ 8) :
    p0 + 256 * (p1 + 256 * (p2 + 256 * (p3 + 256 * (p4 + 256 * (p5 + 256 * (p6 + 256 * p7)))))) ≤ 578721382704613384 := by
  have a7 : p6 + 256 * p7 ≤ 2056 := by omega
  generalize p6 + 256 * p7 = r at *
  have a6 : p5 + 256 * r ≤ 526344 := by omega
  generalize p5 + 256 * r = r at *
  have a5 : p4 + 256 * r ≤ 134744072 := by omega
  generalize p4 + 256 * r = r at *
  have a4 : p3 + 256 * r ≤ 34494482440 := by omega
  generalize p3 + 256 * r = r at *
  have a3 : p2 + 256 * r ≤ 8830587504648 := by omega
  generalize p2 + 256 * r = r at *
  have a2 : p1 + 256 * r ≤ 2260630401189896 := by omega
  generalize p1 + 256 * r = r at *
  omega

theorem lowA {a b c : Nat} (h0 : a ≤ 8) (h1 : b ≤ 8) (h2 : c ≤ 8) : a + b + 256 * (b + c) < 65536 := by omega
theorem lowB {p0 p1 p2 p3 p4 p5 p6 : Nat} (h0 : p0 ≤ 8) (h1 : p1 ≤ 8) (h2 : p2 ≤ 8) (h3 : p3 ≤ 8) (h4 : p4 ≤ 8) (h5 : p5 ≤ 8) (h6 : p6 ≤ 8) :
    (p0 + p1 + 256 * (p1 + p2)) + (p2 + p3 + 256 * (p3 + p4)) + 65536 * (p2 + p3 + 256 * (p3 + p4)) + 65536 * (p4 + p5 + 256 * (p5 + p6)) < 4294967296 := by omega
theorem s8e (p0 p1 p2 p3 p4 p5 p6 p7 W : Nat) (hW : W = (p6 + 256 * p7 + p7) + ((p4 + p5 + 256 * (p5 + p6)) + 65536 * (p6 + 256 * p7 + p7))) :
    ((p0 + p1 + 256 * (p1 + p2)) + (p2 + p3 + 256 * (p3 + p4)) + 65536 * (p2 + p3 + 256 * (p3 + p4)) + 65536 * (p4 + p5 + 256 * (p5 + p6))) + 4294967296 * W + W =
    (p0 + p1 + p2 + p3 + p4 + p5 + p6 + p7) + 128 * (2 * ((p1 + p2) + (p3 + p4) + 256 * (p2 + p3 + 256 * (p3 + p4)) + 256 * (p4 + p5 + 256 * (p5 + p6)) + 16777216 * W + (p7 + (p5 + p6) + 256 * (p6 + 256 * p7 + p7)))) := by
  omega
theorem sum_le {p0 p1 p2 p3 p4 p5 p6 p7 : Nat} (h0 : p0 ≤ 8) (h1 : p1 ≤ 8) (h2 : p2 ≤ 8) (h3 : p3 ≤ 8) (h4 : p4 ≤ 8) (h5 : p5 ≤ 8) (h6 : p6 ≤ 8) (h7 : p7 ≤ 8) : p0 + p1 + p2 + p3 + p4 + p5 + p6 + p7 < 128 := by omega

theorem sum8 (p0 p1 p2 p3 p4 p5 p6 p7 : Nat) (h0 : p0 ≤ 8) (h1 : p1 ≤ 8) (h2 : p2 ≤ 8) (h3 : p3 ≤ 8) (h4 : p4 ≤ 8) (h5 : p5 ≤ 8) (h6 : p6 ≤ 8) (h7 : p7 ≤ 8) (v u t : Nat)
    (hv : v = p0 + 256 * (p1 + 256 * (p2 + 256 * (p3 + 256 * (p4 + 256 * (p5 + 256 * (p6 + 256 * p7))))))) (hu : u = v + v / 256) (ht : t = u + u / 65536) :
    v < 2 ^ 63 ∧ u < 2 ^ 63 ∧ t < 2 ^ 63 ∧ t + t / 4294967296 < 2 ^ 63 ∧ (t + t / 4294967296) % 128 = p0 + p1 + p2 + p3 + p4 + p5 + p6 + p7 := by
  have bv := v_le p0 p1 p2 p3 p4 p5 p6 p7 h0 h1 h2 h3 h4 h5 h6 h7
  rw [← hv] at bv
  have d1 : v / 256 ≤ v := Nat.div_le_self _ _
  have d2 : u / 65536 ≤ u := Nat.div_le_self _ _
  have d3 : t / 4294967296 ≤ t := Nat.div_le_self _ _
  have fin : (t + t / 4294967296) % 128 = p0 + p1 + p2 + p3 + p4 + p5 + p6 + p7 := by
    clear bv d1 d2 d3
    have e1 : v / 256 = p1 + 256 * (p2 + 256 * (p3 + 256 * (p4 + 256 * (p5 + 256 * (p6 + 256 * p7))))) := by rw [hv]; exact dm (by decide) (Nat.lt_of_le_of_lt h0 (by decide))
    have e2 : u = (p0 + p1 + 256 * (p1 + p2)) + 65536 * (p2 + 256 * (p3 + 256 * (p4 + 256 * (p5 + 256 * (p6 + 256 * p7)))) + (p3 + 256 * (p4 + 256 * (p5 + 256 * (p6 + 256 * p7))))) := by
      rw [hu, e1, hv]; exact s8a _ _ _ _
    have e3 : u / 65536 = p2 + 256 * (p3 + 256 * (p4 + 256 * (p5 + 256 * (p6 + 256 * p7)))) + (p3 + 256 * (p4 + 256 * (p5 + 256 * (p6 + 256 * p7)))) := by rw [e2]; exact dm (by decide) (lowA h0 h1 h2)
    have e4 : t = ((p0 + p1 + 256 * (p1 + p2)) + (p2 + p3 + 256 * (p3 + p4)) + 65536 * (p2 + p3 + 256 * (p3 + p4)) + 65536 * (p4 + p5 + 256 * (p5 + p6))) + 4294967296 * ((p6 + 256 * p7 + p7) + ((p4 + p5 + 256 * (p5 + p6)) + 65536 * (p6 + 256 * p7 + p7))) := by
      rw [ht, e3, e2, s8b p2 p3 p4, s8b p4 p5 p6, s8c _ _ 0 0, s8d]
    have e5 : t / 4294967296 = (p6 + 256 * p7 + p7) + ((p4 + p5 + 256 * (p5 + p6)) + 65536 * (p6 + 256 * p7 + p7)) := by
      rw [e4]
      exact dm (by decide) (lowB h0 h1 h2 h3 h4 h5 h6)
    rw [e5, e4, s8e _ _ _ _ _ _ _ _ _ rfl, Nat.add_mul_mod_self_left, Nat.mod_eq_of_lt (sum_le h0 h1 h2 h3 h4 h5 h6 h7)]
  clear hv h0 h1 h2 h3 h4 h5 h6 h7
  refine ⟨?_, ?_, ?_, ?_, fin⟩ <;> clear fin <;> omega

variable {E : Env}

theorem sh_by {k m : Nat} (hk : k ≤ 64) (hm : 2 ^ k = m) (y : Nat) : E.glob.shr .u64 (y : Int) (k : Int) = ((y / m : Nat) : Int) := by
  rw [g_shr hk, Nat.shiftRight_eq_div_pow, hm]

theorem OnesCount_R (hE : bits_OnesCount64_In E) {x : Nat} (hx : x < 2 ^ 64) (h : AHeap) : R E 57 [.c (.int .u64 x)] h = some ([.c (.int .i64 (pc x))], h) := by
  refine R_intro hE.fn ?_
  rw [bits_OnesCount64_eq]
  have m0 : (6148914691236517205 : Int) = ((repB 0x55 8 : Nat) : Int) := by decide
  have m1 : (3689348814741910323 : Int) = ((repB 0x33 8 : Nat) : Int) := by decide
  have m2 : (1085102592571150095 : Int) = ((repB 0x0f 8 : Nat) : Int) := by decide
  have l0 : repB 0x55 8 < 2 ^ 64 := by decide
  have l1 : repB 0x33 8 < 2 ^ 64 := by decide
  have l2 : repB 0x0f 8 < 2 ^ 64 := by decide
  have s1 := stage1 8 x hx
  have f1 := mapB_lt (fun b hb => (fb1_lt b hb).1) 8 x
  have s2 := stage2 8 (mapB fb1 8 x) f1
  have s3 := stage3 8 x
  have cm := mapB_comp (f := fb2) (fun b hb => (fb1_lt b hb).1) 8 x
  rw [cm] at s2
  have f2 : mapB (fun b => fb2 (fb1 b)) 8 x < 256 ^ 8 := mapB_lt (fun b hb => (fb2_lt _ (fb1_lt b hb).1).1) 8 x
  have sh1 : E.glob.shr .u64 (x : Int) 1 = ((x / 2 : Nat) : Int) := sh_by (k := 1) (by omega) (by decide) _
  simp only [m0, m1, m2]
  rw [sh1, g_band (x := x / 2) (by omega) l0, g_band hx l0, ← Int.natCast_add, s1, g_wrap_u64n f1]
  have sh2 : E.glob.shr .u64 ((mapB fb1 8 x : Nat) : Int) 2 = ((mapB fb1 8 x / 4 : Nat) : Int) := sh_by (k := 2) (by omega) (by decide) _
  rw [sh2, g_band (x := mapB fb1 8 x / 4) (by omega) l1, g_band f1 l1, ← Int.natCast_add, s2, g_wrap_u64n f2]
  have sh3 : E.glob.shr .u64 ((mapB (fun b => fb2 (fb1 b)) 8 x : Nat) : Int) 4 = ((mapB (fun b => fb2 (fb1 b)) 8 x / 16 : Nat) : Int) := sh_by (k := 4) (by omega) (by decide) _
  have top : mapB (fun b => fb2 (fb1 b)) 8 x / 16 + mapB (fun b => fb2 (fb1 b)) 8 x < 2 ^ 64 := by
    have h1 := mapB_le (f := fun b => fb2 (fb1 b)) (c := 68) (fun b hb => (fb12_lt b hb).1) 8 x
    rw [show repB 68 8 = 4919131752989213764 by decide] at h1
    omega
  rw [sh3, ← Int.natCast_add, g_wrap_u64n top, g_band top l2, s3]
  -- the eight counts
  have hp : ∀ y, fb3 (fb2 (fb1 (y % 256))) = pcN 8 (y % 256) ∧ pcN 8 (y % 256) ≤ 8 := fun y => fb_pc _ (Nat.mod_lt _ (by omega))
  have v5 : mapB (fun b => fb3 (fb2 (fb1 b))) 8 x = pcN 8 (x % 256) + 256 * (pcN 8 (x / 256 % 256) + 256 * (pcN 8 (x / 256 / 256 % 256) + 256 * (pcN 8 (x / 256 / 256 / 256 % 256) + 256 * (pcN 8 (x / 256 / 256 / 256 / 256 % 256) +
      256 * (pcN 8 (x / 256 / 256 / 256 / 256 / 256 % 256) + 256 * (pcN 8 (x / 256 / 256 / 256 / 256 / 256 / 256 % 256) + 256 * pcN 8 (x / 256 / 256 / 256 / 256 / 256 / 256 / 256 % 256))))))) := by
    simp only [mapB, (hp _).1, Nat.mul_zero, Nat.add_zero]
  rw [v5, bytes_pc]
  have h0 := (hp x).2
  have h1 := (hp (x / 256)).2
  have h2 := (hp (x / 256 / 256)).2
  have h3 := (hp (x / 256 / 256 / 256)).2
  have h4 := (hp (x / 256 / 256 / 256 / 256)).2
  have h5 := (hp (x / 256 / 256 / 256 / 256 / 256)).2
  have h6 := (hp (x / 256 / 256 / 256 / 256 / 256 / 256)).2
  have h7 := (hp (x / 256 / 256 / 256 / 256 / 256 / 256 / 256)).2
  generalize pcN 8 (x % 256) = p0 at *
  generalize pcN 8 (x / 256 % 256) = p1 at *
  generalize pcN 8 (x / 256 / 256 % 256) = p2 at *
  generalize pcN 8 (x / 256 / 256 / 256 % 256) = p3 at *
  generalize pcN 8 (x / 256 / 256 / 256 / 256 % 256) = p4 at *
  generalize pcN 8 (x / 256 / 256 / 256 / 256 / 256 % 256) = p5 at *
  generalize pcN 8 (x / 256 / 256 / 256 / 256 / 256 / 256 % 256) = p6 at *
  generalize pcN 8 (x / 256 / 256 / 256 / 256 / 256 / 256 / 256 % 256) = p7 at *
  clear s1 s2 s3 f1 f2 cm sh1 sh2 sh3 top v5 hp m0 m1 m2 l0 l1 l2 hx
  generalize hv : p0 + 256 * (p1 + 256 * (p2 + 256 * (p3 + 256 * (p4 + 256 * (p5 + 256 * (p6 + 256 * p7)))))) = v
  obtain ⟨c1, c2, c3, c4, c5⟩ := sum8 p0 p1 p2 p3 p4 p5 p6 p7 h0 h1 h2 h3 h4 h5 h6 h7 v _ _ hv.symm rfl rfl
  have sh8 : E.glob.shr .u64 (v : Int) 8 = ((v / 256 : Nat) : Int) := sh_by (k := 8) (by omega) (by decide) _
  have w1 : v + v / 256 < 2 ^ 64 := Nat.lt_trans c2 (by decide)
  rw [sh8, ← Int.natCast_add, g_wrap_u64n w1]
  generalize hu : v + v / 256 = u at *
  have sh16 : E.glob.shr .u64 (u : Int) 16 = ((u / 65536 : Nat) : Int) := sh_by (k := 16) (by omega) (by decide) _
  have w2 : u + u / 65536 < 2 ^ 64 := Nat.lt_trans c3 (by decide)
  rw [sh16, ← Int.natCast_add, g_wrap_u64n w2]
  generalize ht : u + u / 65536 = t at *
  have sh32 : E.glob.shr .u64 (t : Int) 32 = ((t / 4294967296 : Nat) : Int) := sh_by (k := 32) (by omega) (by decide) _
  have w3 : t + t / 4294967296 < 2 ^ 64 := Nat.lt_trans c4 (by decide)
  rw [sh32, ← Int.natCast_add, g_wrap_u64n w3]
  generalize hq : t + t / 4294967296 = q at *
  have w4 : E.glob.wrap .i64 (q : Int) = q := g_wrap_i64 (by omega) (by omega)
  rw [w4, g_band127, ← c5]
  rfl

end Jq

/- The lowest bit: what math/bits comes to. -/
namespace Jq
open Go

variable {E : Env}

theorem mul_wrap (y : Nat) : E.glob.wrap .u64 ((y : Int) * 285870213051353865) = ((y * 285870213051353865 % 18446744073709551616 : Nat) : Int) := by
  show IntKind.wrap .u64 _ = _
  simp only [IntKind.wrap, IntKind.signed, IntKind.bits, Bool.false_and, Bool.false_eq_true, if_false]; omega

theorem neg_wrap {x : Nat} (hx : x < 2 ^ 64) (h0 : x ≠ 0) : E.glob.wrap .u64 (0 - (x : Int)) = ((2 ^ 64 - x : Nat) : Int) := by
  show IntKind.wrap .u64 _ = _
  simp only [IntKind.wrap, IntKind.signed, IntKind.bits, Bool.false_and, Bool.false_eq_true, if_false]; omega

theorem shr58 (y : Nat) : E.glob.shr .u64 (y : Int) 58 = ((y / 288230376151711744 : Nat) : Int) := sh_by (k := 58) (by omega) (by decide) y

theorem getD_some {L : List Nat} {n i k : Nat} (hn : L.length = n) (hi : i < n) (hd : L.getD i 0 = k) : L[i]? = some k := by
  rw [List.getD_eq_getElem?_getD] at hd
  cases h : L[i]? with
  | none => rw [List.getElem?_eq_none_iff] at h; omega
  | some x => rw [h] at hd; exact congrArg some hd

theorem deB_len : Go.Lib.deBruijn64tab.length = 64 := by decide

/-- The lowest of them. -/
theorem TrailingZeros_R (hE : bits_TrailingZeros64_In E) (htab : ∀ k, k < 64 → (E.tab 1)[k]? = (Go.Lib.deBruijn64tab[k]?).map fun (n : Nat) => Cell.int .u8 (n : Int)) {x : Nat} (hx : x < 2 ^ 64) (h0 : x ≠ 0) (h : AHeap) :
    R E 42 [.c (.int .u64 x)] h = some ([.c (.int .i64 (Go.Lib.ctz 64 x))], h) := by
  refine R_intro hE.fn ?_
  have hne : ((x : Int) == 0) = false := by rw [beq_eq_false_iff_ne]; omega
  obtain ⟨q1, q2⟩ := Go.Lib.lowest_bit 64 x h0 hx
  rw [bits_TrailingZeros64_eq, hne, neg_wrap hx h0, g_band hx (by omega), q1, mul_wrap]
  dsimp only
  rw [shr58]
  simp only [Bool.false_eq_true, if_false]
  obtain ⟨d1, d2⟩ := Go.Lib.deBruijn64_at (Go.Lib.ctz 64 x) q2
  generalize Go.Lib.ctz 64 x = k at *
  generalize 2 ^ k * 285870213051353865 % 18446744073709551616 / 288230376151711744 = i at *
  have hc : (E.glob.tab 1)[0 + (i : Int).toNat * 1]? = some (.int .u8 (k : Int)) := by
    rw [Int.toNat_natCast, Nat.mul_one, Nat.zero_add]
    show (E.tab 1)[i]? = _
    rw [htab i d1, getD_some deB_len d1 d2]
    rfl
  have hi : 0 ≤ (i : Int) ∧ (i : Int) < ((64 : Nat) : Int) := ⟨Int.natCast_nonneg _, by exact_mod_cast d1⟩
  rw [if_pos hi, atK_ok hc, asI_ok, g_wrap_i64 (by omega) (by omega)]

end Jq

/- The numbers of a word, in order. -/
namespace Jq
open Go

/-- A word's numbers, rising. -/
def bitsL (s : Nat) : List Nat := (List.range 64).filter fun i => s.testBit i

theorem mem_bitsL {s i : Nat} : i ∈ bitsL s ↔ i < 64 ∧ s.testBit i = true := by simp [bitsL]

theorem pcN_filter (x : Nat) : ∀ k, pcN k x = ((List.range k).filter fun i => x.testBit i).length
  | 0 => rfl
  | k + 1 => by
    rw [pcN_add k 1, pcN_filter x k, List.range_succ, List.filter_append, List.length_append]
    congr 1
    rw [List.filter_cons, Nat.testBit_eq_decide_div_mod_eq]
    have := Nat.mod_two_eq_zero_or_one (x / 2 ^ k)
    by_cases hb : x / 2 ^ k % 2 = 1
    · simp [hb, pcN]
    · have h0 : x / 2 ^ k % 2 = 0 := by omega
      simp [h0, pcN]

theorem pc_bitsL (s : Nat) : pc s = (bitsL s).length := pcN_filter s 64

theorem low_form {s : Nat} (hs : s < 2 ^ 64) (h0 : s ≠ 0) : ∃ m, s = 2 ^ (Lib.ctz 64 s + 1) * m + 2 ^ Lib.ctz 64 s ∧ Lib.ctz 64 s < 64 := by
  have : Lib.ctz 64 s = Lib.ctzFrom 64 s := by unfold Lib.ctz; rw [if_neg h0]
  rw [this]
  obtain ⟨m, h1, h2⟩ := Lib.ctzFrom_spec 64 s (by omega) hs
  refine ⟨m, ?_, h2⟩
  conv => lhs; rw [h1]
  rw [Nat.mul_add, Nat.mul_one, ← Nat.mul_assoc, Nat.pow_succ]

theorem low_bit {s : Nat} (hs : s < 2 ^ 64) (h0 : s ≠ 0) : s.testBit (Lib.ctz 64 s) = true ∧ (∀ j, j < Lib.ctz 64 s → s.testBit j = false) ∧ ∀ j, (s &&& (s - 1)).testBit j = (s.testBit j && decide (j ≠ Lib.ctz 64 s)) := by
  obtain ⟨m, h1, h2⟩ := low_form hs h0
  generalize Lib.ctz 64 s = k at h1 h2
  have hp : 0 < 2 ^ k := Nat.two_pow_pos k
  have hlt : 2 ^ k < 2 ^ (k + 1) := by rw [Nat.pow_succ]; omega
  have t1 : ∀ j, s.testBit j = if j < k + 1 then decide (j = k) else m.testBit (j - (k + 1)) := by
    intro j
    rw [h1, Nat.testBit_two_pow_mul_add _ hlt]
    split
    · rw [Nat.testBit_two_pow, Bool.eq_iff_iff]; simp; exact eq_comm
    · rfl
  have t2 : ∀ j, (s - 1).testBit j = if j < k + 1 then decide (j < k) else m.testBit (j - (k + 1)) := by
    intro j
    have : s - 1 = 2 ^ (k + 1) * m + (2 ^ k - 1) := by omega
    rw [this, Nat.testBit_two_pow_mul_add _ (by omega)]
    split
    · rw [Nat.testBit_two_pow_sub_one]
    · rfl
  refine ⟨by rw [t1, if_pos (by omega)]; simp, fun j hj => by rw [t1, if_pos (by omega)]; simp; omega, fun j => ?_⟩
  rw [Nat.testBit_and, t1, t2]
  split
  · rw [Bool.eq_iff_iff]; simp; omega
  · rename_i hj
    have : decide (j ≠ k) = true := by simp; omega
    rw [this, Bool.and_self, Bool.and_true]

theorem bitsL_cons {s : Nat} (hs : s < 2 ^ 64) (h0 : s ≠ 0) : bitsL s = Lib.ctz 64 s :: bitsL (s &&& (s - 1)) := by
  obtain ⟨b1, b2, b3⟩ := low_bit hs h0
  obtain ⟨_, _, hk⟩ := low_form hs h0
  generalize Lib.ctz 64 s = k at b1 b2 b3 hk
  unfold bitsL
  have hr : List.range 64 = List.range k ++ k :: List.range' (k + 1) (64 - (k + 1)) := by
    rw [List.range_eq_range', List.range_eq_range']
    have : (64 : Nat) = k + (1 + (64 - (k + 1))) := by omega
    conv => lhs; rw [this]
    rw [List.range'_append_1.symm, Nat.zero_add, Nat.add_comm 1, List.range'_succ]
  rw [hr, List.filter_append, List.filter_append, List.filter_cons, List.filter_cons, if_pos b1, b3 k]
  have e1 : (List.range k).filter (fun i => s.testBit i) = [] := List.filter_eq_nil_iff.2 fun x hx => by rw [b2 x (by simpa using hx)]; simp
  have e2 : (List.range k).filter (fun i => (s &&& (s - 1)).testBit i) = [] := List.filter_eq_nil_iff.2 fun x hx => by rw [b3, b2 x (by simpa using hx)]; simp
  rw [e1, e2, List.nil_append, List.nil_append, if_neg (by simp)]
  congr 1
  refine List.filter_congr fun x hx => ?_
  rw [List.mem_range'_1] at hx
  rw [b3]
  have : decide (x ≠ k) = true := by simp; omega
  rw [this, Bool.and_true]

theorem and_pred_lt {s : Nat} (h0 : s ≠ 0) : s &&& (s - 1) < s := Nat.lt_of_le_of_lt Nat.and_le_right (by omega)

theorem bitsL_zero : bitsL 0 = [] := by decide

theorem bitsL_nil {s : Nat} (hs : s < 2 ^ 64) : bitsL s = [] ↔ s = 0 := by
  constructor
  · intro h
    by_cases h0 : s = 0
    · exact h0
    · rw [bitsL_cons hs h0] at h; cases h
  · rintro rfl; exact bitsL_zero

/-- The first number; none: less than nought. -/
def firstI (s : Nat) : Int := if s = 0 then -1 else Lib.ctz 64 s

/-- What math/bits reads. -/
def TabOk (E : Env) : Prop := ∀ k, k < 64 → (E.tab 1)[k]? = (Lib.deBruijn64tab[k]?).map fun (n : Nat) => Cell.int .u8 (n : Int)

variable {E : Env}

theorem Len_R (hE : set_Set_Len_In E) {s : Nat} (hs : s < 2 ^ 64) (h : AHeap) : R E 56 [.c (.int .u64 s)] h = some ([.c (.int .i64 (pc s))], h) := by
  refine R_intro hE.fn ?_
  rw [set_Set_Len_eq, OnesCount_R hE.c57 hs, c1_ok, asI_ok]

theorem First_R (hE : set_Set_First_In E) (ht : TabOk E) {s : Nat} (hs : s < 2 ^ 64) (h : AHeap) : R E 38 [.c (.int .u64 s)] h = some ([.c (.int .i64 (firstI s))], h) := by
  refine R_intro hE.fn ?_
  rw [set_Set_First_eq]
  unfold firstI
  by_cases h0 : s = 0
  · subst h0; simp
  · have hne : ((s : Int) == 0) = false := by rw [beq_eq_false_iff_ne]; omega
    rw [hne, if_neg h0]
    simp only [Bool.false_eq_true, if_false]
    rw [TrailingZeros_R hE.c42 ht hs h0, c1_ok, asI_ok]

/-- A row of natural numbers, as cells. -/
def natC (l : List Nat) : List Cell := intC .i64 (l.map fun (n : Nat) => (n : Int))

theorem natC_len (l : List Nat) : (natC l).length = l.length := by simp [natC, intC]
theorem natC_snoc (l : List Nat) (n : Nat) : natC (l ++ [n]) = natC l ++ [.int .i64 n] := by simp [natC, intC]
theorem natC_get {l : List Nat} {i n : Nat} (h : l[i]? = some n) : (natC l)[i]? = some (.int .i64 n) := by simp [natC, intC, h]

theorem List_R (hE : set_Set_List_In E) (ht : TabOk E) {s : Nat} (hs : s < 2 ^ 64) (h : AHeap) :
    ∃ x h', R E 32 [.c (.int .u64 s)] h = some ([.c x], h') ∧ Own h.length h' x 1 (natC (bitsL s)) (bitsL s).length ∧ Kp h.length h h' := by
  suffices hs' : ∃ x h', set_Set_List.body (R E) Lim E.glob [.c (.int .u64 s)] h = some ([.c x], h') ∧ Own h.length h' x 1 (natC (bitsL s)) (bitsL s).length ∧ Kp h.length h h' by
    obtain ⟨x, h', hh, hr⟩ := hs'; exact ⟨x, h', R_intro hE.fn hh, hr⟩
  obtain ⟨p, hp, x, h', rfl, ho, hk⟩ := Lim_fall (F := set_Set_List_F1 (R E) Lim E.glob) (fun st => match st.t with | .v (.c (.int _ n)) :: _ => n.toNat | _ => 0)
    (fun st => ∃ (a : Nat) (x : Cell) (h' : AHeap) (done : List Nat), st = set_Set_List_s1 a x h' ∧ a < 2 ^ 64 ∧ done ++ bitsL a = bitsL s ∧ Own h.length h' x 1 (natC done) done.length ∧ Kp h.length h h')
    (fun p => ∃ x h', p = (.exit 0, set_Set_List_x1_1 x h') ∧ Own h.length h' x 1 (natC (bitsL s)) (bitsL s).length ∧ Kp h.length h h')
    (fun st hI => by
      obtain ⟨a, x, h', done, rfl, ha, hd, ho, hk⟩ := hI
      by_cases h0 : a = 0
      · right
        subst h0
        refine ⟨_, by rw [set_Set_List_r1]; rfl, by simp, x, h', rfl, ?_, hk⟩
        rw [bitsL_zero, List.append_nil] at hd
        rw [← hd]; exact ho
      · left
        have hne : ((a : Int) != 0) = true := by rw [bne_iff_ne]; omega
        have hlen : done.length < 64 := by
          have h1 : (bitsL s).length ≤ 64 := by unfold bitsL; exact Nat.le_trans (List.length_filter_le _ _) (by simp)
          rw [← hd, bitsL_cons ha h0] at h1
          simp at h1; omega
        obtain ⟨x', h2, hap, ho', hk', _⟩ := ho.app (xs := [.int .i64 (Lib.ctz 64 a : Nat)]) (bytes := 8) hk.1 rfl (by omega) (by unfold maxBytes; omega) (by unfold maxBytes; omega)
        refine ⟨set_Set_List_s1 ((a &&& (a - 1) : Nat) : Int) x' h2, ?_, ⟨a &&& (a - 1), x', h2, done ++ [Lib.ctz 64 a], rfl, and_lt ha, ?_, ?_, hk.trans hk'⟩, ?_⟩
        · rw [set_Set_List_r1, if_pos hne, First_R hE.c38 ht ha, c1_ok, asI_ok]
          unfold firstI
          rw [if_neg h0, show splice [Cell.int .i64 0] 0 [Cell.int .i64 ((Lib.ctz 64 a : Nat) : Int)] = [.int .i64 ((Lib.ctz 64 a : Nat) : Int)] from rfl, if_pos (show (List.length [_] : Nat) = 1 * 1 from rfl), hap]
          rw [show E.glob.wrap .u64 ((a : Int) - 1) = ((a - 1 : Nat) : Int) by rw [g_wrap_u64 (by omega) (by omega)]; omega, g_band ha (by omega)]
        · rw [List.append_assoc, List.singleton_append, ← bitsL_cons ha h0, hd]
        · rw [natC_snoc, List.length_append]; exact ho'
        · have := and_pred_lt h0
          show ((a &&& (a - 1) : Nat) : Int).toNat < ((a : Nat) : Int).toNat
          omega)
    (st := set_Set_List_s1 s .nils h) ⟨s, .nils, h, [], rfl, hs, rfl, by exact Own.nil _ _ _, Kp.refl _ _⟩
  refine ⟨x, h', ?_, ho, hk⟩
  rw [set_Set_List_eq, hp, bind_ok, set_Set_List_e1_1]

/-- A word of numbers. -/
def ofL (l : List Int) : Nat := l.foldl (fun s i => s ||| bitI i) 0

theorem ofL_snoc (l : List Int) (i : Int) : ofL (l ++ [i]) = ofL l ||| bitI i := by unfold ofL; rw [List.foldl_append]; rfl

theorem ofL_lt (l : List Int) : ofL l < 2 ^ 64 := by
  have : ∀ (l : List Int) (s : Nat), s < 2 ^ 64 → l.foldl (fun s i => s ||| bitI i) s < 2 ^ 64 := by
    intro l
    induction l with
    | nil => exact fun s h => h
    | cons i l ih => exact fun s h => ih _ (or_lt h (bitI_lt i))
  exact this l 0 (by omega)

theorem ofL_bit (l : List Int) (j : Nat) : (ofL l).testBit j = true ↔ j < 64 ∧ (j : Int) ∈ l := by
  have : ∀ (l : List Int) (s : Nat), (l.foldl (fun s i => s ||| bitI i) s).testBit j = true ↔ s.testBit j = true ∨ (j < 64 ∧ (j : Int) ∈ l) := by
    intro l
    induction l with
    | nil => intro s; simp
    | cons i l ih =>
      intro s
      rw [List.foldl_cons, ih, Nat.testBit_or, Bool.or_eq_true, testBit_bitI]
      simp only [Bool.and_eq_true, decide_eq_true_eq, List.mem_cons]
      constructor
      · rintro ((h | ⟨h1, h2⟩) | ⟨h1, h2⟩)
        · exact .inl h
        · exact .inr ⟨h2, .inl h1.symm⟩
        · exact .inr ⟨h1, .inr h2⟩
      · rintro (h | ⟨h1, h2 | h2⟩)
        · exact .inl (.inl h)
        · exact .inl (.inr ⟨h2.symm, h1⟩)
        · exact .inr ⟨h1, h2⟩
  have h := this l 0
  simpa [ofL] using h

theorem OfS_R (hE : set_Of_In E) {x : Cell} {l : List Int} {h : AHeap} (hx : SlAt h x 1 (intC .i64 l) l.length) (hl : l.length < 9223372036854775807) : R E 65 [.c x] h = some ([.c (.int .u64 (ofL l))], h) := by
  refine R_intro hE.fn ?_
  rw [set_Of_eq, hx.len]
  have loop : Lim (set_Of_F1 (R E) Lim E.glob) (set_Of_s1 ((ofL (l.take 0) : Nat) : Int) x l.length ((0 : Nat) : Int) h) = some (.exit 0, set_Of_x1_1 ((ofL (l.take l.length) : Nat) : Int) h) := by
    refine Lim_count (fun i => set_Of_s1 ((ofL (l.take i) : Nat) : Int) x l.length (i : Int) h) 0 l.length (by omega) (fun i _ hi => ?_) (Lim_exit ?_)
    · obtain ⟨n, hn⟩ : ∃ n, l[i]? = some n := ⟨l[i], by simp⟩
      rw [set_Of_r1, if_pos (by simp; omega), hx.get1 hi (intC_get hn), asI_ok, With_R hE.c18 (ofL_lt _), c1_ok, asI_ok, g_succ (by omega), List.take_add_one, hn]
      rw [show (some n).toList = [n] from rfl, ofL_snoc]
    · rw [set_Of_r1, if_neg (by simp)]
  rw [List.take_length] at loop
  rw [show set_Of_s1 0 x l.length 0 h = set_Of_s1 ((ofL (l.take 0) : Nat) : Int) x l.length ((0 : Nat) : Int) h from rfl, loop, bind_ok, set_Of_e1_1]

theorem Upto_R (hE : set_Upto_In E) (a : Int) (h : AHeap) : R E 61 [.c (.int .i64 a)] h = some ([.c (.int .u64 ((2 ^ (min a.toNat 64) - 1 : Nat) : Int))], h) := by
  refine R_intro hE.fn ?_
  have hv : (if 64 < (if 0 > a then 0 else a) then 64 else (if 0 > a then 0 else a)) = ((min a.toNat 64 : Nat) : Int) := by
    split <;> split <;> omega
  rw [set_Upto_eq]
  simp only [hv]
  generalize hk : min a.toNat 64 = k
  have hk64 : k ≤ 64 := by omega
  by_cases h64 : k = 64
  · subst h64; simp
  · have hne : ((k : Int) == 64) = false := by rw [beq_eq_false_iff_ne]; omega
    have h2 : 2 ^ k < 2 ^ 64 := Nat.pow_lt_pow_right (by omega) (by omega)
    have h3 : 0 < 2 ^ k := Nat.two_pow_pos k
    rw [hne]
    simp only [Bool.false_eq_true, if_false]
    rw [g_wrap_u64n (by omega), if_neg (by omega), g_shl_one (by omega), show (((2 ^ k : Nat) : Int) - 1) = ((2 ^ k - 1 : Nat) : Int) by omega, g_wrap_u64n (by omega)]

/-- The next greater word of as many numbers. -/
def nextN (s : Nat) : Nat :=
  if s = 0 then 0 else
    let up := (s + 2 ^ Lib.ctz 64 s) % 2 ^ 64
    if up = 0 then 0 else up ||| (((s ^^^ up) >>> 2) >>> Lib.ctz 64 s)

theorem Next_R (hE : set_Set_Next_In E) (ht : TabOk E) {s : Nat} (hs : s < 2 ^ 64) (h : AHeap) : R E 60 [.c (.int .u64 s)] h = some ([.c (.int .u64 (nextN s))], h) := by
  refine R_intro hE.fn ?_
  rw [set_Set_Next_eq]
  unfold nextN
  by_cases h0 : s = 0
  · subst h0; simp
  · have hne : ((s : Int) == 0) = false := by rw [beq_eq_false_iff_ne]; omega
    rw [hne, if_neg h0]
    simp only [Bool.false_eq_true, if_false]
    obtain ⟨q1, q2⟩ := Lib.lowest_bit 64 s h0 hs
    have hneg : E.glob.wrap .u64 (0 - (s : Int)) = ((2 ^ 64 - s : Nat) : Int) := neg_wrap hs h0
    have hk2 : 2 ^ Lib.ctz 64 s < 2 ^ 64 := Nat.pow_lt_pow_right (by omega) q2
    have hkp : 0 < 2 ^ Lib.ctz 64 s := Nat.two_pow_pos _
    have hup : E.glob.wrap .u64 ((s : Int) + ((2 ^ Lib.ctz 64 s : Nat) : Int)) = (((s + 2 ^ Lib.ctz 64 s) % 2 ^ 64 : Nat) : Int) := by
      show IntKind.wrap .u64 _ = _
      simp only [IntKind.wrap, IntKind.signed, IntKind.bits, Bool.false_and, Bool.false_eq_true, if_false]; omega
    rw [hneg, g_band hs (by omega), q1, hup]
    generalize hu : (s + 2 ^ Lib.ctz 64 s) % 2 ^ 64 = up
    have hulT : up < 2 ^ 64 := by omega
    by_cases hz : up = 0
    · subst hz; simp
    · have hne2 : ((up : Int) == 0) = false := by rw [beq_eq_false_iff_ne]; omega
      rw [hne2, if_neg hz]
      simp only [Bool.false_eq_true, if_false]
      have hct : Lib.ctz 64 (2 ^ Lib.ctz 64 s) = Lib.ctz 64 s := by
        generalize Lib.ctz 64 s = k at q2
        have : ∀ k, k < 64 → Lib.ctz 64 (2 ^ k) = k := by decide +kernel
        exact this k q2
      have hfi : firstI (2 ^ Lib.ctz 64 s) = ((Lib.ctz 64 s : Nat) : Int) := by
        unfold firstI; rw [if_neg (Nat.ne_of_gt hkp), hct]
      rw [First_R hE.c38 ht hk2, c1_ok, asI_ok, hfi, g_wrap_u64n (Nat.lt_trans q2 (by decide)), if_neg (by omega), g_bxor hs hulT, show (2 : Int) = ((2 : Nat) : Int) from rfl, g_shr (by omega), g_shr (by omega)]
      have hx := xor_lt hs hulT
      have hx2 : ((s ^^^ up) >>> 2) >>> Lib.ctz 64 s < 2 ^ 64 := by
        rw [Nat.shiftRight_eq_div_pow, Nat.shiftRight_eq_div_pow]
        exact Nat.lt_of_le_of_lt (Nat.div_le_self _ _) (Nat.lt_of_le_of_lt (Nat.div_le_self _ _) hx)
      rw [g_bor hulT hx2]

end Jq

/- Relations: joining, meeting, putting behind one another, turning, cutting down, pairs. -/
namespace Jq
open Go

/-- The word of these numbers. -/
def mkN (p : Nat → Bool) : Nat := (List.range 64).foldl (fun a j => if p j then a ||| 2 ^ j else a) 0

theorem mkN_aux (p : Nat → Bool) : ∀ m, m ≤ 64 → ((List.range m).foldl (fun a j => if p j then a ||| 2 ^ j else a) 0) < 2 ^ 64 ∧ ∀ j, ((List.range m).foldl (fun a j => if p j then a ||| 2 ^ j else a) 0).testBit j = (decide (j < m) && p j)
  | 0, _ => ⟨by simp, fun j => by simp⟩
  | m + 1, hm => by
    obtain ⟨h1, h2⟩ := mkN_aux p m (by omega)
    rw [List.range_succ, List.foldl_append, List.foldl_cons, List.foldl_nil]
    have hp : 2 ^ m < 2 ^ 64 := Nat.pow_lt_pow_right (by omega) (by omega)
    by_cases hpm : p m = true
    · rw [if_pos hpm]
      refine ⟨or_lt h1 hp, fun j => ?_⟩
      rw [Nat.testBit_or, h2, Nat.testBit_two_pow]
      by_cases hj : j = m
      · subst hj; simp [hpm]
      · rw [show decide (m = j) = false by simp; omega, Bool.or_false]
        congr 1
        rw [Bool.eq_iff_iff]; simp; omega
    · rw [if_neg hpm]
      refine ⟨h1, fun j => ?_⟩
      rw [h2]
      by_cases hj : j = m
      · subst hj; simp [hpm]
      · congr 1
        rw [Bool.eq_iff_iff]; simp; omega

theorem mkN_lt (p : Nat → Bool) : mkN p < 2 ^ 64 := (mkN_aux p 64 (Nat.le_refl _)).1
theorem testBit_mkN (p : Nat → Bool) (j : Nat) : (mkN p).testBit j = (decide (j < 64) && p j) := (mkN_aux p 64 (Nat.le_refl _)).2 j

theorem words_mkN (p : Nat → Nat → Bool) : Words fun i => mkN (p i) := fun _ => mkN_lt _

theorem eq_of_bits {a b : Nat} (ha : a < 2 ^ 64) (hb : b < 2 ^ 64) (h : ∀ j, j < 64 → a.testBit j = b.testBit j) : a = b := by
  refine Nat.eq_of_testBit_eq fun j => ?_
  rcases Nat.lt_or_ge j 64 with hj | hj
  · exact h j hj
  · have h64 : 2 ^ 64 ≤ 2 ^ j := Nat.pow_le_pow_right (by omega) hj
    rw [Nat.testBit_lt_two_pow (Nat.lt_of_lt_of_le ha h64), Nat.testBit_lt_two_pow (Nat.lt_of_lt_of_le hb h64)]

theorem relL_ext {n m : Nat} {f g : Nat → Nat} (hn : n = m) (hf : Words f) (hg : Words g) (h : ∀ i j, i < 64 → j < 64 → (f i).testBit j = (g i).testBit j) : relL n f = relL m g := by
  subst hn
  exact relL_congr fun i hi => eq_of_bits (hf i) (hg i) fun j hj => h i j hi hj

/-- Rows told so far. -/
def upF (T : Nat → Nat) (i : Nat) : Nat → Nat := fun j => if j < i then T j else 0

theorem upF_succ (T : Nat → Nat) (i : Nat) : updF (upF T i) i (T i) = upF T (i + 1) := by
  funext j
  unfold updF upF
  by_cases h : j = i
  · subst h; rw [if_pos rfl, if_pos (by omega)]
  · rw [if_neg h]
    by_cases h2 : j < i
    · rw [if_pos h2, if_pos (by omega)]
    · rw [if_neg h2, if_neg (by omega)]

theorem upF_zero (T : Nat → Nat) : upF T 0 = fun _ => 0 := by funext j; unfold upF; rw [if_neg (by omega)]

theorem words_upF {T : Nat → Nat} (h : Words T) (i : Nat) : Words (upF T i) := fun j => by unfold upF; split; exact h j; omega

theorem all_bit (n j : Nat) : (2 ^ n - 1).testBit j = decide (j < n) := Nat.testBit_two_pow_sub_one _ _

theorem all_lt {n : Nat} (hn : n ≤ 64) : 2 ^ n - 1 < 2 ^ 64 := by
  have : 2 ^ n ≤ 2 ^ 64 := Nat.pow_le_pow_right (by omega) hn
  have := Nat.two_pow_pos n
  omega

variable {E : Env}

theorem upto_n (hE : set_Upto_In E) {n : Nat} (hn : n ≤ 64) (h : AHeap) : R E 61 [.c (.int .i64 n)] h = some ([.c (.int .u64 ((2 ^ n - 1 : Nat) : Int))], h) := by
  rw [Upto_R hE, Int.toNat_natCast, Nat.min_eq_left hn]

theorem min_nat (n m : Nat) : (if (m : Int) < (n : Int) then (m : Int) else (n : Int)) = ((min n m : Nat) : Int) := by split <;> omega

theorem clamp_nat {n : Nat} (hn : n ≤ 64) : clamp (n : Int) = n := by unfold clamp; omega

/-- Two, row by row, over the lesser. -/
theorem both_R (hE : rel_both_In E) {n m : Nat} (hn : n ≤ 64) (hm : m ≤ 64) {f g : Nat → Nat} (hf : Words f) (hg : Words g) (k : Nat) (op : Nat → Nat → Nat) (hop : ∀ a b, a < 2 ^ 64 → b < 2 ^ 64 → op a b < 2 ^ 64 ∧ ∀ h, R E k [.c (.int .u64 (a : Nat)), .c (.int .u64 (b : Nat))] h = some ([.c (.int .u64 ((op a b : Nat) : Int))], h)) (h : AHeap) :
    R E 73 [.agg (relL n f), .agg (relL m g), .c (.fn k [])] h = some ([.agg (relL (min n m) (upF (fun i => op (f i) (g i) &&& (2 ^ min n m - 1)) (min n m)))], h) := by
  refine R_intro hE.fn ?_
  have hmn : min n m ≤ 64 := by omega
  rw [rel_both_eq, atK_ok (relL_zero _ _), asI_ok, atK_ok (relL_zero _ _), asI_ok, min_nat, New_R hE.c9, c1_ok, asA_ok, clamp_nat hmn]
  generalize min n m = r at hmn
  rw [if_pos ⟨rfl, zero_len, relL_len _ _⟩, atK_ok (relL_zero _ _), asI_ok]
  have loop : Lim (rel_both_F1 (R E) Lim E.glob) (rel_both_s1 (.fn k []) r ((0 : Nat) : Int) (relL n f) (relL m g) zeroL (relL r (upF (fun i => op (f i) (g i) &&& (2 ^ r - 1)) 0)) h) = some (.exit 0, rel_both_x1_1 zeroL (relL r (upF (fun i => op (f i) (g i) &&& (2 ^ r - 1)) r)) h) := by
    refine Lim_count (fun i => rel_both_s1 (.fn k []) r (i : Int) (relL n f) (relL m g) zeroL (relL r (upF (fun i => op (f i) (g i) &&& (2 ^ r - 1)) i)) h) 0 r (by omega) (fun i _ hi => ?_) (Lim_exit ?_)
    · have q1 : 0 ≤ (i : Int) ∧ (i : Int) < ((64 : Nat) : Int) := by omega
      obtain ⟨o1, o2⟩ := hop (f i) (g i) (hf i) (hg i)
      rw [rel_both_r1, if_pos (by simp; omega), if_pos q1, Int.toNat_natCast, Nat.mul_one, atK_ok (relL_row (by omega)), asI_ok, if_pos q1, atK_ok (relL_row (by omega)), asI_ok]
      rw [fnK_ok, List.append_nil, o2, qh_ok, c1_ok, asI_ok, atK_ok (relL_zero _ _), asI_ok, upto_n hE.c61 hmn, qh_ok, c1_ok, asI_ok, if_pos q1, g_band o1 (all_lt hmn), relL_set, if_pos (by rw [relL_len]; omega), g_succ (by omega), upF_succ (fun i => op (f i) (g i) &&& (2 ^ r - 1))]
    · rw [rel_both_r1, if_neg (by simp)]
  rw [upF_zero] at loop
  rw [show rel_both_s1 (.fn k []) r 0 (relL n f) (relL m g) ([Cell.int .i64 0] ++ List.replicate 64 (Cell.int .u64 0)) (relL r fun _ => 0) h = rel_both_s1 (.fn k []) r ((0 : Nat) : Int) (relL n f) (relL m g) zeroL (relL r fun _ => 0) h from rfl, loop, bind_ok, rel_both_e1_1]
  simp only [relL_len, zeroL, zero_len, and_self, if_true]

/-- A relation by what it has. -/
def relM (n : Nat) (p : Nat → Nat → Bool) : List Cell := relL n fun i => mkN (p i)

theorem words_relM (p : Nat → Nat → Bool) : Words fun i => mkN (p i) := fun _ => mkN_lt _

theorem both_M {n : Nat} (hn : n ≤ 64) {f g : Nat → Nat} (hf : Words f) (hg : Words g) (op : Nat → Nat → Nat) (b : Bool → Bool → Bool) (hop : ∀ x y, x < 2 ^ 64 → y < 2 ^ 64 → op x y < 2 ^ 64) (hb : ∀ x y j, (op x y).testBit j = b (x.testBit j) (y.testBit j)) :
    relL n (upF (fun i => op (f i) (g i) &&& (2 ^ n - 1)) n) = relM n fun i j => decide (i < n) && decide (j < n) && b ((f i).testBit j) ((g i).testBit j) := by
  refine relL_ext rfl (words_upF (fun i => and_lt (hop _ _ (hf i) (hg i))) n) (words_mkN _) fun i j hi hj => ?_
  rw [testBit_mkN]
  unfold upF
  by_cases hin : i < n
  · rw [if_pos hin, Nat.testBit_and, hb, all_bit]
    simp [hin, hj, Bool.and_comm]
  · rw [if_neg hin, Nat.zero_testBit]; simp [hin]

theorem Union_R (hE : rel_Rel_Union_In E) {n m : Nat} (hn : n ≤ 64) (hm : m ≤ 64) {f g : Nat → Nat} (hf : Words f) (hg : Words g) (h : AHeap) :
    R E 59 [.agg (relL n f), .agg (relL m g)] h = some ([.agg (relM (min n m) fun i j => decide (i < min n m) && decide (j < min n m) && ((f i).testBit j || (g i).testBit j))], h) := by
  refine R_intro hE.fn ?_
  rw [rel_Rel_Union_eq, if_pos ⟨rfl, relL_len _ _⟩, if_pos ⟨rfl, relL_len _ _⟩, both_R hE.c73 hn hm hf hg 72 (fun a b => a ||| b) (fun a b ha hb => ⟨or_lt ha hb, fun h => R_intro hE.c72.fn (by rw [rel_Rel_Union_1_eq, g_bor ha hb])⟩), c1_ok, asA_ok]
  simp only [relL_len, zero_len, and_self, if_true]
  rw [both_M (by omega) hf hg (fun a b => a ||| b) (· || ·) (fun _ _ => or_lt) fun x y j => Nat.testBit_or ..]

theorem Minus_R (hE : rel_Rel_Minus_In E) {n m : Nat} (hn : n ≤ 64) (hm : m ≤ 64) {f g : Nat → Nat} (hf : Words f) (hg : Words g) (h : AHeap) :
    R E 68 [.agg (relL n f), .agg (relL m g)] h = some ([.agg (relM (min n m) fun i j => decide (i < min n m) && decide (j < min n m) && ((f i).testBit j && !(g i).testBit j))], h) := by
  refine R_intro hE.fn ?_
  rw [rel_Rel_Minus_eq, if_pos ⟨rfl, relL_len _ _⟩, if_pos ⟨rfl, relL_len _ _⟩, both_R hE.c73 hn hm hf hg 75 ndiff (fun a b ha hb => ⟨ndiff_lt ha, fun h => R_intro hE.c75.fn (by rw [rel_Rel_Minus_1_eq, g_bandNot ha hb])⟩), c1_ok, asA_ok]
  simp only [relL_len, zero_len, and_self, if_true]
  rw [both_M (by omega) hf hg ndiff (fun a b => a && !b) (fun _ _ h _ => ndiff_lt h) fun x y j => testBit_ndiff x y j]

theorem Meet_R (hE : rel_Rel_Meet_In E) {n m : Nat} (hn : n ≤ 64) (hm : m ≤ 64) {f g : Nat → Nat} (hf : Words f) (hg : Words g) (h : AHeap) :
    R E 67 [.agg (relL n f), .agg (relL m g)] h = some ([.agg (relM (min n m) fun i j => decide (i < min n m) && decide (j < min n m) && ((f i).testBit j && (g i).testBit j))], h) := by
  refine R_intro hE.fn ?_
  rw [rel_Rel_Meet_eq, if_pos ⟨rfl, relL_len _ _⟩, if_pos ⟨rfl, relL_len _ _⟩, both_R hE.c73 hn hm hf hg 74 (fun a b => a &&& b) (fun a b ha hb => ⟨and_lt ha, fun h => R_intro hE.c74.fn (by rw [rel_Rel_Meet_1_eq, g_band ha hb])⟩), c1_ok, asA_ok]
  simp only [relL_len, zero_len, and_self, if_true]
  rw [both_M (by omega) hf hg (fun a b => a &&& b) (· && ·) (fun _ _ h _ => and_lt h) fun x y j => Nat.testBit_and ..]

/- Putting behind one another. -/
def orL (T : Nat → Nat) (l : List Nat) : Nat := l.foldl (fun a k => a ||| T k) 0

theorem orL_snoc (T : Nat → Nat) (l : List Nat) (k : Nat) : orL T (l ++ [k]) = orL T l ||| T k := by unfold orL; rw [List.foldl_append]; rfl

theorem orL_lt {T : Nat → Nat} (hT : Words T) (l : List Nat) : orL T l < 2 ^ 64 := by
  have : ∀ (l : List Nat) (s : Nat), s < 2 ^ 64 → l.foldl (fun a k => a ||| T k) s < 2 ^ 64 := by
    intro l
    induction l with
    | nil => exact fun s h => h
    | cons k l ih => exact fun s h => ih _ (or_lt h (hT k))
  exact this l 0 (by omega)

theorem orL_bit (T : Nat → Nat) (l : List Nat) (j : Nat) : (orL T l).testBit j = l.any fun k => (T k).testBit j := by
  have : ∀ (l : List Nat) (s : Nat), (l.foldl (fun a k => a ||| T k) s).testBit j = (s.testBit j || l.any fun k => (T k).testBit j) := by
    intro l
    induction l with
    | nil => intro s; simp
    | cons k l ih => intro s; rw [List.foldl_cons, ih, Nat.testBit_or, List.any_cons, Bool.or_assoc]
  have h := this l 0
  rw [Nat.zero_testBit, Bool.false_or] at h
  exact h

/-- A loop over a word's numbers: from the least on. -/
theorem Lim_bits {F : St → Option (Ex × St)} (g : Nat → List Nat → St) {s : Nat} (hs : s < 2 ^ 64) (hstep : ∀ a done, a < 2 ^ 64 → a ≠ 0 → done ++ bitsL a = bitsL s → Lib.ctz 64 a < 64 → s.testBit (Lib.ctz 64 a) = true → F (g a done) = some (.normal, g (a &&& (a - 1)) (done ++ [Lib.ctz 64 a])))
    {p : Ex × St} (hend : Lim F (g 0 (bitsL s)) = some p) : Lim F (g s []) = some p := by
  have : ∀ k a done, a ≤ k → a < 2 ^ 64 → done ++ bitsL a = bitsL s → Lim F (g a done) = some p := by
    intro k
    induction k with
    | zero =>
      intro a done hak _ hd
      have h0 : a = 0 := by omega
      subst h0
      rw [bitsL_zero, List.append_nil] at hd
      rw [hd]; exact hend
    | succ k ih =>
      intro a done hak ha hd
      by_cases h0 : a = 0
      · subst h0
        rw [bitsL_zero, List.append_nil] at hd
        rw [hd]; exact hend
      · have hc := bitsL_cons ha h0
        have hmem : Lib.ctz 64 a ∈ bitsL s := by rw [← hd, hc]; simp
        obtain ⟨m1, m2⟩ := mem_bitsL.1 hmem
        refine Lim_next (hstep a done ha h0 hd m1 m2) (ih _ _ ?_ (and_lt ha) ?_)
        · have := and_pred_lt h0; omega
        · rw [List.append_assoc, List.singleton_append, ← hc, hd]
  exact this s s [] (Nat.le_refl _) hs rfl

theorem pred_wrap {a : Nat} (ha : a < 2 ^ 64) (h0 : a ≠ 0) : E.glob.band .u64 (a : Int) (E.glob.wrap .u64 ((a : Int) - 1)) = ((a &&& (a - 1) : Nat) : Int) := by
  rw [show E.glob.wrap .u64 ((a : Int) - 1) = ((a - 1 : Nat) : Int) by rw [g_wrap_u64 (by omega) (by omega)]; omega, g_band ha (by omega)]

theorem ne_zero {a : Nat} (h0 : a ≠ 0) : ((a : Int) != 0) = true := by rw [bne_iff_ne]; omega

def thenF (n : Nat) (f g : Nat → Nat) (i : Nat) : Nat := orL (fun k => g k &&& (2 ^ n - 1)) (bitsL (f i &&& (2 ^ n - 1)))

theorem Then_R (hE : rel_Rel_Then_In E) (ht : TabOk E) {n m : Nat} (hn : n ≤ 64) (hm : m ≤ 64) {f g : Nat → Nat} (hf : Words f) (hg : Words g) (h : AHeap) :
    R E 58 [.agg (relL n f), .agg (relL m g)] h = some ([.agg (relM (min n m) fun i j => decide (i < min n m) && decide (j < min n m) && (List.range (min n m)).any fun k => (f i).testBit k && (g k).testBit j)], h) := by
  refine R_intro hE.fn ?_
  have hmn : min n m ≤ 64 := by omega
  rw [rel_Rel_Then_eq, atK_ok (relL_zero _ _), asI_ok, atK_ok (relL_zero _ _), asI_ok, min_nat, New_R hE.c9, c1_ok, asA_ok, clamp_nat hmn]
  generalize min n m = r at hmn
  have hal := all_lt hmn
  have hT : Words fun k => g k &&& (2 ^ r - 1) := fun k => and_lt (hg k)
  have hW : Words (thenF r f g) := fun i => orL_lt hT _
  rw [if_pos ⟨rfl, zero_len, relL_len _ _⟩, atK_ok (relL_zero _ _), asI_ok, upto_n hE.c61 hmn, c1_ok, asI_ok, atK_ok (relL_zero _ _), asI_ok]
  have loop : Lim (rel_Rel_Then_F2 (R E) Lim E.glob) (rel_Rel_Then_s2 ((2 ^ r - 1 : Nat) : Int) r ((0 : Nat) : Int) (relL n f) (relL m g) zeroL (relL r (upF (thenF r f g) 0)) h) = some (.exit 0, rel_Rel_Then_x2_1 zeroL (relL r (upF (thenF r f g) r)) h) := by
    refine Lim_count (fun i => rel_Rel_Then_s2 ((2 ^ r - 1 : Nat) : Int) r (i : Int) (relL n f) (relL m g) zeroL (relL r (upF (thenF r f g) i)) h) 0 r (by omega) (fun i _ hi => ?_) (Lim_exit ?_)
    · have q1 : 0 ≤ (i : Int) ∧ (i : Int) < ((64 : Nat) : Int) := by omega
      rw [rel_Rel_Then_r2, if_pos (by simp; omega), if_pos q1, Int.toNat_natCast, Nat.mul_one, atK_ok (relL_row (by omega)), asI_ok, g_band (hf i) hal]
      have hs : f i &&& (2 ^ r - 1) < 2 ^ 64 := and_lt (hf i)
      have inner := Lim_bits (F := rel_Rel_Then_F1 (R E) Lim E.glob) (fun a done => rel_Rel_Then_s1 ((2 ^ r - 1 : Nat) : Int) i (a : Nat) r i (relL n f) (relL m g) zeroL (relL r (updF (upF (thenF r f g) i) i (orL (fun k => g k &&& (2 ^ r - 1)) done))) h) hs (fun a done ha h0 hd hc hb => by
        have q2 : 0 ≤ ((Lib.ctz 64 a : Nat) : Int) ∧ ((Lib.ctz 64 a : Nat) : Int) < ((64 : Nat) : Int) := by omega
        have hcell : (relL r (updF (upF (thenF r f g) i) i (orL (fun k => g k &&& (2 ^ r - 1)) done)))[1 + i]? = some (.int .u64 ((orL (fun k => g k &&& (2 ^ r - 1)) done : Nat) : Int)) := by
          rw [relL_row (by omega)]; unfold updF; rw [if_pos rfl]
        have hupd : updF (updF (upF (thenF r f g) i) i (orL (fun k => g k &&& (2 ^ r - 1)) done)) i (orL (fun k => g k &&& (2 ^ r - 1)) (done ++ [Lib.ctz 64 a])) = updF (upF (thenF r f g) i) i (orL (fun k => g k &&& (2 ^ r - 1)) (done ++ [Lib.ctz 64 a])) := by
          funext j; unfold updF; split <;> rfl
        rw [rel_Rel_Then_r1, if_pos (ne_zero h0), if_pos q1, Int.toNat_natCast, Nat.mul_one, atK_ok hcell, asI_ok, First_R hE.c38 ht ha, qh_ok, c1_ok, asI_ok]
        unfold firstI
        rw [if_neg h0, if_pos q2, Int.toNat_natCast, Nat.mul_one, atK_ok (relL_row hc), asI_ok, if_pos q1, if_pos (by rw [relL_len]; omega), g_band (hg _) hal, g_bor (orL_lt hT _) (hT (Lib.ctz 64 a)), pred_wrap ha h0, relL_set, ← orL_snoc (fun k => g k &&& (2 ^ r - 1)), hupd])
        (p := (.exit 2, rel_Rel_Then_x1_3 ((2 ^ r - 1 : Nat) : Int) r i (relL n f) (relL m g) zeroL (relL r (upF (thenF r f g) (i + 1))) h)) (Lim_exit (by
          rw [rel_Rel_Then_r1, if_neg (by simp), ← upF_succ]; rfl))
      have hz : updF (upF (thenF r f g) i) i (orL (fun k => g k &&& (2 ^ r - 1)) []) = upF (thenF r f g) i := by
        funext j; unfold updF upF orL
        by_cases hj : j = i
        · rw [if_pos hj, if_neg (by omega)]; rfl
        · rw [if_neg hj]
      rw [hz] at inner
      rw [inner, bind_ok, rel_Rel_Then_e1_3, g_succ (by omega)]
    · rw [rel_Rel_Then_r2, if_neg (by simp)]
  rw [upF_zero] at loop
  rw [show rel_Rel_Then_s2 ((2 ^ r - 1 : Nat) : Int) r 0 (relL n f) (relL m g) ([Cell.int .i64 0] ++ List.replicate 64 (Cell.int .u64 0)) (relL r fun _ => 0) h = rel_Rel_Then_s2 ((2 ^ r - 1 : Nat) : Int) r ((0 : Nat) : Int) (relL n f) (relL m g) zeroL (relL r fun _ => 0) h from rfl, loop, bind_ok, rel_Rel_Then_e2_1]
  simp only [relL_len, zeroL, zero_len, and_self, if_true]
  congr 4
  refine relL_ext rfl (words_upF hW r) (words_mkN _) fun i j hi hj => ?_
  rw [testBit_mkN]
  unfold upF
  by_cases hin : i < r
  · rw [if_pos hin, thenF, orL_bit, Bool.eq_iff_iff]
    simp only [List.any_eq_true, mem_bitsL, Nat.testBit_and, all_bit, Bool.and_eq_true, decide_eq_true_eq, List.mem_range]
    constructor
    · rintro ⟨k, ⟨_, hk1, hk2⟩, hk3, hk4⟩; exact ⟨hj, ⟨hin, hk4⟩, k, hk2, hk1, hk3⟩
    · rintro ⟨_, ⟨_, h4⟩, k, hk2, hk1, hk3⟩; exact ⟨k, ⟨by omega, hk1, hk2⟩, hk3, h4⟩
  · rw [if_neg hin, Nat.zero_testBit]; simp [hin]

/- Turning about. -/
/-- What has been turned: all of the rows below i, of row i what is done. -/
def invP (f : Nat → Nat) (i : Nat) (done : List Nat) : Nat → Nat := fun k => mkN fun j => (decide (j < i) && (f j).testBit k) || (decide (j = i) && decide (k ∈ done))

theorem invP_lt (f : Nat → Nat) (i : Nat) (done : List Nat) : Words (invP f i done) := fun _ => mkN_lt _

theorem bitI_nat {n : Nat} (hn : n < 64) : bitI (n : Int) = 2 ^ n := by unfold bitI; rw [if_pos (by omega)]; simp

theorem Inverse_R (hE : rel_Rel_Inverse_In E) (ht : TabOk E) {n : Nat} (hn : n ≤ 64) {f : Nat → Nat} (hf : Words f) (h : AHeap) :
    R E 40 [.agg (relL n f)] h = some ([.agg (relM n fun i j => decide (j < n) && (f j).testBit i)], h) := by
  refine R_intro hE.fn ?_
  rw [rel_Rel_Inverse_eq, atK_ok (relL_zero _ _), asI_ok, New_R hE.c9, c1_ok, asA_ok, clamp_nat hn, if_pos ⟨rfl, zero_len, relL_len _ _⟩, atK_ok (relL_zero _ _), asI_ok]
  have loop : Lim (rel_Rel_Inverse_F2 (R E) Lim E.glob) (rel_Rel_Inverse_s2 n ((0 : Nat) : Int) (relL n f) zeroL (relL n (invP f 0 [])) h) = some (.exit 0, rel_Rel_Inverse_x2_1 zeroL (relL n (invP f n [])) h) := by
    refine Lim_count (fun i => rel_Rel_Inverse_s2 n (i : Int) (relL n f) zeroL (relL n (invP f i [])) h) 0 n (by omega) (fun i _ hi => ?_) (Lim_exit ?_)
    · have q1 : 0 ≤ (i : Int) ∧ (i : Int) < ((64 : Nat) : Int) := by omega
      rw [rel_Rel_Inverse_r2, if_pos (by simp; omega), if_pos q1, Int.toNat_natCast, Nat.mul_one, atK_ok (relL_row (by omega)), asI_ok]
      have inner := Lim_bits (F := rel_Rel_Inverse_F1 (R E) Lim E.glob) (fun a done => rel_Rel_Inverse_s1 i (a : Nat) n i (relL n f) zeroL (relL n (invP f i done)) h) (hf i) (fun a done ha h0 hd hc hb => by
        have q2 : 0 ≤ ((Lib.ctz 64 a : Nat) : Int) ∧ ((Lib.ctz 64 a : Nat) : Int) < ((64 : Nat) : Int) := by omega
        have hF : firstI a = ((Lib.ctz 64 a : Nat) : Int) := by unfold firstI; rw [if_neg h0]
        have hupd : relL n (updF (invP f i done) (Lib.ctz 64 a) (invP f i done (Lib.ctz 64 a) ||| bitI (i : Int))) = relL n (invP f i (done ++ [Lib.ctz 64 a])) := by
          refine relL_ext rfl (words_upd (invP_lt f i done) (or_lt (invP_lt f i done _) (bitI_lt _))) (invP_lt f i _) fun k j hk hj => ?_
          unfold updF
          by_cases hkc : k = Lib.ctz 64 a
          · rw [if_pos hkc, Nat.testBit_or, testBit_bitI]
            unfold invP
            rw [testBit_mkN, testBit_mkN, Bool.eq_iff_iff]
            simp only [Bool.or_eq_true, Bool.and_eq_true, decide_eq_true_eq, List.mem_append, List.mem_singleton, hj, true_and, hkc, or_true, and_true]
            constructor
            · rintro ((h1 | ⟨h1, _⟩) | h1)
              · exact .inl h1
              · exact .inr h1
              · exact .inr (by omega)
            · rintro (h1 | h1)
              · exact .inl (.inl h1)
              · exact .inr (by omega)
          · rw [if_neg hkc]
            unfold invP
            rw [testBit_mkN, testBit_mkN]
            simp [hkc]
        rw [rel_Rel_Inverse_r1, if_pos (ne_zero h0), First_R hE.c38 ht ha, c1_ok, asI_ok, First_R hE.c38 ht ha, c1_ok, asI_ok, hF, if_pos q2, Int.toNat_natCast, Nat.mul_one, atK_ok (relL_row hc), asI_ok, With_R hE.c18 (invP_lt f i done _), c1_ok, asI_ok, if_pos q2, if_pos (by rw [relL_len]; omega), pred_wrap ha h0, relL_set, hupd])
        (p := (.exit 2, rel_Rel_Inverse_x1_3 n i (relL n f) zeroL (relL n (invP f (i + 1) [])) h)) (Lim_exit (by
          have hnext : relL n (invP f i (bitsL (f i))) = relL n (invP f (i + 1) []) := by
            refine relL_ext rfl (invP_lt f i _) (invP_lt f (i + 1) _) fun k j hk hj => ?_
            unfold invP
            rw [testBit_mkN, testBit_mkN, Bool.eq_iff_iff]
            simp only [Bool.or_eq_true, Bool.and_eq_true, decide_eq_true_eq, hj, true_and, mem_bitsL, hk, List.not_mem_nil, and_false, or_false]
            constructor
            · rintro (⟨h1, h2⟩ | ⟨h1, h2⟩)
              · exact ⟨by omega, h2⟩
              · subst h1; exact ⟨by omega, h2⟩
            · rintro ⟨h1, h2⟩
              by_cases hji : j = i
              · subst hji; exact .inr ⟨rfl, h2⟩
              · exact .inl ⟨by omega, h2⟩
          rw [rel_Rel_Inverse_r1, if_neg (by simp), hnext]))
      rw [inner, bind_ok, rel_Rel_Inverse_e1_3, g_succ (by omega)]
    · rw [rel_Rel_Inverse_r2, if_neg (by simp)]
  have h00 : relL n (invP f 0 []) = relL n fun _ => 0 := by
    refine relL_ext rfl (invP_lt f 0 _) words_zero fun k j hk hj => ?_
    unfold invP
    rw [testBit_mkN]; simp
  rw [h00] at loop
  rw [show rel_Rel_Inverse_s2 n 0 (relL n f) ([Cell.int .i64 0] ++ List.replicate 64 (Cell.int .u64 0)) (relL n fun _ => 0) h = rel_Rel_Inverse_s2 n ((0 : Nat) : Int) (relL n f) zeroL (relL n fun _ => 0) h from rfl, loop, bind_ok, rel_Rel_Inverse_e2_1]
  simp only [relL_len, zeroL, zero_len, and_self, if_true]
  congr 4
  refine relL_ext rfl (invP_lt f n _) (words_mkN _) fun i j hi hj => ?_
  unfold invP
  rw [testBit_mkN, testBit_mkN]; simp

/- Cutting down. -/
theorem Keep_R (hE : rel_Rel_Keep_In E) {n : Nat} (hn : n ≤ 64) {f : Nat → Nat} (hf : Words f) {s : Nat} (hs : s < 2 ^ 64) (h : AHeap) :
    R E 66 [.agg (relL n f), .c (.int .u64 s)] h = some ([.agg (relM n fun i j => decide (i < n) && s.testBit i && ((f i).testBit j && s.testBit j))], h) := by
  refine R_intro hE.fn ?_
  rw [rel_Rel_Keep_eq, atK_ok (relL_zero _ _), asI_ok, New_R hE.c9, c1_ok, asA_ok, clamp_nat hn, if_pos ⟨rfl, zero_len, relL_len _ _⟩, atK_ok (relL_zero _ _), asI_ok]
  have hT : Words fun i => if s.testBit i then f i &&& s else 0 := fun i => by
    show (if s.testBit i = true then f i &&& s else 0) < 2 ^ 64
    split
    · exact and_lt (hf i)
    · omega
  have loop : Lim (rel_Rel_Keep_F1 (R E) Lim E.glob) (rel_Rel_Keep_s1 s n ((0 : Nat) : Int) (relL n f) zeroL (relL n (upF (fun i => if s.testBit i then f i &&& s else 0) 0)) h) = some (.exit 0, rel_Rel_Keep_x1_1 zeroL (relL n (upF (fun i => if s.testBit i then f i &&& s else 0) n)) h) := by
    refine Lim_count (fun i => rel_Rel_Keep_s1 s n (i : Int) (relL n f) zeroL (relL n (upF (fun i => if s.testBit i then f i &&& s else 0) i)) h) 0 n (by omega) (fun i _ hi => ?_) (Lim_exit ?_)
    · have q1 : 0 ≤ (i : Int) ∧ (i : Int) < ((64 : Nat) : Int) := by omega
      rw [rel_Rel_Keep_r1, if_pos (by simp; omega), Has_R hE.c17 hs, c1_ok, asB_ok, hasI_nat (by omega), ← upF_succ]
      cases hb : s.testBit i with
      | true =>
        simp only [if_true]
        rw [if_pos q1, Int.toNat_natCast, Nat.mul_one, atK_ok (relL_row (by omega)), asI_ok, if_pos q1, if_pos (by rw [relL_len]; omega), g_band (hf i) hs, relL_set, g_succ (by omega)]
      | false =>
        simp only [Bool.false_eq_true, if_false]
        rw [g_succ (by omega)]
        have : updF (upF (fun i => if s.testBit i = true then f i &&& s else 0) i) i 0 = upF (fun i => if s.testBit i = true then f i &&& s else 0) i := by
          funext j; unfold updF upF
          by_cases hj : j = i
          · rw [if_pos hj, if_neg (by omega)]
          · rw [if_neg hj]
        rw [this]
    · rw [rel_Rel_Keep_r1, if_neg (by simp)]
  rw [upF_zero] at loop
  rw [show rel_Rel_Keep_s1 s n 0 (relL n f) ([Cell.int .i64 0] ++ List.replicate 64 (Cell.int .u64 0)) (relL n fun _ => 0) h = rel_Rel_Keep_s1 s n ((0 : Nat) : Int) (relL n f) zeroL (relL n fun _ => 0) h from rfl, loop, bind_ok, rel_Rel_Keep_e1_1]
  simp only [relL_len, zeroL, zero_len, and_self, if_true]
  congr 4
  refine relL_ext rfl (words_upF hT n) (words_mkN _) fun i j hi hj => ?_
  rw [testBit_mkN]
  unfold upF
  by_cases hin : i < n
  · rw [if_pos hin]
    cases hb : s.testBit i with
    | true => simp [hin, hj, hb, Nat.testBit_and]
    | false => simp [hb]
  · rw [if_neg hin, Nat.zero_testBit]; simp [hin]

end Jq

/- Relations over one number: by what they have. -/
namespace Jq
open Go

def TH (n : Nat) (f g : Nat → Nat) : Nat → Nat := fun i => mkN fun j => decide (i < n) && decide (j < n) && (List.range n).any fun k => (f i).testBit k && (g k).testBit j
def UNI (n : Nat) (f g : Nat → Nat) : Nat → Nat := fun i => mkN fun j => decide (i < n) && decide (j < n) && ((f i).testBit j || (g i).testBit j)
def MIN (n : Nat) (f g : Nat → Nat) : Nat → Nat := fun i => mkN fun j => decide (i < n) && decide (j < n) && ((f i).testBit j && !(g i).testBit j)
def MEE (n : Nat) (f g : Nat → Nat) : Nat → Nat := fun i => mkN fun j => decide (i < n) && decide (j < n) && ((f i).testBit j && (g i).testBit j)
def INV (n : Nat) (f : Nat → Nat) : Nat → Nat := fun i => mkN fun j => decide (j < n) && (f j).testBit i
def KEE (n : Nat) (f : Nat → Nat) (s : Nat) : Nat → Nat := fun i => mkN fun j => decide (i < n) && s.testBit i && ((f i).testBit j && s.testBit j)

theorem w_TH (n : Nat) (f g : Nat → Nat) : Words (TH n f g) := fun _ => mkN_lt _
theorem w_UNI (n : Nat) (f g : Nat → Nat) : Words (UNI n f g) := fun _ => mkN_lt _
theorem w_MIN (n : Nat) (f g : Nat → Nat) : Words (MIN n f g) := fun _ => mkN_lt _
theorem w_MEE (n : Nat) (f g : Nat → Nat) : Words (MEE n f g) := fun _ => mkN_lt _
theorem w_INV (n : Nat) (f : Nat → Nat) : Words (INV n f) := fun _ => mkN_lt _
theorem w_KEE (n : Nat) (f : Nat → Nat) (s : Nat) : Words (KEE n f s) := fun _ => mkN_lt _

/-- All pairs are over n. -/
def Fit (n : Nat) (f : Nat → Nat) : Prop := ∀ i j, (f i).testBit j = true → i < n ∧ j < n

theorem of_fit {n : Nat} (hn : n ≤ 64) (l : List (Int × Int)) : Fit n (ofR n l) := by
  intro a b hb
  obtain ⟨p, _, h1, h2, h3, h4⟩ := (of_bit hn l a b).1 hb
  have k1 : 0 ≤ p.1 ∧ p.1 < n := by simpa [inR] using h1
  have k2 : 0 ≤ p.2 ∧ p.2 < n := by simpa [inR] using h2
  omega

theorem b_TH {n : Nat} (hn : n ≤ 64) (f g : Nat → Nat) (i j : Nat) : (TH n f g i).testBit j = true ↔ i < n ∧ j < n ∧ ∃ k, k < n ∧ (f i).testBit k = true ∧ (g k).testBit j = true := by
  unfold TH
  rw [testBit_mkN]
  simp only [Bool.and_eq_true, decide_eq_true_eq, List.any_eq_true, List.mem_range]
  constructor
  · rintro ⟨_, ⟨h1, h2⟩, k, h3, h4, h5⟩; exact ⟨h1, h2, k, h3, h4, h5⟩
  · rintro ⟨h1, h2, k, h3, h4, h5⟩; exact ⟨by omega, ⟨h1, h2⟩, k, h3, h4, h5⟩
theorem b_UNI {n : Nat} (hn : n ≤ 64) (f g : Nat → Nat) (i j : Nat) : (UNI n f g i).testBit j = true ↔ i < n ∧ j < n ∧ ((f i).testBit j = true ∨ (g i).testBit j = true) := by
  unfold UNI
  rw [testBit_mkN]
  simp only [Bool.and_eq_true, decide_eq_true_eq, Bool.or_eq_true]
  constructor
  · rintro ⟨_, ⟨h1, h2⟩, h⟩; exact ⟨h1, h2, h⟩
  · rintro ⟨h1, h2, h⟩; exact ⟨by omega, ⟨h1, h2⟩, h⟩
theorem b_MIN {n : Nat} (hn : n ≤ 64) (f g : Nat → Nat) (i j : Nat) : (MIN n f g i).testBit j = true ↔ i < n ∧ j < n ∧ (f i).testBit j = true ∧ ¬ (g i).testBit j = true := by
  unfold MIN
  rw [testBit_mkN]
  simp only [Bool.and_eq_true, decide_eq_true_eq, Bool.not_eq_true', Bool.not_eq_true]
  constructor
  · rintro ⟨_, ⟨h1, h2⟩, h⟩; exact ⟨h1, h2, h⟩
  · rintro ⟨h1, h2, h⟩; exact ⟨by omega, ⟨h1, h2⟩, h⟩
theorem b_MEE {n : Nat} (hn : n ≤ 64) (f g : Nat → Nat) (i j : Nat) : (MEE n f g i).testBit j = true ↔ i < n ∧ j < n ∧ (f i).testBit j = true ∧ (g i).testBit j = true := by
  unfold MEE
  rw [testBit_mkN]
  simp only [Bool.and_eq_true, decide_eq_true_eq]
  constructor
  · rintro ⟨_, ⟨h1, h2⟩, h⟩; exact ⟨h1, h2, h⟩
  · rintro ⟨h1, h2, h⟩; exact ⟨by omega, ⟨h1, h2⟩, h⟩
theorem b_INV {n : Nat} (hn : n ≤ 64) (f : Nat → Nat) (i j : Nat) : (INV n f i).testBit j = true ↔ j < n ∧ (f j).testBit i = true := by
  unfold INV
  rw [testBit_mkN]
  simp only [Bool.and_eq_true, decide_eq_true_eq]
  constructor
  · rintro ⟨_, h⟩; exact h
  · rintro h; exact ⟨by omega, h⟩
theorem b_KEE {n : Nat} {f : Nat → Nat} (s : Nat) (hs : s < 2 ^ 64) (i j : Nat) : (KEE n f s i).testBit j = true ↔ i < n ∧ s.testBit i = true ∧ (f i).testBit j = true ∧ s.testBit j = true := by
  unfold KEE
  rw [testBit_mkN]
  simp only [Bool.and_eq_true, decide_eq_true_eq]
  constructor
  · rintro ⟨_, ⟨h1, h2⟩, h⟩; exact ⟨h1, h2, h⟩
  · rintro ⟨h1, h2, h⟩
    refine ⟨?_, ⟨h1, h2⟩, h⟩
    rcases Nat.lt_or_ge j 64 with hj | hj
    · exact hj
    · have h64 : 2 ^ 64 ≤ 2 ^ j := Nat.pow_le_pow_right (by omega) hj
      rw [Nat.testBit_lt_two_pow (Nat.lt_of_lt_of_le hs h64)] at h; simp at h

theorem rel_eq {n : Nat} {f g : Nat → Nat} (hf : Words f) (hg : Words g) (h : ∀ i j, (f i).testBit j = true ↔ (g i).testBit j = true) : relL n f = relL n g :=
  relL_ext rfl hf hg fun i j _ _ => by rw [Bool.eq_iff_iff]; exact h i j

theorem alike_rel (n m : Nat) (f g : Nat → Nat) : alike (relL n f) (relL m g) = true := by
  unfold relL
  simp only [alike, alike1, decide_true, Bool.true_and]
  generalize List.range 64 = l
  induction l with
  | nil => rfl
  | cons a l ih => simp only [List.map_cons, alike, alike1, decide_true, Bool.true_and]; exact ih

variable {E : Env} {n : Nat}

theorem Union_S (hE : rel_Rel_Union_In E) (hn : n ≤ 64) {f g : Nat → Nat} (hf : Words f) (hg : Words g) (h : AHeap) : R E 59 [.agg (relL n f), .agg (relL n g)] h = some ([.agg (relL n (UNI n f g))], h) := by
  rw [Union_R hE hn hn hf hg, Nat.min_self]; rfl
theorem Minus_S (hE : rel_Rel_Minus_In E) (hn : n ≤ 64) {f g : Nat → Nat} (hf : Words f) (hg : Words g) (h : AHeap) : R E 68 [.agg (relL n f), .agg (relL n g)] h = some ([.agg (relL n (MIN n f g))], h) := by
  rw [Minus_R hE hn hn hf hg, Nat.min_self]; rfl
theorem Meet_S (hE : rel_Rel_Meet_In E) (hn : n ≤ 64) {f g : Nat → Nat} (hf : Words f) (hg : Words g) (h : AHeap) : R E 67 [.agg (relL n f), .agg (relL n g)] h = some ([.agg (relL n (MEE n f g))], h) := by
  rw [Meet_R hE hn hn hf hg, Nat.min_self]; rfl
theorem Then_S (hE : rel_Rel_Then_In E) (ht : TabOk E) (hn : n ≤ 64) {f g : Nat → Nat} (hf : Words f) (hg : Words g) (h : AHeap) : R E 58 [.agg (relL n f), .agg (relL n g)] h = some ([.agg (relL n (TH n f g))], h) := by
  rw [Then_R hE ht hn hn hf hg, Nat.min_self]; rfl
theorem Inverse_S (hE : rel_Rel_Inverse_In E) (ht : TabOk E) (hn : n ≤ 64) {f : Nat → Nat} (hf : Words f) (h : AHeap) : R E 40 [.agg (relL n f)] h = some ([.agg (relL n (INV n f))], h) := Inverse_R hE ht hn hf h
theorem Keep_S (hE : rel_Rel_Keep_In E) (hn : n ≤ 64) {f : Nat → Nat} (hf : Words f) {s : Nat} (hs : s < 2 ^ 64) (h : AHeap) : R E 66 [.agg (relL n f), .c (.int .u64 s)] h = some ([.agg (relL n (KEE n f s))], h) := Keep_R hE hn hf hs h

theorem HasS (hE : rel_Rel_Has_In E) (hn : n ≤ 64) {f : Nat → Nat} (hf : Words f) {a b : Nat} (ha : a < n) (hb : b < 64) (h : AHeap) : R E 3 [.agg (relL n f), .c (.int .i64 (a : Nat)), .c (.int .i64 (b : Nat))] h = some ([.c (.bool ((f a).testBit b))], h) := by
  rw [HasR_R hE hn hf]
  unfold hasR
  rw [inR_nat, Int.toNat_natCast, hasI_nat hb, show decide (a < n) = true by simp [ha], Bool.true_and]

/-- One more than what was made. -/
theorem mod_nat (a : Int) {n : Nat} (hn : 1 ≤ n) : ∃ m : Nat, m < n ∧ E.glob.rem .i64 (E.glob.band .i64 a 255) (n : Int) = (m : Int) := by
  have h1 := Int.emod_lt_of_pos (a % 256) (show (0 : Int) < n by omega)
  have h2 := Int.emod_nonneg (a % 256) (show (n : Int) ≠ 0 by omega)
  exact ⟨(a % 256 % n).toNat, by omega, by rw [g_band255, g_rem, Int.tmod_eq_emod_of_nonneg (show 0 ≤ a % 256 by omega), Int.toNat_of_nonneg h2]⟩

theorem RelThen_R (hE : jacquardlaw8_RelThen_In E) (ht : TabOk E) (a0 a4 a5 : Int) {x1 x2 x3 : Cell} {l1 l2 l3 : List (Int × Int)} {h : AHeap} (hx1 : SlAt h x1 2 (pairC l1) l1.length) (hl1 : Low h.length x1)
    (hx2 : SlAt h x2 2 (pairC l2) l2.length) (hl2 : Low h.length x2) (hx3 : SlAt h x3 2 (pairC l3) l3.length) (hl3 : Low h.length x3) :
    R E 241 [.c (.int .i64 a0), .c x1, .c x2, .c x3, .c (.int .i64 a4), .c (.int .i64 a5)] h = some ([.c (.bool true)], h) := by
  refine R_intro hE.fn ?_
  rw [jacquardlaw8_RelThen_eq]
  obtain ⟨n, hn1, hn2, hv⟩ : ∃ n : Nat, 1 ≤ n ∧ n ≤ 20 ∧ E.glob.wrap .i64 (E.glob.rem .i64 (E.glob.band .i64 a0 255) 20 + 1) = (n : Int) := by
    rw [g_band255, g_rem, Int.tmod_eq_emod_of_nonneg (by omega), g_wrap_i64 (by omega) (by omega)]
    exact ⟨(a0 % 256 % 20 + 1).toNat, by omega, by omega, by omega⟩
  have hn : n ≤ 64 := by omega
  obtain ⟨a, ha, hav⟩ := mod_nat (E := E) a4 hn1
  obtain ⟨b, hb, hbv⟩ := mod_nat (E := E) a5 hn1
  simp only [hv, hav, hbv]
  rw [if_neg (by omega), if_neg (by omega), Of_R hE.c1 (n : Int) hx1 hl1, c2_ok, asA_ok, asA_ok, clamp_nat hn]
  have hf := words_of n (l1.take 200)
  have hg := words_of n (l2.take 200)
  have hp := words_of n (l3.take 200)
  have ff := of_fit hn (l1.take 200)
  have fg := of_fit hn (l2.take 200)
  have fp := of_fit hn (l3.take 200)
  simp only [relL_len, zero_len, and_self, if_true]
  rw [Of_R hE.c1 (n : Int) hx2 hl2, c2_ok, asA_ok, asA_ok, clamp_nat hn]
  simp only [relL_len, and_self, if_true]
  rw [Of_R hE.c1 (n : Int) hx3 hl3, c2_ok, asA_ok, asA_ok, clamp_nat hn]
  simp only [relL_len, and_self, if_true]
  generalize ofR n (l1.take 200) = f at *
  generalize ofR n (l2.take 200) = g at *
  generalize ofR n (l3.take 200) = p at *
  have loop : Lim (jacquardlaw8_RelThen_F1 (R E) Lim E.glob) (jacquardlaw8_RelThen_s1 n a b ((List.range 0).any fun j => (f a).testBit j && (g j).testBit b) ((0 : Nat) : Int) (relL n f) (relL n g) (relL n p) h) = some (.exit 0, jacquardlaw8_RelThen_x1_1 a b ((List.range n).any fun j => (f a).testBit j && (g j).testBit b) (relL n f) (relL n g) (relL n p) h) := by
    refine Lim_count (fun i => jacquardlaw8_RelThen_s1 n a b ((List.range i).any fun j => (f a).testBit j && (g j).testBit b) (i : Int) (relL n f) (relL n g) (relL n p) h) 0 n (by omega) (fun i _ hi => ?_) (Lim_exit ?_)
    · rw [jacquardlaw8_RelThen_r1, if_pos (by simp; omega), if_pos ⟨rfl, relL_len _ _⟩, HasS hE.c3 hn hf ha (by omega), c1_ok, asB_ok, if_pos ⟨rfl, relL_len _ _⟩, HasS hE.c3 hn hg hi (by omega), c1_ok, asB_ok, scK_and, scK_or, g_succ (by omega), List.range_succ, List.any_append]
      simp
    · rw [jacquardlaw8_RelThen_r1, if_neg (by simp)]
  rw [show jacquardlaw8_RelThen_s1 n a b false 0 (relL n f) (relL n g) (relL n p) h = jacquardlaw8_RelThen_s1 n a b ((List.range 0).any fun j => (f a).testBit j && (g j).testBit b) ((0 : Nat) : Int) (relL n f) (relL n g) (relL n p) h from rfl, loop, bind_ok, jacquardlaw8_RelThen_e1_1]
  have w1 := w_TH n f g
  have w2 := w_TH n g p
  have w3 := w_UNI n f g
  have w4 := w_TH n f p
  have h1 : (TH n f g a).testBit b = (List.range n).any fun j => (f a).testBit j && (g j).testBit b := by
    rw [Bool.eq_iff_iff, b_TH hn]
    simp only [List.any_eq_true, List.mem_range, Bool.and_eq_true]
    constructor
    · rintro ⟨_, _, k, h1, h2⟩; exact ⟨k, h1, h2⟩
    · rintro ⟨k, h1, h2⟩; exact ⟨ha, hb, k, h1, h2⟩
  have h2 : relL n (TH n (TH n f g) p) = relL n (TH n f (TH n g p)) := by
    refine rel_eq (w_TH _ _ _) (w_TH _ _ _) fun i j => ?_
    simp only [b_TH hn]
    constructor
    · rintro ⟨q1, q2, k, q3, ⟨_, _, m, q4, q5, q6⟩, q7⟩; exact ⟨q1, q2, m, q4, q5, q4, q2, k, q3, q6, q7⟩
    · rintro ⟨q1, q2, m, q4, q5, _, _, k, q3, q6, q7⟩; exact ⟨q1, q2, k, q3, ⟨q1, q3, m, q4, q5, q6⟩, q7⟩
  have h3 : relL n (TH n (UNI n f g) p) = relL n (UNI n (TH n f p) (TH n g p)) := by
    refine rel_eq (w_TH _ _ _) (w_UNI _ _ _) fun i j => ?_
    simp only [b_TH hn, b_UNI hn]
    constructor
    · rintro ⟨q1, q2, k, q3, ⟨_, _, q4 | q4⟩, q5⟩
      · exact ⟨q1, q2, .inl ⟨q1, q2, k, q3, q4, q5⟩⟩
      · exact ⟨q1, q2, .inr ⟨q1, q2, k, q3, q4, q5⟩⟩
    · rintro ⟨q1, q2, ⟨_, _, k, q3, q4, q5⟩ | ⟨_, _, k, q3, q4, q5⟩⟩
      · exact ⟨q1, q2, k, q3, ⟨q1, q3, .inl q4⟩, q5⟩
      · exact ⟨q1, q2, k, q3, ⟨q1, q3, .inr q4⟩, q5⟩
  simp only [relL_len, and_self, if_true]
  have hb64 : b < 64 := by omega
  simp only [Then_S hE.c58 ht hn, Union_S hE.c59 hn, HasS hE.c3 hn w1 ha hb64, awake8_R hE.c55, hf, hg, hp, w_TH, w_UNI, qh_ok, c1_ok, asA_ok, asB_ok, bind_ok, scK_ok, zero_rel, alike_rel, h1, h2, h3, beq_self_eq_true, and_self, if_true, decide_true]

theorem RelThen_law (ht : TabOk E) (hE : jacquardlaw8_RelThen_In E) {h : AHeap} {c0 c1 c2 c3 c4 c5 : List Cell} (o0 : okC h (.i .i64) c0) (o1 : okC h (.sl shPair) c1) (o2 : okC h (.sl shPair) c2) (o3 : okC h (.sl shPair) c3) (o4 : okC h (.i .i64) c4) (o5 : okC h (.i .i64) c5) :
    ∃ h', R E 241 [av1 (.i .i64) c0, av1 (.sl shPair) c1, av1 (.sl shPair) c2, av1 (.sl shPair) c3, av1 (.i .i64) c4, av1 (.i .i64) c5] h = some ([.c (.bool true)], h') := by
  obtain ⟨a0, e0, _⟩ := arg_int o0
  obtain ⟨x1, l1, e1, hx1, hl1, _⟩ := arg_pairs o1
  obtain ⟨x2, l2, e2, hx2, hl2, _⟩ := arg_pairs o2
  obtain ⟨x3, l3, e3, hx3, hl3, _⟩ := arg_pairs o3
  obtain ⟨a4, e4, _⟩ := arg_int o4
  obtain ⟨a5, e5, _⟩ := arg_int o5
  rw [e0, e1, e2, e3, e4, e5]
  exact ⟨h, RelThen_R hE ht a0 a4 a5 hx1 hl1 hx2 hl2 hx3 hl3⟩

end Jq

/- A relation's pairs, told rising. -/
namespace Jq
open Go

/-- The pairs of one row. -/
def rowP (f : Nat → Nat) (i : Nat) : List (Int × Int) := (bitsL (f i)).map fun (k : Nat) => ((i : Int), (k : Int))

/-- All pairs. -/
def pairsP (n : Nat) (f : Nat → Nat) : List (Int × Int) := (List.range n).flatMap (rowP f)

theorem pairsP_succ (n : Nat) (f : Nat → Nat) : pairsP (n + 1) f = pairsP n f ++ rowP f n := by
  unfold pairsP; rw [List.range_succ, List.flatMap_append]; simp

theorem bits_len (s : Nat) : (bitsL s).length ≤ 64 := by unfold bitsL; exact Nat.le_trans (List.length_filter_le _ _) (by simp)

theorem pairsP_len (f : Nat → Nat) : ∀ n, (pairsP n f).length ≤ n * 64
  | 0 => by simp [pairsP]
  | n + 1 => by
    have := pairsP_len f n
    have := bits_len (f n)
    rw [pairsP_succ, List.length_append]
    simp only [rowP, List.length_map]; omega

theorem mem_pairsP {n : Nat} {f : Nat → Nat} {p : Int × Int} : p ∈ pairsP n f ↔ ∃ i k : Nat, i < n ∧ k < 64 ∧ (f i).testBit k = true ∧ p = ((i : Int), (k : Int)) := by
  unfold pairsP rowP
  simp only [List.mem_flatMap, List.mem_range, List.mem_map, mem_bitsL]
  constructor
  · rintro ⟨i, hi, k, ⟨hk, hb⟩, rfl⟩; exact ⟨i, k, hi, hk, hb, rfl⟩
  · rintro ⟨i, k, hi, hk, hb, rfl⟩; exact ⟨i, hi, k, ⟨hk, hb⟩, rfl⟩

theorem Own.keep {n : Nat} {h h' : AHeap} {x : Cell} {esz len : Nat} {cs : List Cell} (o : Own n h x esz cs len) (a : Kp h.length h h') : Own n h' x esz cs len := by
  refine ⟨o.1, o.2.imp id ?_⟩
  rintro ⟨k, rfl, hk, hb⟩
  exact ⟨k, rfl, hk, by rw [a.blk (blk_lt' hb)]; exact hb⟩

/-- Two rows lie apart. -/
def ApartB (x y : Cell) : Prop := ∀ k, isBlk y k → ¬ isBlk x k

theorem Own.keep_app {m : Nat} {h h' : AHeap} {x x' y : Cell} {esz len : Nat} {cs : List Cell} (o : Own m h y esz cs len) (ha : ApartB x y) (hk : ∀ j b, blk? h j = some b → ¬ isBlk x j → blk? h' j = some b ∧ ¬ isBlk x' j) : Own m h' y esz cs len ∧ ApartB x' y := by
  rcases o.2 with ⟨rfl, hz⟩ | ⟨k, rfl, hkm, hb⟩
  · exact ⟨⟨o.1, .inl ⟨rfl, hz⟩⟩, fun k hk => by cases hk⟩
  · obtain ⟨h1, h2⟩ := hk k _ hb (ha k rfl)
    refine ⟨⟨o.1, .inr ⟨k, rfl, hkm, h1⟩⟩, fun j hj => ?_⟩
    have : k = j := hj
    subst this; exact h2

theorem Own.apart {n m : Nat} {h : AHeap} {x y : Cell} {e1 e2 l1 l2 : Nat} {c1 c2 : List Cell} (o : Own n h x e1 c1 l1) (hm : h.length ≤ m) {h' : AHeap} (o2 : Own m h' y e2 c2 l2) : ApartB x y := by
  intro k hk hx
  rcases o.2 with ⟨rfl, _⟩ | ⟨k1, rfl, _, hb⟩
  · cases hx
  · rcases o2.2 with ⟨rfl, _⟩ | ⟨k2, rfl, hk2, _⟩
    · cases hk
    · have e1 : k1 = k := hx
      have e2 : k2 = k := hk
      have := blk_lt' hb
      omega

variable {E : Env}

theorem two_cells' (a b : Int) : splice [Cell.int .i64 0, Cell.int .i64 0] 0 (splice (splice [Cell.int .i64 0, Cell.int .i64 0] 0 [.int .i64 a]) 1 [.int .i64 b]) = [.int .i64 a, .int .i64 b] := rfl

theorem Pairs_R (hE : rel_Rel_Pairs_In E) (ht : TabOk E) {n : Nat} (hn : n ≤ 64) {f : Nat → Nat} (hf : Words f) (h : AHeap) :
    ∃ x h', R E 20 [.agg (relL n f)] h = some ([.c x], h') ∧ Own h.length h' x 2 (pairC (pairsP n f)) (pairsP n f).length ∧ Kp h.length h h' := by
  suffices hs' : ∃ x h', rel_Rel_Pairs.body (R E) Lim E.glob [.agg (relL n f)] h = some ([.c x], h') ∧ Own h.length h' x 2 (pairC (pairsP n f)) (pairsP n f).length ∧ Kp h.length h h' by
    obtain ⟨x, h', hh, hr⟩ := hs'; exact ⟨x, h', R_intro hE.fn hh, hr⟩
  obtain ⟨st, ⟨x, h', rfl, ho, hk⟩, hlim⟩ := Lim_inv (F := rel_Rel_Pairs_F2 (R E) Lim E.glob)
    (fun i st => ∃ x h', st = rel_Rel_Pairs_s2 x n (i : Int) (relL n f) h' ∧ Own h.length h' x 2 (pairC (pairsP i f)) (pairsP i f).length ∧ Kp h.length h h') 0 n (by omega)
    (fun i st _ hi hI => by
      obtain ⟨x, h1, rfl, ho, hk⟩ := hI
      have q1 : 0 ≤ (i : Int) ∧ (i : Int) < ((64 : Nat) : Int) := by omega
      obtain ⟨y, h2, hL, hoy, hky⟩ := List_R hE.c32 ht (hf i) h1
      have hpl := pairsP_len f i
      have hbl := bits_len (f i)
      have hnn : i * 64 ≤ 64 * 64 := Nat.mul_le_mul_right _ (by omega)
      obtain ⟨st2, ⟨x3, h3, rfl, ho3, hy3, hap3, hk3⟩, hlim2⟩ := Lim_inv (F := rel_Rel_Pairs_F1 (R E) Lim E.glob)
        (fun j st => ∃ x h', st = rel_Rel_Pairs_s1 x i n i y (bitsL (f i)).length (j : Int) (relL n f) h' ∧ Own h.length h' x 2 (pairC (pairsP i f ++ (rowP f i).take j)) (pairsP i f ++ (rowP f i).take j).length ∧ Own h1.length h' y 1 (natC (bitsL (f i))) (bitsL (f i)).length ∧ ApartB x y ∧ Kp h.length h h') 0 (bitsL (f i)).length (by omega)
        (fun j st _ hj hI => by
          obtain ⟨x, h', rfl, ho, hoy, hap, hk⟩ := hI
          obtain ⟨m, hm⟩ : ∃ m, (bitsL (f i))[j]? = some m := ⟨(bitsL (f i))[j], by simp⟩
          have hlen : (pairsP i f ++ (rowP f i).take j).length ≤ 64 * 64 + 64 := by
            rw [List.length_append, List.length_take]; omega
          obtain ⟨x', h'', ha, ho', hk', hfr⟩ := ho.app (xs := [.int .i64 (i : Int), .int .i64 (m : Int)]) (bytes := 16) hk.1 rfl (by omega) (by unfold maxBytes; omega) (by unfold maxBytes; omega)
          obtain ⟨hoy', hap'⟩ := hoy.keep_app hap hfr
          have htk : (rowP f i).take (j + 1) = (rowP f i).take j ++ [((i : Int), (m : Int))] := by
            rw [List.take_add_one]; unfold rowP; rw [List.getElem?_map, hm]; rfl
          refine ⟨rel_Rel_Pairs_s1 x' i n i y (bitsL (f i)).length ((j + 1 : Nat) : Int) (relL n f) h'', ?_, x', h'', rfl, ?_, hoy', hap', hk.trans hk'⟩
          · rw [rel_Rel_Pairs_r1, if_pos (by simp; omega), hoy.at.get1 hj (natC_get hm), asI_ok, if_pos ⟨rfl, by simp⟩, two_cells', if_pos (show (List.length [_, _] : Nat) = 1 * 2 from rfl), ha, g_succ (by omega)]
          · rw [htk, ← List.append_assoc, pairC_snoc, List.length_append]; exact ho')
        (st := rel_Rel_Pairs_s1 x i n i y (bitsL (f i)).length 0 (relL n f) h2)
        ⟨x, h2, rfl, by rw [List.take_zero, List.append_nil]; exact ho.keep hky, hoy, ho.apart (Nat.le_refl _) hoy, hk.trans (hky.mono hk.1)⟩
      have hend : rel_Rel_Pairs_F1 (R E) Lim E.glob (rel_Rel_Pairs_s1 x3 i n i y (bitsL (f i)).length ((bitsL (f i)).length : Nat) (relL n f) h3) = some (.exit 2, rel_Rel_Pairs_x1_3 x3 n i (relL n f) h3) := by
        rw [rel_Rel_Pairs_r1, if_neg (by simp)]
      have hrl : (rowP f i).take (bitsL (f i)).length = rowP f i := List.take_of_length_le (by unfold rowP; simp)
      rw [hrl, ← pairsP_succ] at ho3
      refine ⟨rel_Rel_Pairs_s2 x3 n ((i + 1 : Nat) : Int) (relL n f) h3, ?_, x3, h3, rfl, ho3, hk3⟩
      rw [rel_Rel_Pairs_r2, if_pos (by simp; omega), if_pos q1, Int.toNat_natCast, Nat.mul_one, atK_ok (relL_row (by omega)), asI_ok, hL, c1_ok, asC_ok, hoy.at.len, hlim2 _ (Lim_exit hend), bind_ok, rel_Rel_Pairs_e1_3, g_succ (by omega)])
    (st := rel_Rel_Pairs_s2 .nils n 0 (relL n f) h) ⟨.nils, h, rfl, by exact Own.nil _ _ _, Kp.refl _ _⟩
  have hend : rel_Rel_Pairs_F2 (R E) Lim E.glob (rel_Rel_Pairs_s2 x n (n : Int) (relL n f) h') = some (.exit 0, rel_Rel_Pairs_x2_1 x h') := by
    rw [rel_Rel_Pairs_r2, if_neg (by simp)]
  refine ⟨x, h', ?_, ho, hk⟩
  rw [rel_Rel_Pairs_eq, atK_ok (relL_zero _ _), asI_ok, hlim _ (Lim_exit hend), bind_ok, rel_Rel_Pairs_e2_1]

end Jq

/- RelPairs: the pairs are the ones had, in order, no more; the relation of its pairs is itself. -/
namespace Jq
open Go

/-- A row's pairs below j. -/
def rowU (f : Nat → Nat) (i j : Nat) : List (Int × Int) := ((List.range j).filter fun k => (f i).testBit k).map fun (k : Nat) => ((i : Int), (k : Int))

theorem rowU_succ (f : Nat → Nat) (i j : Nat) : rowU f i (j + 1) = rowU f i j ++ if (f i).testBit j then [((i : Int), (j : Int))] else [] := by
  unfold rowU
  rw [List.range_succ, List.filter_append, List.map_append]
  congr 1
  by_cases hb : (f i).testBit j = true
  · simp [hb]
  · simp [hb]

theorem rowU_pre (f : Nat → Nat) (i j : Nat) : ∀ d, rowU f i j <+: rowU f i (j + d)
  | 0 => List.prefix_refl _
  | d + 1 => (rowU_pre f i j d).trans (by rw [← Nat.add_assoc, rowU_succ]; exact List.prefix_append _ _)

theorem pairsP_pre (f : Nat → Nat) (i : Nat) : ∀ d, pairsP i f <+: pairsP (i + d) f
  | 0 => List.prefix_refl _
  | d + 1 => (pairsP_pre f i d).trans (by rw [← Nat.add_assoc, pairsP_succ]; exact List.prefix_append _ _)

theorem pairsP_at {n : Nat} {f : Nat → Nat} {i j : Nat} (hi : i < n) (hj : j < 64) (hb : (f i).testBit j = true) : (pairsP n f)[(pairsP i f ++ rowU f i j).length]? = some ((i : Int), (j : Int)) := by
  obtain ⟨t1, h1⟩ := pairsP_pre f (i + 1) (n - (i + 1))
  rw [show i + 1 + (n - (i + 1)) = n by omega] at h1
  obtain ⟨t2, h2⟩ := rowU_pre f i (j + 1) (64 - (j + 1))
  rw [show j + 1 + (64 - (j + 1)) = 64 by omega, rowU_succ, if_pos hb] at h2
  have h3 : rowP f i = rowU f i 64 := rfl
  rw [← h1, pairsP_succ, h3, ← h2]
  simp only [← List.append_assoc]
  rw [List.append_assoc, List.append_assoc, List.getElem?_append_right (Nat.le_refl _), Nat.sub_self]
  rfl

theorem rowU_fit {n : Nat} {f : Nat → Nat} (ff : Fit n f) (i : Nat) : ∀ d, rowU f i (n + d) = rowU f i n
  | 0 => rfl
  | d + 1 => by
    rw [← Nat.add_assoc, rowU_succ, rowU_fit ff i d, if_neg, List.append_nil]
    intro hb
    have := (ff _ _ hb).2
    omega

theorem rowU_all {n : Nat} (hn : n ≤ 64) {f : Nat → Nat} (ff : Fit n f) (i : Nat) : rowU f i n = rowP f i := by
  rw [← rowU_fit ff i (64 - n), show n + (64 - n) = 64 by omega]; rfl

theorem bit01 (x i : Nat) : x >>> i &&& 1 = if x.testBit i then 1 else 0 := by
  have : x.testBit i = (1 &&& (x >>> i) != 0) := rfl
  rw [this, Nat.and_comm, Nat.and_comm 1, Nat.and_one_is_mod]
  rcases Nat.mod_two_eq_zero_or_one (x >>> i) with h | h <;> simp [h]

section
variable {E : Env}
theorem shr_le (x i : Nat) : x >>> i ≤ x := by rw [Nat.shiftRight_eq_div_pow]; exact Nat.div_le_self _ _
theorem g_bitI {x i : Nat} (hx : x < 2 ^ 64) (hi : i ≤ 64) : E.glob.band .u64 (E.glob.shr .u64 (x : Int) (i : Int)) 1 = (((if x.testBit i then 1 else 0 : Nat)) : Int) := by
  rw [g_shr hi, show (1 : Int) = ((1 : Nat) : Int) from rfl, g_band (Nat.lt_of_le_of_lt (shr_le x i) hx) (by omega), bit01]
theorem g_bit1 {x i : Nat} (hx : x < 2 ^ 64) (hi : i ≤ 64) : (E.glob.band .u64 (E.glob.shr .u64 (x : Int) (i : Int)) 1 == 1) = x.testBit i := by
  rw [g_bitI hx hi]; cases x.testBit i <;> rfl
theorem g_bit0 {x i : Nat} (hx : x < 2 ^ 64) (hi : i ≤ 64) : (E.glob.band .u64 (E.glob.shr .u64 (x : Int) (i : Int)) 1 == 0) = !x.testBit i := by
  rw [g_bitI hx hi]; cases x.testBit i <;> rfl

theorem refHas_R (hE : jacquardref6_Rel_Has_In E) {n : Nat} {f : Nat → Nat} (hf : Words f) {a b : Nat} (ha : a < 64) (hb : b ≤ 64) {k : Nat} {o : Bool} {h : AHeap} (hk : blk? h k = some ⟨o, 0, relL n f⟩) :
    R E 7 [.c (.ptr k 65 0), .c (.int .i64 (a : Nat)), .c (.int .i64 (b : Nat))] h = some ([.c (.bool ((f a).testBit b))], h) := by
  refine R_intro hE.fn ?_
  have q1 : 0 ≤ (a : Int) ∧ (a : Int) < ((64 : Nat) : Int) := by omega
  rw [jacquardref6_Rel_Has_eq, if_pos q1, rdH_ok hk (relL_len n f)]
  dsimp only
  rw [Int.toNat_natCast, show 0 + 1 + a * 1 = 1 + a by omega, atK_ok (relL_row ha), asI_ok, if_neg (by omega), g_bit1 (hf a) hb]
end

theorem SlAt.getP {h hh : AHeap} {x : Cell} {l : List (Int × Int)} (s : SlAt h x 2 (pairC l) l.length) {i : Nat} {p : Int × Int} (hi : l[i]? = some p) {a b : Int} :
    (idxSK 2 x (i : Int) fun k N o => rdH h k N fun l => if o + 2 ≤ l.length then if alike ((l.drop o).take 2) ([Cell.int .i64 0, Cell.int .i64 0]) = true ∧ alike (splice (splice [Cell.int .i64 0, Cell.int .i64 0] 0 ([(.int .i64 a)] : List Cell)) 1 ([(.int .i64 b)] : List Cell)) ([Cell.int .i64 0, Cell.int .i64 0]) = true then
      some ((!(decide (((l.drop o).take 2) = (splice (splice [Cell.int .i64 0, Cell.int .i64 0] 0 ([(.int .i64 a)] : List Cell)) 1 ([(.int .i64 b)] : List Cell))))), hh) else none else none) = some (!(decide (p = (a, b))), hh) := by
  have hlt : i < l.length := by
    rcases Nat.lt_or_ge i l.length with h1 | h1
    · exact h1
    · rw [List.getElem?_eq_none h1] at hi; cases hi
  refine (s.getN hlt (f := fun t => if alike t ([Cell.int .i64 0, Cell.int .i64 0]) = true ∧ alike (splice (splice [Cell.int .i64 0, Cell.int .i64 0] 0 ([(.int .i64 a)] : List Cell)) 1 ([(.int .i64 b)] : List Cell)) ([Cell.int .i64 0, Cell.int .i64 0]) = true then
      some ((!(decide (t = (splice (splice [Cell.int .i64 0, Cell.int .i64 0] 0 ([(.int .i64 a)] : List Cell)) 1 ([(.int .i64 b)] : List Cell))))), hh) else none)).trans ?_
  have e : ((pairC l).drop (i * 2)).take 2 = [.int .i64 p.1, .int .i64 p.2] := by
    obtain ⟨g1, g2⟩ := pairC_get l i p hi
    refine List.ext_getElem? fun j => ?_
    rw [List.getElem?_take, List.getElem?_drop]
    match j with
    | 0 => rw [if_pos (by omega), g1]; rfl
    | 1 => rw [if_pos (by omega), g2]; rfl
    | j + 2 => rw [if_neg (by omega)]; rfl
  have e2 : splice (splice [Cell.int .i64 0, Cell.int .i64 0] 0 ([(.int .i64 a)] : List Cell)) 1 ([(.int .i64 b)] : List Cell) = [.int .i64 a, .int .i64 b] := rfl
  rw [e, e2, if_pos ⟨rfl, rfl⟩]
  congr 3
  rw [decide_eq_decide]
  obtain ⟨c, d⟩ := p
  simp

theorem rel_pairs {n : Nat} (hn : n ≤ 64) {f : Nat → Nat} (hf : Words f) (ff : Fit n f) : relL n (ofR n (pairsP n f)) = relL n f := rel_eq (words_of _ _) hf fun i j => by
  rw [of_bit hn]
  constructor
  · rintro ⟨p, hp, _, _, h1, h2⟩
    obtain ⟨a, b, _, _, hb, rfl⟩ := mem_pairsP.1 hp
    have e1 : a = i := Int.ofNat.inj h1
    have e2 : b = j := Int.ofNat.inj h2
    rw [← e1, ← e2]; exact hb
  · intro hb
    obtain ⟨h1, h2⟩ := ff _ _ hb
    exact ⟨_, mem_pairsP.2 ⟨i, j, h1, by omega, hb, rfl⟩, by rw [inR_nat]; simpa using h1, by rw [inR_nat]; simpa using h2, rfl, rfl⟩

variable {E : Env}

theorem RelPairs_R (hE : jacquardlaw8_RelPairs_In E) (ht : TabOk E) (a0 : Int) {x1 : Cell} {l1 : List (Int × Int)} {h : AHeap} (hx1 : SlAt h x1 2 (pairC l1) l1.length) (hl1 : Low h.length x1) :
    R E 240 [.c (.int .i64 a0), .c x1] h = some ([.c (.bool true)], h) := by
  refine R_intro hE.fn ?_
  rw [jacquardlaw8_RelPairs_eq]
  have hn : clamp a0 ≤ 64 := by unfold clamp; omega
  have hv : (if 64 < (if 0 > a0 then 0 else a0) then 64 else (if 0 > a0 then 0 else a0)) = ((clamp a0 : Nat) : Int) := by unfold clamp; split <;> split <;> omega
  simp only [hv]
  generalize clamp a0 = n at hn
  rw [Of_R hE.c1 (n : Int) hx1 hl1, c2_ok, asA_ok, asA_ok, clamp_nat hn]
  have hf := words_of n (l1.take 200)
  have ff := of_fit hn (l1.take 200)
  simp only [relL_len, zero_len, and_self, if_true]
  generalize ofR n (l1.take 200) = f at *
  rw [rdH_ok (blk_new h _) zero_len]
  dsimp only
  rw [if_pos ⟨by trivial, zero_len, by trivial⟩, putH_ok (blk_new h _) rfl, setBlk_last]
  dsimp only
  obtain ⟨x, h2, hP, hx, hk⟩ := Pairs_R hE.c20 ht hn hf (h ++ [some ⟨true, 0, relL n f⟩])
  rw [hP, c1_ok, asC_ok]
  have hk2 : blk? h2 h.length = some ⟨true, 0, relL n f⟩ := by rw [hk.blk (by simp)]; exact blk_new _ _
  have hK : Kp h.length h h2 := (Kp.app _ (Nat.le_refl _)).trans (hk.mono (by simp))
  have hlen : ∀ i j, i < n → j ≤ n → (pairsP i f ++ rowU f i j).length ≤ 64 * 64 + 64 := by
    intro i j hi hj
    have h1 := pairsP_len f i
    have h2 : (rowU f i j).length ≤ j := by unfold rowU; rw [List.length_map]; exact Nat.le_trans (List.length_filter_le _ _) (by simp)
    rw [List.length_append]
    omega
  have outer : Lim (jacquardlaw8_RelPairs_F2 (R E) Lim E.glob) (jacquardlaw8_RelPairs_s2 n h.length 65 0 x ((pairsP 0 f).length : Nat) ((0 : Nat) : Int) (relL n f) h2) = some (.exit 0, jacquardlaw8_RelPairs_x2_1 n x ((pairsP n f).length : Nat) (relL n f) h2) := by
    refine Lim_count (fun i => jacquardlaw8_RelPairs_s2 n h.length 65 0 x ((pairsP i f).length : Nat) (i : Int) (relL n f) h2) 0 n (by omega) (fun i _ hi => ?_) (Lim_exit ?_)
    · have inner : Lim (jacquardlaw8_RelPairs_F1 (R E) Lim E.glob) (jacquardlaw8_RelPairs_s1 n h.length 65 0 x ((pairsP i f ++ rowU f i 0).length : Nat) i ((0 : Nat) : Int) (relL n f) h2) = some (.exit 2, jacquardlaw8_RelPairs_x1_3 n h.length 65 0 x ((pairsP i f ++ rowU f i n).length : Nat) i (relL n f) h2) := by
        refine Lim_count (fun j => jacquardlaw8_RelPairs_s1 n h.length 65 0 x ((pairsP i f ++ rowU f i j).length : Nat) i (j : Int) (relL n f) h2) 0 n (by omega) (fun j _ hj => ?_) (Lim_exit ?_)
        · rw [jacquardlaw8_RelPairs_r1, if_pos (by simp; omega), if_pos ⟨rfl, relL_len _ _⟩, HasS hE.c3 hn hf hi (by omega), c1_ok, asB_ok, refHas_R hE.c7 hf (by omega) (by omega) hk2, c1_ok, asB_ok, refHas_R hE.c7 hf (by omega) (by omega) hk2, c1_ok, asB_ok, beq_self_eq_true, if_neg (by simp), g_succ (by omega)]
          cases hb : (f i).testBit j with
          | false =>
            rw [if_pos (by simp), rowU_succ, hb]
            simp
          | true =>
            have hp := pairsP_at hi (show j < 64 by omega) hb
            have hlt : (pairsP i f ++ rowU f i j).length < (pairsP n f).length := by
              rcases Nat.lt_or_ge (pairsP i f ++ rowU f i j).length (pairsP n f).length with h1 | h1
              · exact h1
              · rw [List.getElem?_eq_none h1] at hp; cases hp
            have hle := hlen i j hi (by omega)
            rw [if_neg (by simp), hx.at.len, show decide ((((pairsP i f ++ rowU f i j).length : Nat) : Int) ≥ (((pairsP n f).length : Nat) : Int)) = false from decide_eq_false (fun q => absurd (Int.ofNat_le.1 q) (Nat.not_le.2 hlt)), scK_ok, hx.at.getP hp, bind_ok]
            dsimp only
            rw [if_neg (by simp), g_succ (by omega), rowU_succ, hb, if_pos rfl, ← List.append_assoc, List.length_append (bs := [_])]
            rfl
        · rw [jacquardlaw8_RelPairs_r1, if_neg (by simp)]
      rw [show pairsP i f ++ rowU f i 0 = pairsP i f from List.append_nil _, rowU_all hn ff, ← pairsP_succ] at inner
      rw [jacquardlaw8_RelPairs_r2, if_pos (by simp; omega), show (0 : Int) = ((0 : Nat) : Int) from rfl, inner, bind_ok, jacquardlaw8_RelPairs_e1_3, g_succ (by omega)]
    · rw [jacquardlaw8_RelPairs_r2, if_neg (by simp)]
  rw [show jacquardlaw8_RelPairs_s2 n h.length 65 0 x 0 0 (relL n f) h2 = jacquardlaw8_RelPairs_s2 n h.length 65 0 x ((pairsP 0 f).length : Nat) ((0 : Nat) : Int) (relL n f) h2 from rfl, outer, bind_ok, jacquardlaw8_RelPairs_e2_1, Of_R hE.c1 (n : Int) hx.at hx.low, c2_ok, asA_ok, asA_ok, clamp_nat hn]
  simp only [relL_len, zero_len, and_self, if_true]
  rw [hx.at.len, beq_self_eq_true, scK_ok]
  have e1 : (scK (decide ((((pairsP n f).length : Nat) : Int) > 200)) false (if alike (relL n (ofR n ((pairsP n f).take 200))) ([Cell.int .i64 0] ++ List.replicate 64 (Cell.int .u64 0)) = true ∧ alike (relL n f) ([Cell.int .i64 0] ++ List.replicate 64 (Cell.int .u64 0)) = true then some ((decide (relL n (ofR n ((pairsP n f).take 200)) = relL n f)), h2) else none) true h2 fun b h => some (b, h)) = some (true, h2) := by
    by_cases hl : (pairsP n f).length ≤ 200
    · rw [show decide ((((pairsP n f).length : Nat) : Int) > 200) = false by simp; omega, scK_ok, List.take_of_length_le hl, rel_pairs hn hf ff, zero_rel]
      simp only [alike_rel, and_self, if_true, decide_true]
      rfl
    · rw [show decide ((((pairsP n f).length : Nat) : Int) > 200) = true by simp; omega, scK_tf]
  rw [e1, bind_ok]
  dsimp only
  have b1 : hasR n f (-1) 0 = false := by unfold hasR inR; simp
  have b2 : hasR n f 0 64 = false := by unfold hasR hasI; simp
  have b3 : inR n (-1) = false := by unfold inR; simp
  have b4 : inR n 64 = false := by unfold inR; simp; omega
  simp only [relL_len, HasR_R hE.c3 hn hf, Row_R hE.c41 hn, awake8_R hE.c55, c1_ok, asI_ok, asB_ok, and_self, if_true, bind_ok, scK_ok, b1, b2, b3, b4, Bool.not_false, Bool.false_eq_true, if_false]
  exact finish_gc hK (by simp [avOk, AV.cells, idOk])

theorem RelPairs_law (ht : TabOk E) (hE : jacquardlaw8_RelPairs_In E) {h : AHeap} {c0 c1 : List Cell} (o0 : okC h (.i .i64) c0) (o1 : okC h (.sl shPair) c1) :
    ∃ h', R E 240 [av1 (.i .i64) c0, av1 (.sl shPair) c1] h = some ([.c (.bool true)], h') := by
  obtain ⟨a0, e0, _⟩ := arg_int o0
  obtain ⟨x1, l1, e1, hx1, hl1, _⟩ := arg_pairs o1
  rw [e0, e1]
  exact ⟨h, RelPairs_R hE ht a0 hx1 hl1⟩

end Jq

namespace Jq
open Go

/- jacquard/sleep.Covers: 368 -/
def sleep_Covers : Fn := { np := 2, nt := 13, ns := 0, res := [.t 4 .b], gc := false, code :=
  (.seq (.reg 0 false (.op (some 4) .mov [(.k (.c (.bool false)))]
    .nil))
  (.seq (.reg 1 false (.op (some 5) .mov [(.t 1)]
    (.op (some 6) (.bin .eql) [(.t 5), (.k (.c (.int .u64 0)))]
    (.op (some 7) .mov [(.t 6)]
    (.sc 7 false (.op (some 8) .mov [(.t 0)]
    (.op (some 9) .mov [(.t 1)]
    (.op (some 10) (.bin .and) [(.t 8), (.t 9)]
    (.op (some 11) (.bin .neq) [(.t 10), (.k (.c (.int .u64 0)))]
    .nil)))) 11 12 true
    (.op (some 4) .mov [(.t 12)]
    .nil))))))
  .ret)) }

/- jacquard/sleep.Clash: 390 -/
def sleep_Clash : Fn := { np := 3, nt := 58, ns := 2, res := [.t 6 .b], gc := false, code :=
  (.seq (.reg 0 false (.box 3 0 (.t 0)
    (.box 4 1 (.t 1)
    (.op (some 6) .mov [(.k (.c (.bool false)))]
    .nil))))
  (.seq (.seq (.reg 1 false (.op (some 7) (.addr 0) [(.t 3)]
    (.op (some 8) (.ld (.slot 0) (.i .i64)) [(.t 7)]
    (.op (some 9) (.addr 0) [(.t 4)]
    (.op (some 10) (.ld (.slot 1) (.i .i64)) [(.t 9)]
    (.op (some 11) (.bin .eql) [(.t 8), (.t 10)]
    .nil))))))
  (.cond (.t 11)
  (.seq (.reg 2 false (.op (some 6) .mov [(.k (.c (.bool true)))]
    .nil))
  .ret)
  .skip))
  (.seq (.seq (.reg 3 false (.op (some 12) (.addr 1) [(.t 3)]
    (.op (some 13) (.ld (.slot 0) (.i .i64)) [(.t 12)]
    (.op (some 14) (.addr 1) [(.t 4)]
    (.op (some 15) (.ld (.slot 1) (.i .i64)) [(.t 14)]
    (.op (some 16) (.bin .eql) [(.t 13), (.t 15)]
    .nil))))))
  (.cond (.t 16)
  (.seq (.reg 4 false (.op (some 17) (.addr 2) [(.t 3)]
    (.op (some 18) (.ld (.slot 0) (.i .i64)) [(.t 17)]
    (.op (some 19) (.bin .eql) [(.t 18), (.k (.c (.int .i64 6)))]
    (.op (some 20) .mov [(.t 19)]
    (.sc 20 true (.op (some 21) (.ldAll (.slot 1) 7) [(.t 4)]
    (.op (some 22) (.call 265 [.b]) [(.t 21)]
    .nil)) 22 23 false
    (.op (some 24) .mov [(.t 23)]
    (.sc 24 false (.op (some 25) (.addr 2) [(.t 4)]
    (.op (some 26) (.ld (.slot 1) (.i .i64)) [(.t 25)]
    (.op (some 27) (.bin .eql) [(.t 26), (.k (.c (.int .i64 6)))]
    (.op (some 28) .mov [(.t 27)]
    (.sc 28 true (.op (some 29) (.ldAll (.slot 0) 7) [(.t 3)]
    (.op (some 30) (.call 265 [.b]) [(.t 29)]
    .nil)) 30 31 false
    .nil))))) 31 32 true
    (.op (some 6) .mov [(.t 32)]
    .nil)))))))))
  .ret)
  .skip))
  (.seq (.reg 5 false (.op (some 33) (.ldAll (.slot 0) 7) [(.t 3)]
    (.op (some 34) .mov [(.t 2)]
    (.op (some 35) (.call 401 [.b]) [(.t 33), (.t 34)]
    (.op (some 36) .mov [(.t 35)]
    (.sc 36 true (.op (some 37) (.ldAll (.slot 1) 7) [(.t 4)]
    (.op (some 38) .mov [(.t 2)]
    (.op (some 39) (.call 401 [.b]) [(.t 37), (.t 38)]
    .nil))) 39 40 false
    (.op (some 41) .mov [(.t 40)]
    (.sc 41 true (.op (some 42) (.addr 3) [(.t 3)]
    (.op (some 43) (.ld (.slot 0) (.i .i64)) [(.t 42)]
    (.op (some 44) (.addr 3) [(.t 4)]
    (.op (some 45) (.ld (.slot 1) (.i .i64)) [(.t 44)]
    (.op (some 46) (.bin .eql) [(.t 43), (.t 45)]
    .nil))))) 46 47 false
    (.op (some 48) .mov [(.t 47)]
    (.sc 48 true (.op (some 49) (.ldAll (.slot 0) 7) [(.t 3)]
    (.op (some 50) .mov [(.t 2)]
    (.op (some 51) (.call 257 [.b]) [(.t 49), (.t 50)]
    (.op (some 52) .mov [(.t 51)]
    (.sc 52 false (.op (some 53) (.ldAll (.slot 1) 7) [(.t 4)]
    (.op (some 54) .mov [(.t 2)]
    (.op (some 55) (.call 257 [.b]) [(.t 53), (.t 54)]
    .nil))) 55 56 true
    .nil))))) 56 57 false
    (.op (some 6) .mov [(.t 57)]
    .nil)))))))))))
  .ret)))) }

/- jacquard/sleep.touches: 401 -/
def sleep_touches : Fn := { np := 2, nt := 12, ns := 1, res := [.t 4 .b], gc := false, code :=
  (.seq (.reg 0 false (.box 2 0 (.t 0)
    (.op (some 4) .mov [(.k (.c (.bool false)))]
    .nil)))
  (.seq (.reg 1 false (.op (some 5) (.ldAll (.slot 0) 7) [(.t 2)]
    (.op (some 6) .mov [(.t 1)]
    (.op (some 7) (.call 257 [.b]) [(.t 5), (.t 6)]
    (.op (some 8) .mov [(.t 7)]
    (.sc 8 false (.op (some 9) (.ldAll (.slot 0) 7) [(.t 2)]
    (.op (some 10) (.call 266 [.b]) [(.t 9)]
    .nil)) 10 11 true
    (.op (some 4) .mov [(.t 11)]
    .nil)))))))
  .ret)) }

/- jacquard/sleep.Wake: 406 -/
def sleep_Wake_b1 : IC :=
  (.seq (.reg 2 false (.op (some 14) (.bin .lss) [(.t 13), (.t 12)]
    .nil))
  (.seq (.cond (.t 14)
  .skip
  (.exit 0))
  (.seq (.blk 1 (.seq (.reg 3 false (.op (some 15) (.idxS 7) [(.t 11), (.t 13)]
    (.op (some 16) (.ldN .heap 7) [(.t 15)]
    (.al 10 1 (List.replicate 7 (Cell.int .i64 0))
    (.op none (.stAll (.slot 1) 7) [(.t 10), (.t 16)]
    .nil)))))
  (.seq (.reg 4 false (.op (some 17) (.ldAll (.slot 1) 7) [(.t 10)]
    (.op (some 18) (.ldAll (.slot 0) 7) [(.t 6)]
    (.op (some 19) .mov [(.t 3)]
    (.op (some 20) (.call 390 [.b]) [(.t 17), (.t 18), (.t 19)]
    .nil)))))
  (.cond (.t 20)
  (.reg 5 false (.op (some 21) .mov [(.t 0)]
    (.op (some 22) (.addr 0) [(.t 10)]
    (.op (some 23) (.ld (.slot 1) (.i .i64)) [(.t 22)]
    (.op (some 24) (.call 63 [(.i .u64)]) [(.t 21), (.t 23)]
    (.op (some 0) .mov [(.t 24)]
    .nil))))))
  .skip))))
  (.reg 6 false (.op (some 25) (.bin .add) [(.t 13), (.k (.c (.int .i64 1)))]
    (.op (some 13) .mov [(.t 25)]
    .nil))))))
def sleep_Wake_p1 : IC :=
  (.seq (.reg 7 false (.op (some 26) .mov [(.t 0)]
    (.op (some 8) .mov [(.t 26)]
    .nil)))
  .ret)
def sleep_Wake : Fn := { np := 4, nt := 27, ns := 2, res := [.t 8 (.i .u64)], gc := false, code :=
  (.seq (.reg 0 false (.box 6 0 (.t 2)
    (.op (some 8) .mov [(.k (.c (.int .u64 0)))]
    .nil)))
  (.seq (.seq (.reg 1 false (.op (some 11) .mov [(.t 1)]
    (.op (some 12) .len [(.t 11)]
    (.op (some 13) .mov [(.k (.c (.int .i64 0)))]
    .nil))))
  (.blk 0 (.loop [0, 3, 6, 11, 12, 13] [0] [(1, [0], [])] sleep_Wake_b1)))
  sleep_Wake_p1)) }

/- jacquard/sleep.Initials: 408 -/
def sleep_Initials_b1 : IC :=
  (.seq (.seq (.reg 8 false (.op (some 21) .mov [(.t 10)]
    (.op (some 22) .mov [(.t 1)]
    (.op (some 23) .len [(.t 22)]
    (.op (some 24) (.bin .lss) [(.t 21), (.t 23)]
    .nil)))))
  (.cond (.t 24)
  .skip
  (.exit 2)))
  (.seq (.blk 3 (.reg 10 false (.op (some 27) .mov [(.t 9)]
    (.op (some 28) .mov [(.t 27)]
    (.sc 28 true (.op (some 29) (.ldAll (.slot 0) 65) [(.t 3)]
    (.op (some 30) .mov [(.t 10)]
    (.op (some 31) .mov [(.t 8)]
    (.op (some 32) (.call 3 [.b]) [(.t 29), (.t 30), (.t 31)]
    (.op (some 33) (.un .not) [(.t 32)]
    .nil))))) 33 34 false
    (.op (some 9) .mov [(.t 34)]
    .nil))))))
  (.reg 9 false (.op (some 25) .mov [(.t 10)]
    (.op (some 26) (.bin .add) [(.t 25), (.k (.c (.int .i64 1)))]
    (.op (some 10) .mov [(.t 26)]
    .nil))))))
def sleep_Initials_p3 : IC :=
  (.seq (.reg 11 false (.op (some 35) .mov [(.t 9)]
    .nil))
  (.cond (.t 35)
  (.reg 12 false (.op (some 36) .mov [(.t 7)]
    (.op (some 37) .mov [(.t 1)]
    (.op (some 38) .mov [(.t 8)]
    (.op (some 39) (.idxS 1) [(.t 37), (.t 38)]
    (.op (some 40) (.ld .heap (.i .i64)) [(.t 39)]
    (.op (some 41) (.call 18 [(.i .u64)]) [(.t 36), (.t 40)]
    (.op (some 7) .mov [(.t 41)]
    .nil))))))))
  .skip))
def sleep_Initials_p2 : IC :=
  (.reg 5 false (.op (some 18) .mov [(.t 8)]
    (.op (some 19) (.bin .add) [(.t 18), (.k (.c (.int .i64 1)))]
    (.op (some 8) .mov [(.t 19)]
    .nil))))
def sleep_Initials_b2 : IC :=
  (.seq (.seq (.reg 4 false (.op (some 14) .mov [(.t 8)]
    (.op (some 15) .mov [(.t 1)]
    (.op (some 16) .len [(.t 15)]
    (.op (some 17) (.bin .lss) [(.t 14), (.t 16)]
    .nil)))))
  (.cond (.t 17)
  .skip
  (.exit 0)))
  (.seq (.blk 1 (.seq (.reg 6 false (.op (some 9) .mov [(.k (.c (.bool true)))]
    .nil))
  (.seq (.seq (.reg 7 false (.op (some 20) .mov [(.t 2)]
    (.op (some 10) .mov [(.t 20)]
    .nil)))
  (.blk 2 (.loop [1, 2, 3, 7, 8, 9, 10] [0] [(3, [1, 2, 3, 7, 8, 9], [0])] sleep_Initials_b1)))
  sleep_Initials_p3)))
  sleep_Initials_p2))
def sleep_Initials_p1 : IC :=
  (.seq (.reg 13 false (.op (some 42) .mov [(.t 7)]
    (.op (some 6) .mov [(.t 42)]
    .nil)))
  .ret)
def sleep_Initials : Fn := { np := 3, nt := 43, ns := 1, res := [.t 6 (.i .u64)], gc := false, code :=
  (.seq (.reg 0 false (.box 3 0 (.t 0)
    (.op (some 6) .mov [(.k (.c (.int .u64 0)))]
    .nil)))
  (.seq (.reg 1 false (.op (some 11) .mov [(.t 2)]
    (.op (some 12) .mx [(.t 11), (.k (.c (.int .i64 0)))]
    (.op (some 2) .mov [(.t 12)]
    .nil))))
  (.seq (.reg 2 false (.op (some 7) .mov [(.k (.c (.int .u64 0)))]
    .nil))
  (.seq (.seq (.reg 3 false (.op (some 13) .mov [(.t 2)]
    (.op (some 8) .mov [(.t 13)]
    .nil)))
  (.blk 0 (.loop [1, 2, 3, 7, 8] [0] [(1, [7], [])] sleep_Initials_b2)))
  sleep_Initials_p1)))) }


end Jq

namespace Jq
open Go

/- jacquard/trace.Writes: 257 -/
def trace_Writes : Fn := { np := 2, nt := 22, ns := 1, res := [.t 4 .b], gc := false, code :=
  (.seq (.reg 0 false (.box 2 0 (.t 0)
    (.op (some 4) .mov [(.k (.c (.bool false)))]
    .nil)))
  (.seq (.reg 1 false (.op (some 5) (.addr 2) [(.t 2)]
    (.op (some 6) (.ld (.slot 0) (.i .i64)) [(.t 5)]
    (.op (some 7) (.bin .eql) [(.t 6), (.k (.c (.int .i64 6)))]
    (.op (some 8) .mov [(.t 7)]
    (.sc 8 false (.op (some 9) (.addr 2) [(.t 2)]
    (.op (some 10) (.ld (.slot 0) (.i .i64)) [(.t 9)]
    (.op (some 11) (.bin .eql) [(.t 10), (.k (.c (.int .i64 4)))]
    .nil))) 11 12 true
    (.op (some 13) .mov [(.t 12)]
    (.sc 13 false (.op (some 14) .mov [(.t 1)]
    (.op (some 15) (.bin .eql) [(.t 14), (.k (.c (.int .i64 1)))]
    (.op (some 16) .mov [(.t 15)]
    (.sc 16 true (.op (some 17) (.addr 2) [(.t 2)]
    (.op (some 18) (.ld (.slot 0) (.i .i64)) [(.t 17)]
    (.op (some 19) (.bin .eql) [(.t 18), (.k (.c (.int .i64 2)))]
    .nil))) 19 20 false
    .nil)))) 20 21 true
    (.op (some 4) .mov [(.t 21)]
    .nil)))))))))
  .ret)) }

/- jacquard/trace.Fences: 265 -/
def trace_Fences : Fn := { np := 1, nt := 16, ns := 1, res := [.t 2 .b], gc := false, code :=
  (.seq (.reg 0 false (.box 1 0 (.t 0)
    (.op (some 2) .mov [(.k (.c (.bool false)))]
    .nil)))
  (.seq (.reg 1 false (.op (some 3) (.addr 2) [(.t 1)]
    (.op (some 4) (.ld (.slot 0) (.i .i64)) [(.t 3)]
    (.op (some 5) (.bin .eql) [(.t 4), (.k (.c (.int .i64 3)))]
    (.op (some 6) .mov [(.t 5)]
    (.sc 6 false (.op (some 7) (.addr 2) [(.t 1)]
    (.op (some 8) (.ld (.slot 0) (.i .i64)) [(.t 7)]
    (.op (some 9) (.bin .eql) [(.t 8), (.k (.c (.int .i64 4)))]
    .nil))) 9 10 true
    (.op (some 11) .mov [(.t 10)]
    (.sc 11 false (.op (some 12) (.addr 2) [(.t 1)]
    (.op (some 13) (.ld (.slot 0) (.i .i64)) [(.t 12)]
    (.op (some 14) (.bin .eql) [(.t 13), (.k (.c (.int .i64 5)))]
    .nil))) 14 15 true
    (.op (some 2) .mov [(.t 15)]
    .nil)))))))))
  .ret)) }

/- jacquard/trace.Reads: 266 -/
def trace_Reads : Fn := { np := 1, nt := 16, ns := 1, res := [.t 2 .b], gc := false, code :=
  (.seq (.reg 0 false (.box 1 0 (.t 0)
    (.op (some 2) .mov [(.k (.c (.bool false)))]
    .nil)))
  (.seq (.reg 1 false (.op (some 3) (.addr 2) [(.t 1)]
    (.op (some 4) (.ld (.slot 0) (.i .i64)) [(.t 3)]
    (.op (some 5) (.bin .eql) [(.t 4), (.k (.c (.int .i64 1)))]
    (.op (some 6) .mov [(.t 5)]
    (.sc 6 false (.op (some 7) (.addr 2) [(.t 1)]
    (.op (some 8) (.ld (.slot 0) (.i .i64)) [(.t 7)]
    (.op (some 9) (.bin .eql) [(.t 8), (.k (.c (.int .i64 4)))]
    .nil))) 9 10 true
    (.op (some 11) .mov [(.t 10)]
    (.sc 11 false (.op (some 12) (.addr 2) [(.t 1)]
    (.op (some 13) (.ld (.slot 0) (.i .i64)) [(.t 12)]
    (.op (some 14) (.bin .eql) [(.t 13), (.k (.c (.int .i64 5)))]
    .nil))) 14 15 true
    (.op (some 2) .mov [(.t 15)]
    .nil)))))))))
  .ret)) }


end Jq

namespace Jq
open Go


end Jq

/- What a function needs of an environment. -/
namespace Jq
open Go


end Jq

namespace Jq
open Go


end Jq

namespace Jq
open Go


end Jq

namespace Jq
open Go


end Jq

/- What a function needs of an environment. -/
namespace Jq
open Go


end Jq

/- What a function needs of an environment. -/
namespace Jq
open Go


end Jq

namespace Jq
open Go


end Jq

namespace Jq
open Go


end Jq

/- What a function needs of an environment. -/
namespace Jq
open Go


end Jq

namespace Jq
open Go


end Jq

namespace Jq
open Go


end Jq

/- What a function needs of an environment. -/
namespace Jq
open Go


end Jq

/- What a function needs of an environment. -/
namespace Jq
open Go


end Jq

/- What a function needs of an environment. -/
namespace Jq
open Go


end Jq

/- What a function needs of an environment. -/
namespace Jq
open Go


end Jq

/- What a function needs of an environment. -/
namespace Jq
open Go

structure trace_Writes_In (E : Env) : Prop where
  fn : E.fn 257 = some trace_Writes

structure trace_Fences_In (E : Env) : Prop where
  fn : E.fn 265 = some trace_Fences

structure trace_Reads_In (E : Env) : Prop where
  fn : E.fn 266 = some trace_Reads

end Jq

/- What a function needs of an environment. -/
namespace Jq
open Go

structure sleep_touches_In (E : Env) : Prop where
  fn : E.fn 401 = some sleep_touches
  c257 : trace_Writes_In E
  c266 : trace_Reads_In E

structure sleep_Clash_In (E : Env) : Prop where
  fn : E.fn 390 = some sleep_Clash
  c257 : trace_Writes_In E
  c265 : trace_Fences_In E
  c401 : sleep_touches_In E

structure sleep_Covers_In (E : Env) : Prop where
  fn : E.fn 368 = some sleep_Covers

structure sleep_Initials_In (E : Env) : Prop where
  fn : E.fn 408 = some sleep_Initials
  c3 : rel_Rel_Has_In E
  c18 : set_Set_With_In E

structure sleep_Wake_In (E : Env) : Prop where
  fn : E.fn 406 = some sleep_Wake
  c63 : set_Set_Without_In E
  c390 : sleep_Clash_In E

end Jq

namespace Jq
open Go

/- jacquard/sleep.Covers: 368 -/
set_option maxRecDepth 100000 in
theorem sleep_Covers_eq (C : CallF) (L : LoopF) (G : Glo) (a0 : Int) (a1 : Int) (h0 : AHeap) :
    sleep_Covers.body C L G [(.c (.int .u64 a0)), (.c (.int .u64 a1))] h0 =
    scK (a1 == 0) false (some (((G.band .u64 a0 a1) != 0), h0)) true h0 fun b_1 h_2 => some ([(.c (.bool b_1))], h_2) := by kernel_rfl

/- jacquard/sleep.Clash: 390 -/
set_option maxRecDepth 100000 in
theorem sleep_Clash_eq (C : CallF) (L : LoopF) (G : Glo) (l0 : List Cell) (l1 : List Cell) (a2 : Int) (h0 : AHeap) :
    sleep_Clash.body C L G [(.agg l0), (.agg l1), (.c (.int .i64 a2))] h0 =
    atK l0 0 fun q_1 => asI .i64 (.c q_1) fun n_2 => atK l1 0 fun q_3 => asI .i64 (.c q_3) fun n_4 => if (n_2 == n_4) = true then some ([(.c (.bool true))], h0) else atK l0 1 fun q_5 => asI .i64 (.c q_5) fun n_6 => atK l1 1 fun q_7 => asI .i64 (.c q_7) fun n_8 => if (n_6 == n_8) = true then atK l0 2 fun q_9 => asI .i64 (.c q_9) fun n_10 => scK (n_10 == 6) true (if 0 = 0 ∧ l1.length = 7 then c1 (C 265 [(.agg l1)] h0) fun y_12 h_11 => asB y_12 fun b_13 => some (b_13, h_11) else none) false h0 fun b_14 h_15 => scK b_14 false (atK l1 2 fun q_16 => asI .i64 (.c q_16) fun n_17 => scK (n_17 == 6) true (if 0 = 0 ∧ l0.length = 7 then c1 (C 265 [(.agg l0)] h_15) fun y_19 h_18 => asB y_19 fun b_20 => some (b_20, h_18) else none) false h_15 fun b_21 h_22 => some (b_21, h_22)) true h_15 fun b_23 h_24 => some ([(.c (.bool b_23))], h_24) else if 0 = 0 ∧ l0.length = 7 then c1 (C 401 [(.agg l0), (.c (.int .i64 a2))] h0) fun y_26 h_25 => asB y_26 fun b_27 => scK b_27 true (if 0 = 0 ∧ l1.length = 7 then c1 (C 401 [(.agg l1), (.c (.int .i64 a2))] h_25) fun y_29 h_28 => asB y_29 fun b_30 => some (b_30, h_28) else none) false h_25 fun b_31 h_32 => scK b_31 true (atK l0 3 fun q_33 => asI .i64 (.c q_33) fun n_34 => atK l1 3 fun q_35 => asI .i64 (.c q_35) fun n_36 => some ((n_34 == n_36), h_32)) false h_32 fun b_37 h_38 => scK b_37 true (if 0 = 0 ∧ l0.length = 7 then c1 (C 257 [(.agg l0), (.c (.int .i64 a2))] h_38) fun y_40 h_39 => asB y_40 fun b_41 => scK b_41 false (if 0 = 0 ∧ l1.length = 7 then c1 (C 257 [(.agg l1), (.c (.int .i64 a2))] h_39) fun y_43 h_42 => asB y_43 fun b_44 => some (b_44, h_42) else none) true h_39 fun b_45 h_46 => some (b_45, h_46) else none) false h_38 fun b_47 h_48 => some ([(.c (.bool b_47))], h_48) else none := by kernel_rfl

/- jacquard/sleep.touches: 401 -/
set_option maxRecDepth 100000 in
theorem sleep_touches_eq (C : CallF) (L : LoopF) (G : Glo) (l0 : List Cell) (a1 : Int) (h0 : AHeap) :
    sleep_touches.body C L G [(.agg l0), (.c (.int .i64 a1))] h0 =
    if 0 = 0 ∧ l0.length = 7 then c1 (C 257 [(.agg l0), (.c (.int .i64 a1))] h0) fun y_2 h_1 => asB y_2 fun b_3 => scK b_3 false (if 0 = 0 ∧ l0.length = 7 then c1 (C 266 [(.agg l0)] h_1) fun y_5 h_4 => asB y_5 fun b_6 => some (b_6, h_4) else none) true h_1 fun b_7 h_8 => some ([(.c (.bool b_7))], h_8) else none := by kernel_rfl

/- jacquard/sleep.Wake: 406 -/
def sleep_Wake_k2 (C : CallF) (L : LoopF) (G : Glo) (h0 : AHeap) : Ex → St → Option (List AV × AHeap) :=
  kSeq (fun st => sleep_Wake_p1.exec C L G st (sleep_Wake.fin G h0)) (sleep_Wake.fin G h0)
def sleep_Wake_k3 (C : CallF) (L : LoopF) (G : Glo) (h0 : AHeap) : Ex → St → Option (List AV × AHeap) :=
  kBlk 0 (sleep_Wake_k2 C L G h0)
def sleep_Wake_s1 (a0 : Int) (a3 : Int) (x11 : Cell) (a12 : Int) (a13 : Int) (s0 : List Cell) (h : AHeap) : St := ⟨[.v (.c (.int .u64 a0)), .top, .top, .v (.c (.int .i64 a3)), .top, .top, .loc 0 0, .top, .top, .top, .top, .v (.c x11), .v (.c (.int .i64 a12)), .v (.c (.int .i64 a13)), .top, .top, .top, .top, .top, .top, .top, .top, .top, .top, .top, .top, .top], [some s0, none], h⟩
def sleep_Wake_F1 (C : CallF) (L : LoopF) (G : Glo) : St → Option (Ex × St) :=
  roundF (fun st f => sleep_Wake_b1.exec C L G st f) [0, 3, 6, 11, 12, 13] [0] [(1, [0], [])]
def sleep_Wake_x1_1 (a0 : Int) (h : AHeap) : St := ⟨[.v (.c (.int .u64 a0)), .top, .top, .top, .top, .top, .top, .top, .top, .top, .top, .top, .top, .top, .top, .top, .top, .top, .top, .top, .top, .top, .top, .top, .top, .top, .top], [none, none], h⟩
theorem sleep_Wake_r1 (C : CallF) (L : LoopF) (G : Glo) (a0 : Int) (a3 : Int) (x11 : Cell) (a12 : Int) (a13 : Int) (s0 : List Cell) (h : AHeap) :
    sleep_Wake_F1 C L G (sleep_Wake_s1 a0 a3 x11 a12 a13 s0 h) =
    if (decide (a13 < a12)) = true then idxSK 7 x11 a13 fun k_2 N_3 o_4 => rdH h k_2 N_3 fun l_5 => if o_4 + 7 ≤ l_5.length then if 0 = 0 ∧ (List.replicate 7 (Cell.int .i64 0)).length = 7 ∧ ((l_5.drop o_4).take 7).length = 7 then if 0 = 0 ∧ ((l_5.drop o_4).take 7).length = 7 then if 0 = 0 ∧ s0.length = 7 then c1 (C 390 [(.agg ((l_5.drop o_4).take 7)), (.agg s0), (.c (.int .i64 a3))] h) fun y_7 h_6 => asB y_7 fun b_8 => if b_8 = true then atK ((l_5.drop o_4).take 7) 0 fun q_9 => asI .i64 (.c q_9) fun n_10 => c1 (C 63 [(.c (.int .u64 a0)), (.c (.int .i64 n_10))] h_6) fun y_12 h_11 => asI .u64 y_12 fun n_13 => some (.normal, (sleep_Wake_s1 n_13 a3 x11 a12 (G.wrap .i64 (a13 + 1)) s0 h_11)) else some (.normal, (sleep_Wake_s1 a0 a3 x11 a12 (G.wrap .i64 (a13 + 1)) s0 h_6)) else none else none else none else none else some ((.exit 0), (sleep_Wake_x1_1 a0 h)) := by kernel_rfl
theorem sleep_Wake_e1_1 (C : CallF) (L : LoopF) (G : Glo) (h0 : AHeap) (a0 : Int) (h : AHeap) :
    (sleep_Wake_k3 C L G h0) (.exit 0) (sleep_Wake_x1_1 a0 h) =
    some ([(.c (.int .u64 a0))], h) := by kernel_rfl
set_option maxRecDepth 100000 in
theorem sleep_Wake_eq (C : CallF) (L : LoopF) (G : Glo) (a0 : Int) (x1 : Cell) (l2 : List Cell) (a3 : Int) (h0 : AHeap) :
    sleep_Wake.body C L G [(.c (.int .u64 a0)), (.c x1), (.agg l2), (.c (.int .i64 a3))] h0 =
    lenK x1 fun n_1 => (L (sleep_Wake_F1 C L G) (sleep_Wake_s1 a0 a3 x1 n_1 0 l2 h0)).bind fun p_14 => (sleep_Wake_k3 C L G h0) p_14.1 p_14.2 := by kernel_rfl

/- jacquard/sleep.Initials: 408 -/
def sleep_Initials_k2 (C : CallF) (L : LoopF) (G : Glo) (h0 : AHeap) : Ex → St → Option (List AV × AHeap) :=
  kSeq (fun st => sleep_Initials_p1.exec C L G st (sleep_Initials.fin G h0)) (sleep_Initials.fin G h0)
def sleep_Initials_k3 (C : CallF) (L : LoopF) (G : Glo) (h0 : AHeap) : Ex → St → Option (List AV × AHeap) :=
  kBlk 0 (sleep_Initials_k2 C L G h0)
def sleep_Initials_s2 (x1 : Cell) (a2 : Int) (a7 : Int) (a8 : Int) (s0 : List Cell) (h : AHeap) : St := ⟨[.top, .v (.c x1), .v (.c (.int .i64 a2)), .loc 0 0, .top, .top, .top, .v (.c (.int .u64 a7)), .v (.c (.int .i64 a8)), .top, .top, .top, .top, .top, .top, .top, .top, .top, .top, .top, .top, .top, .top, .top, .top, .top, .top, .top, .top, .top, .top, .top, .top, .top, .top, .top, .top, .top, .top, .top, .top, .top, .top], [some s0], h⟩
def sleep_Initials_F2 (C : CallF) (L : LoopF) (G : Glo) : St → Option (Ex × St) :=
  roundF (fun st f => sleep_Initials_b2.exec C L G st f) [1, 2, 3, 7, 8] [0] [(1, [7], [])]
def sleep_Initials_k4 (C : CallF) (L : LoopF) (G : Glo) : Ex → St → Option (Ex × St) :=
  kSeq (fun st => sleep_Initials_p2.exec C L G st (kLoop [1, 2, 3, 7, 8] [0] [(1, [7], [])])) (kLoop [1, 2, 3, 7, 8] [0] [(1, [7], [])])
def sleep_Initials_k5 (C : CallF) (L : LoopF) (G : Glo) : Ex → St → Option (Ex × St) :=
  kBlk 1 (sleep_Initials_k4 C L G)
def sleep_Initials_k6 (C : CallF) (L : LoopF) (G : Glo) : Ex → St → Option (Ex × St) :=
  kSeq (fun st => sleep_Initials_p3.exec C L G st (sleep_Initials_k5 C L G)) (sleep_Initials_k5 C L G)
def sleep_Initials_k7 (C : CallF) (L : LoopF) (G : Glo) : Ex → St → Option (Ex × St) :=
  kBlk 2 (sleep_Initials_k6 C L G)
def sleep_Initials_s1 (x1 : Cell) (a2 : Int) (a7 : Int) (a8 : Int) (b9 : Bool) (a10 : Int) (s0 : List Cell) (h : AHeap) : St := ⟨[.top, .v (.c x1), .v (.c (.int .i64 a2)), .loc 0 0, .top, .top, .top, .v (.c (.int .u64 a7)), .v (.c (.int .i64 a8)), .v (.c (.bool b9)), .v (.c (.int .i64 a10)), .top, .top, .top, .top, .top, .top, .top, .top, .top, .top, .top, .top, .top, .top, .top, .top, .top, .top, .top, .top, .top, .top, .top, .top, .top, .top, .top, .top, .top, .top, .top, .top], [some s0], h⟩
def sleep_Initials_F1 (C : CallF) (L : LoopF) (G : Glo) : St → Option (Ex × St) :=
  roundF (fun st f => sleep_Initials_b1.exec C L G st f) [1, 2, 3, 7, 8, 9, 10] [0] [(3, [1, 2, 3, 7, 8, 9], [0])]
def sleep_Initials_x1_3 (x1 : Cell) (a2 : Int) (a7 : Int) (a8 : Int) (b9 : Bool) (s0 : List Cell) (h : AHeap) : St := ⟨[.top, .v (.c x1), .v (.c (.int .i64 a2)), .loc 0 0, .top, .top, .top, .v (.c (.int .u64 a7)), .v (.c (.int .i64 a8)), .v (.c (.bool b9)), .top, .top, .top, .top, .top, .top, .top, .top, .top, .top, .top, .top, .top, .top, .top, .top, .top, .top, .top, .top, .top, .top, .top, .top, .top, .top, .top, .top, .top, .top, .top, .top, .top], [some s0], h⟩
def sleep_Initials_x2_1 (a7 : Int) (h : AHeap) : St := ⟨[.top, .top, .top, .top, .top, .top, .top, .v (.c (.int .u64 a7)), .top, .top, .top, .top, .top, .top, .top, .top, .top, .top, .top, .top, .top, .top, .top, .top, .top, .top, .top, .top, .top, .top, .top, .top, .top, .top, .top, .top, .top, .top, .top, .top, .top, .top, .top], [none], h⟩
theorem sleep_Initials_r1 (C : CallF) (L : LoopF) (G : Glo) (x1 : Cell) (a2 : Int) (a7 : Int) (a8 : Int) (b9 : Bool) (a10 : Int) (s0 : List Cell) (h : AHeap) :
    sleep_Initials_F1 C L G (sleep_Initials_s1 x1 a2 a7 a8 b9 a10 s0 h) =
    lenK x1 fun n_2 => if (decide (a10 < n_2)) = true then scK b9 true (if 0 = 0 ∧ s0.length = 65 then c1 (C 3 [(.agg s0), (.c (.int .i64 a10)), (.c (.int .i64 a8))] h) fun y_4 h_3 => asB y_4 fun b_5 => some ((!b_5), h_3) else none) false h fun b_6 h_7 => some (.normal, (sleep_Initials_s1 x1 a2 a7 a8 b_6 (G.wrap .i64 (a10 + 1)) s0 h_7)) else some ((.exit 2), (sleep_Initials_x1_3 x1 a2 a7 a8 b9 s0 h)) := by kernel_rfl
theorem sleep_Initials_e1_3 (C : CallF) (L : LoopF) (G : Glo) (x1 : Cell) (a2 : Int) (a7 : Int) (a8 : Int) (b9 : Bool) (s0 : List Cell) (h : AHeap) :
    (sleep_Initials_k7 C L G) (.exit 2) (sleep_Initials_x1_3 x1 a2 a7 a8 b9 s0 h) =
    if b9 = true then idxSK 1 x1 a8 fun k_8 N_9 o_10 => rdH h k_8 N_9 fun l_11 => atK l_11 o_10 fun q_12 => asI .i64 (.c q_12) fun n_13 => c1 (C 18 [(.c (.int .u64 a7)), (.c (.int .i64 n_13))] h) fun y_15 h_14 => asI .u64 y_15 fun n_16 => some (.normal, (sleep_Initials_s2 x1 a2 n_16 (G.wrap .i64 (a8 + 1)) s0 h_14)) else some (.normal, (sleep_Initials_s2 x1 a2 a7 (G.wrap .i64 (a8 + 1)) s0 h)) := by kernel_rfl
theorem sleep_Initials_r2 (C : CallF) (L : LoopF) (G : Glo) (x1 : Cell) (a2 : Int) (a7 : Int) (a8 : Int) (s0 : List Cell) (h : AHeap) :
    sleep_Initials_F2 C L G (sleep_Initials_s2 x1 a2 a7 a8 s0 h) =
    lenK x1 fun n_1 => if (decide (a8 < n_1)) = true then (L (sleep_Initials_F1 C L G) (sleep_Initials_s1 x1 a2 a7 a8 true a2 s0 h)).bind fun p_17 => (sleep_Initials_k7 C L G) p_17.1 p_17.2 else some ((.exit 0), (sleep_Initials_x2_1 a7 h)) := by kernel_rfl
theorem sleep_Initials_e2_1 (C : CallF) (L : LoopF) (G : Glo) (h0 : AHeap) (a7 : Int) (h : AHeap) :
    (sleep_Initials_k3 C L G h0) (.exit 0) (sleep_Initials_x2_1 a7 h) =
    some ([(.c (.int .u64 a7))], h) := by kernel_rfl
set_option maxRecDepth 100000 in
theorem sleep_Initials_eq (C : CallF) (L : LoopF) (G : Glo) (l0 : List Cell) (x1 : Cell) (a2 : Int) (h0 : AHeap) :
    sleep_Initials.body C L G [(.agg l0), (.c x1), (.c (.int .i64 a2))] h0 =
    (L (sleep_Initials_F2 C L G) (sleep_Initials_s2 x1 (if 0 > a2 then 0 else a2) 0 (if 0 > a2 then 0 else a2) l0 h0)).bind fun p_18 => (sleep_Initials_k3 C L G h0) p_18.1 p_18.2 := by kernel_rfl


end Jq

namespace Jq
open Go

/- jacquard/trace.Writes: 257 -/
set_option maxRecDepth 100000 in
theorem trace_Writes_eq (C : CallF) (L : LoopF) (G : Glo) (l0 : List Cell) (a1 : Int) (h0 : AHeap) :
    trace_Writes.body C L G [(.agg l0), (.c (.int .i64 a1))] h0 =
    atK l0 2 fun q_1 => asI .i64 (.c q_1) fun n_2 => scK (n_2 == 6) false (atK l0 2 fun q_3 => asI .i64 (.c q_3) fun n_4 => some ((n_4 == 4), h0)) true h0 fun b_5 h_6 => scK b_5 false (scK (a1 == 1) true (atK l0 2 fun q_7 => asI .i64 (.c q_7) fun n_8 => some ((n_8 == 2), h_6)) false h_6 fun b_9 h_10 => some (b_9, h_10)) true h_6 fun b_11 h_12 => some ([(.c (.bool b_11))], h_12) := by kernel_rfl

/- jacquard/trace.Fences: 265 -/
set_option maxRecDepth 100000 in
theorem trace_Fences_eq (C : CallF) (L : LoopF) (G : Glo) (l0 : List Cell) (h0 : AHeap) :
    trace_Fences.body C L G [(.agg l0)] h0 =
    atK l0 2 fun q_1 => asI .i64 (.c q_1) fun n_2 => scK (n_2 == 3) false (atK l0 2 fun q_3 => asI .i64 (.c q_3) fun n_4 => some ((n_4 == 4), h0)) true h0 fun b_5 h_6 => scK b_5 false (atK l0 2 fun q_7 => asI .i64 (.c q_7) fun n_8 => some ((n_8 == 5), h_6)) true h_6 fun b_9 h_10 => some ([(.c (.bool b_9))], h_10) := by kernel_rfl

/- jacquard/trace.Reads: 266 -/
set_option maxRecDepth 100000 in
theorem trace_Reads_eq (C : CallF) (L : LoopF) (G : Glo) (l0 : List Cell) (h0 : AHeap) :
    trace_Reads.body C L G [(.agg l0)] h0 =
    atK l0 2 fun q_1 => asI .i64 (.c q_1) fun n_2 => scK (n_2 == 1) false (atK l0 2 fun q_3 => asI .i64 (.c q_3) fun n_4 => some ((n_4 == 4), h0)) true h0 fun b_5 h_6 => scK b_5 false (atK l0 2 fun q_7 => asI .i64 (.c q_7) fun n_8 => some ((n_8 == 5), h_6)) true h_6 fun b_9 h_10 => some ([(.c (.bool b_9))], h_10) := by kernel_rfl


end Jq

namespace Jq
open Go

/- jacquard/jacquardref16.Writes: 176 -/
def jacquardref16_Writes : Fn := { np := 2, nt := 22, ns := 1, res := [.t 4 .b], gc := false, code :=
  (.seq (.reg 0 false (.box 2 0 (.t 0)
    (.op (some 4) .mov [(.k (.c (.bool false)))]
    .nil)))
  (.seq (.reg 1 false (.op (some 5) (.addr 2) [(.t 2)]
    (.op (some 6) (.ld (.slot 0) (.i .i64)) [(.t 5)]
    (.op (some 7) (.bin .eql) [(.t 6), (.k (.c (.int .i64 6)))]
    (.op (some 8) .mov [(.t 7)]
    (.sc 8 false (.op (some 9) (.addr 2) [(.t 2)]
    (.op (some 10) (.ld (.slot 0) (.i .i64)) [(.t 9)]
    (.op (some 11) (.bin .eql) [(.t 10), (.k (.c (.int .i64 4)))]
    .nil))) 11 12 true
    (.op (some 13) .mov [(.t 12)]
    (.sc 13 false (.op (some 14) (.addr 2) [(.t 2)]
    (.op (some 15) (.ld (.slot 0) (.i .i64)) [(.t 14)]
    (.op (some 16) (.bin .eql) [(.t 15), (.k (.c (.int .i64 2)))]
    (.op (some 17) .mov [(.t 16)]
    (.sc 17 true (.op (some 18) .mov [(.t 1)]
    (.op (some 19) (.bin .eql) [(.t 18), (.k (.c (.int .i64 1)))]
    .nil)) 19 20 false
    .nil))))) 20 21 true
    (.op (some 4) .mov [(.t 21)]
    .nil)))))))))
  .ret)) }

/- jacquard/jacquardref16.Clash: 409 -/
def jacquardref16_Clash : Fn := { np := 3, nt := 62, ns := 2, res := [.t 6 .b], gc := false, code :=
  (.seq (.reg 0 false (.box 3 0 (.t 0)
    (.box 4 1 (.t 1)
    (.op (some 6) .mov [(.k (.c (.bool false)))]
    .nil))))
  (.seq (.seq (.reg 1 false (.op (some 9) (.addr 0) [(.t 3)]
    (.op (some 10) (.ld (.slot 0) (.i .i64)) [(.t 9)]
    (.op (some 11) (.addr 0) [(.t 4)]
    (.op (some 12) (.ld (.slot 1) (.i .i64)) [(.t 11)]
    (.op (some 13) (.bin .eql) [(.t 10), (.t 12)]
    .nil))))))
  (.cond (.t 13)
  (.seq (.reg 2 false (.op (some 6) .mov [(.k (.c (.bool true)))]
    .nil))
  .ret)
  .skip))
  (.seq (.seq (.reg 3 false (.op (some 14) (.addr 1) [(.t 3)]
    (.op (some 15) (.ld (.slot 0) (.i .i64)) [(.t 14)]
    (.op (some 16) (.addr 1) [(.t 4)]
    (.op (some 17) (.ld (.slot 1) (.i .i64)) [(.t 16)]
    (.op (some 18) (.bin .eql) [(.t 15), (.t 17)]
    .nil))))))
  (.cond (.t 18)
  (.seq (.reg 4 false (.op (some 19) (.ldAll (.slot 0) 7) [(.t 3)]
    (.op (some 20) (.ldAll (.slot 1) 7) [(.t 4)]
    (.op (some 21) (.call 411 [.b]) [(.t 19), (.t 20)]
    (.op (some 22) .mov [(.t 21)]
    (.sc 22 false (.op (some 23) (.ldAll (.slot 1) 7) [(.t 4)]
    (.op (some 24) (.ldAll (.slot 0) 7) [(.t 3)]
    (.op (some 25) (.call 411 [.b]) [(.t 23), (.t 24)]
    .nil))) 25 26 true
    (.op (some 6) .mov [(.t 26)]
    .nil)))))))
  .ret)
  .skip))
  (.seq (.reg 5 true (.op (some 27) (.ldAll (.slot 0) 7) [(.t 3)]
    (.op (some 28) .mov [(.t 2)]
    (.op (some 29) (.qcall 176 [.b]) [(.t 27), (.t 28)]
    (.op (some 30) .mov [(.t 29)]
    (.sc 30 false (.op (some 31) (.ldAll (.slot 0) 7) [(.t 3)]
    (.op (some 32) (.qcall 412 [.b]) [(.t 31)]
    .nil)) 32 33 true
    (.op (some 34) (.ldAll (.slot 1) 7) [(.t 4)]
    (.op (some 35) .mov [(.t 2)]
    (.op (some 36) (.qcall 176 [.b]) [(.t 34), (.t 35)]
    (.op (some 37) .mov [(.t 36)]
    (.sc 37 false (.op (some 38) (.ldAll (.slot 1) 7) [(.t 4)]
    (.op (some 39) (.qcall 412 [.b]) [(.t 38)]
    .nil)) 39 40 true
    (.op (some 7) .mov [(.t 33)]
    (.op (some 8) .mov [(.t 40)]
    .nil)))))))))))))
  (.seq (.reg 6 false (.op (some 41) .mov [(.t 7)]
    (.op (some 42) .mov [(.t 41)]
    (.sc 42 true (.op (some 43) .mov [(.t 8)]
    .nil) 43 44 false
    (.op (some 45) .mov [(.t 44)]
    (.sc 45 true (.op (some 46) (.addr 3) [(.t 3)]
    (.op (some 47) (.ld (.slot 0) (.i .i64)) [(.t 46)]
    (.op (some 48) (.addr 3) [(.t 4)]
    (.op (some 49) (.ld (.slot 1) (.i .i64)) [(.t 48)]
    (.op (some 50) (.bin .eql) [(.t 47), (.t 49)]
    .nil))))) 50 51 false
    (.op (some 52) .mov [(.t 51)]
    (.sc 52 true (.op (some 53) (.ldAll (.slot 0) 7) [(.t 3)]
    (.op (some 54) .mov [(.t 2)]
    (.op (some 55) (.call 176 [.b]) [(.t 53), (.t 54)]
    (.op (some 56) .mov [(.t 55)]
    (.sc 56 false (.op (some 57) (.ldAll (.slot 1) 7) [(.t 4)]
    (.op (some 58) .mov [(.t 2)]
    (.op (some 59) (.call 176 [.b]) [(.t 57), (.t 58)]
    .nil))) 59 60 true
    .nil))))) 60 61 false
    (.op (some 6) .mov [(.t 61)]
    .nil)))))))))
  .ret))))) }

/- jacquard/jacquardref16.own: 411 -/
def jacquardref16_own : Fn := { np := 2, nt := 23, ns := 2, res := [.t 4 .b], gc := false, code :=
  (.seq (.reg 0 false (.box 2 0 (.t 0)
    (.box 3 1 (.t 1)
    (.op (some 4) .mov [(.k (.c (.bool false)))]
    .nil))))
  (.seq (.reg 1 false (.op (some 5) (.addr 2) [(.t 2)]
    (.op (some 6) (.ld (.slot 0) (.i .i64)) [(.t 5)]
    (.op (some 7) (.bin .eql) [(.t 6), (.k (.c (.int .i64 6)))]
    (.op (some 8) .mov [(.t 7)]
    (.sc 8 true (.op (some 9) (.addr 2) [(.t 3)]
    (.op (some 10) (.ld (.slot 1) (.i .i64)) [(.t 9)]
    (.op (some 11) (.bin .eql) [(.t 10), (.k (.c (.int .i64 3)))]
    (.op (some 12) .mov [(.t 11)]
    (.sc 12 false (.op (some 13) (.addr 2) [(.t 3)]
    (.op (some 14) (.ld (.slot 1) (.i .i64)) [(.t 13)]
    (.op (some 15) (.bin .eql) [(.t 14), (.k (.c (.int .i64 4)))]
    .nil))) 15 16 true
    (.op (some 17) .mov [(.t 16)]
    (.sc 17 false (.op (some 18) (.addr 2) [(.t 3)]
    (.op (some 19) (.ld (.slot 1) (.i .i64)) [(.t 18)]
    (.op (some 20) (.bin .eql) [(.t 19), (.k (.c (.int .i64 5)))]
    .nil))) 20 21 true
    .nil))))))) 21 22 false
    (.op (some 4) .mov [(.t 22)]
    .nil)))))))
  .ret)) }

/- jacquard/jacquardref16.reads: 412 -/
def jacquardref16_reads : Fn := { np := 1, nt := 16, ns := 1, res := [.t 2 .b], gc := false, code :=
  (.seq (.reg 0 false (.box 1 0 (.t 0)
    (.op (some 2) .mov [(.k (.c (.bool false)))]
    .nil)))
  (.seq (.reg 1 false (.op (some 3) (.addr 2) [(.t 1)]
    (.op (some 4) (.ld (.slot 0) (.i .i64)) [(.t 3)]
    (.op (some 5) (.bin .eql) [(.t 4), (.k (.c (.int .i64 1)))]
    (.op (some 6) .mov [(.t 5)]
    (.sc 6 false (.op (some 7) (.addr 2) [(.t 1)]
    (.op (some 8) (.ld (.slot 0) (.i .i64)) [(.t 7)]
    (.op (some 9) (.bin .eql) [(.t 8), (.k (.c (.int .i64 4)))]
    .nil))) 9 10 true
    (.op (some 11) .mov [(.t 10)]
    (.sc 11 false (.op (some 12) (.addr 2) [(.t 1)]
    (.op (some 13) (.ld (.slot 0) (.i .i64)) [(.t 12)]
    (.op (some 14) (.bin .eql) [(.t 13), (.k (.c (.int .i64 5)))]
    .nil))) 14 15 true
    (.op (some 2) .mov [(.t 15)]
    .nil)))))))))
  .ret)) }


end Jq

/- What a function needs of an environment. -/
namespace Jq
open Go

structure jacquardref16_Writes_In (E : Env) : Prop where
  fn : E.fn 176 = some jacquardref16_Writes

structure jacquardref16_own_In (E : Env) : Prop where
  fn : E.fn 411 = some jacquardref16_own

structure jacquardref16_reads_In (E : Env) : Prop where
  fn : E.fn 412 = some jacquardref16_reads

structure jacquardref16_Clash_In (E : Env) : Prop where
  fn : E.fn 409 = some jacquardref16_Clash
  c176 : jacquardref16_Writes_In E
  c411 : jacquardref16_own_In E
  c412 : jacquardref16_reads_In E

end Jq

namespace Jq
open Go

/- jacquard/jacquardref16.Writes: 176 -/
set_option maxRecDepth 100000 in
theorem jacquardref16_Writes_eq (C : CallF) (L : LoopF) (G : Glo) (l0 : List Cell) (a1 : Int) (h0 : AHeap) :
    jacquardref16_Writes.body C L G [(.agg l0), (.c (.int .i64 a1))] h0 =
    atK l0 2 fun q_1 => asI .i64 (.c q_1) fun n_2 => scK (n_2 == 6) false (atK l0 2 fun q_3 => asI .i64 (.c q_3) fun n_4 => some ((n_4 == 4), h0)) true h0 fun b_5 h_6 => scK b_5 false (atK l0 2 fun q_7 => asI .i64 (.c q_7) fun n_8 => scK (n_8 == 2) true (some ((a1 == 1), h_6)) false h_6 fun b_9 h_10 => some (b_9, h_10)) true h_6 fun b_11 h_12 => some ([(.c (.bool b_11))], h_12) := by kernel_rfl

/- jacquard/jacquardref16.Clash: 409 -/
set_option maxRecDepth 100000 in
theorem jacquardref16_Clash_eq (C : CallF) (L : LoopF) (G : Glo) (l0 : List Cell) (l1 : List Cell) (a2 : Int) (h0 : AHeap) :
    jacquardref16_Clash.body C L G [(.agg l0), (.agg l1), (.c (.int .i64 a2))] h0 =
    atK l0 0 fun q_1 => asI .i64 (.c q_1) fun n_2 => atK l1 0 fun q_3 => asI .i64 (.c q_3) fun n_4 => if (n_2 == n_4) = true then some ([(.c (.bool true))], h0) else atK l0 1 fun q_5 => asI .i64 (.c q_5) fun n_6 => atK l1 1 fun q_7 => asI .i64 (.c q_7) fun n_8 => if (n_6 == n_8) = true then if 0 = 0 ∧ l0.length = 7 then if 0 = 0 ∧ l1.length = 7 then c1 (C 411 [(.agg l0), (.agg l1)] h0) fun y_10 h_9 => asB y_10 fun b_11 => scK b_11 false (if 0 = 0 ∧ l1.length = 7 then if 0 = 0 ∧ l0.length = 7 then c1 (C 411 [(.agg l1), (.agg l0)] h_9) fun y_13 h_12 => asB y_13 fun b_14 => some (b_14, h_12) else none else none) true h_9 fun b_15 h_16 => some ([(.c (.bool b_15))], h_16) else none else none else if 0 = 0 ∧ l0.length = 7 then c1 (qh h0 (C 176 [(.agg l0), (.c (.int .i64 a2))] h0)) fun y_18 h_17 => asB y_18 fun b_19 => scK b_19 false (if 0 = 0 ∧ l0.length = 7 then c1 (qh h0 (C 412 [(.agg l0)] h0)) fun y_21 h_20 => asB y_21 fun b_22 => some (b_22, h0) else none) true h0 fun b_23 h_24 => if 0 = 0 ∧ l1.length = 7 then c1 (qh h_24 (C 176 [(.agg l1), (.c (.int .i64 a2))] h_24)) fun y_26 h_25 => asB y_26 fun b_27 => scK b_27 false (if 0 = 0 ∧ l1.length = 7 then c1 (qh h_24 (C 412 [(.agg l1)] h_24)) fun y_29 h_28 => asB y_29 fun b_30 => some (b_30, h_24) else none) true h_24 fun b_31 h_32 => scK b_23 true (some (b_31, h_32)) false h_32 fun b_33 h_34 => scK b_33 true (atK l0 3 fun q_35 => asI .i64 (.c q_35) fun n_36 => atK l1 3 fun q_37 => asI .i64 (.c q_37) fun n_38 => some ((n_36 == n_38), h_34)) false h_34 fun b_39 h_40 => scK b_39 true (if 0 = 0 ∧ l0.length = 7 then c1 (C 176 [(.agg l0), (.c (.int .i64 a2))] h_40) fun y_42 h_41 => asB y_42 fun b_43 => scK b_43 false (if 0 = 0 ∧ l1.length = 7 then c1 (C 176 [(.agg l1), (.c (.int .i64 a2))] h_41) fun y_45 h_44 => asB y_45 fun b_46 => some (b_46, h_44) else none) true h_41 fun b_47 h_48 => some (b_47, h_48) else none) false h_40 fun b_49 h_50 => some ([(.c (.bool b_49))], h_50) else none else none := by kernel_rfl

/- jacquard/jacquardref16.own: 411 -/
set_option maxRecDepth 100000 in
theorem jacquardref16_own_eq (C : CallF) (L : LoopF) (G : Glo) (l0 : List Cell) (l1 : List Cell) (h0 : AHeap) :
    jacquardref16_own.body C L G [(.agg l0), (.agg l1)] h0 =
    atK l0 2 fun q_1 => asI .i64 (.c q_1) fun n_2 => scK (n_2 == 6) true (atK l1 2 fun q_3 => asI .i64 (.c q_3) fun n_4 => scK (n_4 == 3) false (atK l1 2 fun q_5 => asI .i64 (.c q_5) fun n_6 => some ((n_6 == 4), h0)) true h0 fun b_7 h_8 => scK b_7 false (atK l1 2 fun q_9 => asI .i64 (.c q_9) fun n_10 => some ((n_10 == 5), h_8)) true h_8 fun b_11 h_12 => some (b_11, h_12)) false h0 fun b_13 h_14 => some ([(.c (.bool b_13))], h_14) := by kernel_rfl

/- jacquard/jacquardref16.reads: 412 -/
set_option maxRecDepth 100000 in
theorem jacquardref16_reads_eq (C : CallF) (L : LoopF) (G : Glo) (l0 : List Cell) (h0 : AHeap) :
    jacquardref16_reads.body C L G [(.agg l0)] h0 =
    atK l0 2 fun q_1 => asI .i64 (.c q_1) fun n_2 => scK (n_2 == 1) false (atK l0 2 fun q_3 => asI .i64 (.c q_3) fun n_4 => some ((n_4 == 4), h0)) true h0 fun b_5 h_6 => scK b_5 false (atK l0 2 fun q_7 => asI .i64 (.c q_7) fun n_8 => some ((n_8 == 5), h_6)) true h_6 fun b_9 h_10 => some ([(.c (.bool b_9))], h_10) := by kernel_rfl


end Jq

