/- YthnckbgdkljhfaaSleepTellsB: a part of the proof; no conditions of its own. -/
import Derived.KernelRfl
import Derived.Test.YthnckbgdkljhfaaRows
import Derived.WalkKit
import Derived.ProofKit
import Derived.OpenShut
import Derived.ShutString
import Derived.ChangeOld
import Derived.Below
import Derived.Carry
import Derived.Test.YthnckbgdkljhfaaSleepTellsA
set_option linter.unusedVariables false
set_option linter.unusedSimpArgs false

/- Relations: joining, meeting, putting behind one another, turning, cutting down, pairs. -/
namespace Jq
open Go

/-- The word of these numbers. -/
def mkN (p : Nat → Bool) : Nat := (List.range 64).foldl (fun a j => if p j then a ||| 2 ^ j else a) 0

theorem mkN_aux (p : Nat → Bool) : ∀ m, m ≤ 64 → ((List.range m).foldl (fun a j => if p j then a ||| 2 ^ j else a) 0) < 2 ^ 64 ∧ ∀ j, ((List.range m).foldl (fun a j => if p j then a ||| 2 ^ j else a) 0).testBit j = (decide (j < m) && p j)
  | 0, _ => ⟨by simp, fun j => by simp⟩
  | m + 1, hm => by
    obtain ⟨h1, h2⟩ := mkN_aux p m (by omega)
    rw [List.range_succ, List.foldl_append, List.foldl_cons, List.foldl_nil]
    have hp : 2 ^ m < 2 ^ 64 := Nat.pow_lt_pow_right (by omega) (by omega)
    by_cases hpm : p m = true
    · rw [if_pos hpm]
      refine ⟨or_lt h1 hp, fun j => ?_⟩
      rw [Nat.testBit_or, h2, Nat.testBit_two_pow]
      by_cases hj : j = m
      · subst hj; simp [hpm]
      · rw [show decide (m = j) = false by simp; omega, Bool.or_false]
        congr 1
        rw [Bool.eq_iff_iff]; simp; omega
    · rw [if_neg hpm]
      refine ⟨h1, fun j => ?_⟩
      rw [h2]
      by_cases hj : j = m
      · subst hj; simp [hpm]
      · congr 1
        rw [Bool.eq_iff_iff]; simp; omega

theorem mkN_lt (p : Nat → Bool) : mkN p < 2 ^ 64 := (mkN_aux p 64 (Nat.le_refl _)).1
theorem testBit_mkN (p : Nat → Bool) (j : Nat) : (mkN p).testBit j = (decide (j < 64) && p j) := (mkN_aux p 64 (Nat.le_refl _)).2 j

theorem words_mkN (p : Nat → Nat → Bool) : Words fun i => mkN (p i) := fun _ => mkN_lt _

theorem eq_of_bits {a b : Nat} (ha : a < 2 ^ 64) (hb : b < 2 ^ 64) (h : ∀ j, j < 64 → a.testBit j = b.testBit j) : a = b := by
  refine Nat.eq_of_testBit_eq fun j => ?_
  rcases Nat.lt_or_ge j 64 with hj | hj
  · exact h j hj
  · have h64 : 2 ^ 64 ≤ 2 ^ j := Nat.pow_le_pow_right (by omega) hj
    rw [Nat.testBit_lt_two_pow (Nat.lt_of_lt_of_le ha h64), Nat.testBit_lt_two_pow (Nat.lt_of_lt_of_le hb h64)]

theorem relL_ext {n m : Nat} {f g : Nat → Nat} (hn : n = m) (hf : Words f) (hg : Words g) (h : ∀ i j, i < 64 → j < 64 → (f i).testBit j = (g i).testBit j) : relL n f = relL m g := by
  subst hn
  exact relL_congr fun i hi => eq_of_bits (hf i) (hg i) fun j hj => h i j hi hj

/-- Rows told so far. -/
def upF (T : Nat → Nat) (i : Nat) : Nat → Nat := fun j => if j < i then T j else 0

theorem upF_succ (T : Nat → Nat) (i : Nat) : updF (upF T i) i (T i) = upF T (i + 1) := by
  funext j
  unfold updF upF
  by_cases h : j = i
  · subst h; rw [if_pos rfl, if_pos (by omega)]
  · rw [if_neg h]
    by_cases h2 : j < i
    · rw [if_pos h2, if_pos (by omega)]
    · rw [if_neg h2, if_neg (by omega)]

theorem upF_zero (T : Nat → Nat) : upF T 0 = fun _ => 0 := by funext j; unfold upF; rw [if_neg (by omega)]

theorem words_upF {T : Nat → Nat} (h : Words T) (i : Nat) : Words (upF T i) := fun j => by unfold upF; split; exact h j; omega

theorem all_bit (n j : Nat) : (2 ^ n - 1).testBit j = decide (j < n) := Nat.testBit_two_pow_sub_one _ _

theorem all_lt {n : Nat} (hn : n ≤ 64) : 2 ^ n - 1 < 2 ^ 64 := by
  have : 2 ^ n ≤ 2 ^ 64 := Nat.pow_le_pow_right (by omega) hn
  have := Nat.two_pow_pos n
  omega

variable {E : Env}

theorem upto_n (hE : set_Upto_In E) {n : Nat} (hn : n ≤ 64) (h : AHeap) : R E 61 [.c (.int .i64 n)] h = some ([.c (.int .u64 ((2 ^ n - 1 : Nat) : Int))], h) := by
  rw [Upto_R hE, Int.toNat_natCast, Nat.min_eq_left hn]

theorem min_nat (n m : Nat) : (if (m : Int) < (n : Int) then (m : Int) else (n : Int)) = ((min n m : Nat) : Int) := by split <;> omega

theorem clamp_nat {n : Nat} (hn : n ≤ 64) : clamp (n : Int) = n := by unfold clamp; omega

/-- Two, row by row, over the lesser. -/
theorem both_R (hE : rel_both_In E) {n m : Nat} (hn : n ≤ 64) (hm : m ≤ 64) {f g : Nat → Nat} (hf : Words f) (hg : Words g) (k : Nat) (op : Nat → Nat → Nat) (hop : ∀ a b, a < 2 ^ 64 → b < 2 ^ 64 → op a b < 2 ^ 64 ∧ ∀ h, R E k [.c (.int .u64 (a : Nat)), .c (.int .u64 (b : Nat))] h = some ([.c (.int .u64 ((op a b : Nat) : Int))], h)) (h : AHeap) :
    R E 73 [.agg (relL n f), .agg (relL m g), .c (.fn k [])] h = some ([.agg (relL (min n m) (upF (fun i => op (f i) (g i) &&& (2 ^ min n m - 1)) (min n m)))], h) := by
  refine R_intro hE.fn ?_
  have hmn : min n m ≤ 64 := by omega
  rw [rel_both_eq, atK_ok (relL_zero _ _), asI_ok, atK_ok (relL_zero _ _), asI_ok, min_nat, New_R hE.c9, c1_ok, asA_ok, clamp_nat hmn]
  generalize min n m = r at hmn
  rw [if_pos ⟨rfl, zero_len, relL_len _ _⟩, atK_ok (relL_zero _ _), asI_ok]
  have loop : Lim (rel_both_F1 (R E) Lim E.glob) (rel_both_s1 (.fn k []) r ((0 : Nat) : Int) (relL n f) (relL m g) zeroL (relL r (upF (fun i => op (f i) (g i) &&& (2 ^ r - 1)) 0)) h) = some (.exit 0, rel_both_x1_1 zeroL (relL r (upF (fun i => op (f i) (g i) &&& (2 ^ r - 1)) r)) h) := by
    refine Lim_count (fun i => rel_both_s1 (.fn k []) r (i : Int) (relL n f) (relL m g) zeroL (relL r (upF (fun i => op (f i) (g i) &&& (2 ^ r - 1)) i)) h) 0 r (by omega) (fun i _ hi => ?_) (Lim_exit ?_)
    · have q1 : 0 ≤ (i : Int) ∧ (i : Int) < ((64 : Nat) : Int) := by omega
      obtain ⟨o1, o2⟩ := hop (f i) (g i) (hf i) (hg i)
      rw [rel_both_r1, if_pos (by simp; omega), if_pos q1, Int.toNat_natCast, Nat.mul_one, atK_ok (relL_row (by omega)), asI_ok, if_pos q1, atK_ok (relL_row (by omega)), asI_ok]
      rw [fnK_ok, List.append_nil, o2, qh_ok, c1_ok, asI_ok, atK_ok (relL_zero _ _), asI_ok, upto_n hE.c61 hmn, qh_ok, c1_ok, asI_ok, if_pos q1, g_band o1 (all_lt hmn), relL_set, if_pos (by rw [relL_len]; omega), g_succ (by omega), upF_succ (fun i => op (f i) (g i) &&& (2 ^ r - 1))]
    · rw [rel_both_r1, if_neg (by simp)]
  rw [upF_zero] at loop
  rw [show rel_both_s1 (.fn k []) r 0 (relL n f) (relL m g) ([Cell.int .i64 0] ++ List.replicate 64 (Cell.int .u64 0)) (relL r fun _ => 0) h = rel_both_s1 (.fn k []) r ((0 : Nat) : Int) (relL n f) (relL m g) zeroL (relL r fun _ => 0) h from rfl, loop, bind_ok, rel_both_e1_1]
  simp only [relL_len, zeroL, zero_len, and_self, if_true]

/-- A relation by what it has. -/
def relM (n : Nat) (p : Nat → Nat → Bool) : List Cell := relL n fun i => mkN (p i)

theorem words_relM (p : Nat → Nat → Bool) : Words fun i => mkN (p i) := fun _ => mkN_lt _

theorem both_M {n : Nat} (hn : n ≤ 64) {f g : Nat → Nat} (hf : Words f) (hg : Words g) (op : Nat → Nat → Nat) (b : Bool → Bool → Bool) (hop : ∀ x y, x < 2 ^ 64 → y < 2 ^ 64 → op x y < 2 ^ 64) (hb : ∀ x y j, (op x y).testBit j = b (x.testBit j) (y.testBit j)) :
    relL n (upF (fun i => op (f i) (g i) &&& (2 ^ n - 1)) n) = relM n fun i j => decide (i < n) && decide (j < n) && b ((f i).testBit j) ((g i).testBit j) := by
  refine relL_ext rfl (words_upF (fun i => and_lt (hop _ _ (hf i) (hg i))) n) (words_mkN _) fun i j hi hj => ?_
  rw [testBit_mkN]
  unfold upF
  by_cases hin : i < n
  · rw [if_pos hin, Nat.testBit_and, hb, all_bit]
    simp [hin, hj, Bool.and_comm]
  · rw [if_neg hin, Nat.zero_testBit]; simp [hin]

theorem Union_R (hE : rel_Rel_Union_In E) {n m : Nat} (hn : n ≤ 64) (hm : m ≤ 64) {f g : Nat → Nat} (hf : Words f) (hg : Words g) (h : AHeap) :
    R E 59 [.agg (relL n f), .agg (relL m g)] h = some ([.agg (relM (min n m) fun i j => decide (i < min n m) && decide (j < min n m) && ((f i).testBit j || (g i).testBit j))], h) := by
  refine R_intro hE.fn ?_
  rw [rel_Rel_Union_eq, if_pos ⟨rfl, relL_len _ _⟩, if_pos ⟨rfl, relL_len _ _⟩, both_R hE.c73 hn hm hf hg 72 (fun a b => a ||| b) (fun a b ha hb => ⟨or_lt ha hb, fun h => R_intro hE.c72.fn (by rw [rel_Rel_Union_1_eq, g_bor ha hb])⟩), c1_ok, asA_ok]
  simp only [relL_len, zero_len, and_self, if_true]
  rw [both_M (by omega) hf hg (fun a b => a ||| b) (· || ·) (fun _ _ => or_lt) fun x y j => Nat.testBit_or ..]

theorem Minus_R (hE : rel_Rel_Minus_In E) {n m : Nat} (hn : n ≤ 64) (hm : m ≤ 64) {f g : Nat → Nat} (hf : Words f) (hg : Words g) (h : AHeap) :
    R E 68 [.agg (relL n f), .agg (relL m g)] h = some ([.agg (relM (min n m) fun i j => decide (i < min n m) && decide (j < min n m) && ((f i).testBit j && !(g i).testBit j))], h) := by
  refine R_intro hE.fn ?_
  rw [rel_Rel_Minus_eq, if_pos ⟨rfl, relL_len _ _⟩, if_pos ⟨rfl, relL_len _ _⟩, both_R hE.c73 hn hm hf hg 75 ndiff (fun a b ha hb => ⟨ndiff_lt ha, fun h => R_intro hE.c75.fn (by rw [rel_Rel_Minus_1_eq, g_bandNot ha hb])⟩), c1_ok, asA_ok]
  simp only [relL_len, zero_len, and_self, if_true]
  rw [both_M (by omega) hf hg ndiff (fun a b => a && !b) (fun _ _ h _ => ndiff_lt h) fun x y j => testBit_ndiff x y j]

theorem Meet_R (hE : rel_Rel_Meet_In E) {n m : Nat} (hn : n ≤ 64) (hm : m ≤ 64) {f g : Nat → Nat} (hf : Words f) (hg : Words g) (h : AHeap) :
    R E 67 [.agg (relL n f), .agg (relL m g)] h = some ([.agg (relM (min n m) fun i j => decide (i < min n m) && decide (j < min n m) && ((f i).testBit j && (g i).testBit j))], h) := by
  refine R_intro hE.fn ?_
  rw [rel_Rel_Meet_eq, if_pos ⟨rfl, relL_len _ _⟩, if_pos ⟨rfl, relL_len _ _⟩, both_R hE.c73 hn hm hf hg 74 (fun a b => a &&& b) (fun a b ha hb => ⟨and_lt ha, fun h => R_intro hE.c74.fn (by rw [rel_Rel_Meet_1_eq, g_band ha hb])⟩), c1_ok, asA_ok]
  simp only [relL_len, zero_len, and_self, if_true]
  rw [both_M (by omega) hf hg (fun a b => a &&& b) (· && ·) (fun _ _ h _ => and_lt h) fun x y j => Nat.testBit_and ..]

/- Putting behind one another. -/
def orL (T : Nat → Nat) (l : List Nat) : Nat := l.foldl (fun a k => a ||| T k) 0

theorem orL_snoc (T : Nat → Nat) (l : List Nat) (k : Nat) : orL T (l ++ [k]) = orL T l ||| T k := by unfold orL; rw [List.foldl_append]; rfl

theorem orL_lt {T : Nat → Nat} (hT : Words T) (l : List Nat) : orL T l < 2 ^ 64 := by
  have : ∀ (l : List Nat) (s : Nat), s < 2 ^ 64 → l.foldl (fun a k => a ||| T k) s < 2 ^ 64 := by
    intro l
    induction l with
    | nil => exact fun s h => h
    | cons k l ih => exact fun s h => ih _ (or_lt h (hT k))
  exact this l 0 (by omega)

theorem orL_bit (T : Nat → Nat) (l : List Nat) (j : Nat) : (orL T l).testBit j = l.any fun k => (T k).testBit j := by
  have : ∀ (l : List Nat) (s : Nat), (l.foldl (fun a k => a ||| T k) s).testBit j = (s.testBit j || l.any fun k => (T k).testBit j) := by
    intro l
    induction l with
    | nil => intro s; simp
    | cons k l ih => intro s; rw [List.foldl_cons, ih, Nat.testBit_or, List.any_cons, Bool.or_assoc]
  have h := this l 0
  rw [Nat.zero_testBit, Bool.false_or] at h
  exact h

/-- A loop over a word's numbers: from the least on. -/
theorem Lim_bits {F : St → Option (Ex × St)} (g : Nat → List Nat → St) {s : Nat} (hs : s < 2 ^ 64) (hstep : ∀ a done, a < 2 ^ 64 → a ≠ 0 → done ++ bitsL a = bitsL s → Lib.ctz 64 a < 64 → s.testBit (Lib.ctz 64 a) = true → F (g a done) = some (.normal, g (a &&& (a - 1)) (done ++ [Lib.ctz 64 a])))
    {p : Ex × St} (hend : Lim F (g 0 (bitsL s)) = some p) : Lim F (g s []) = some p := by
  have : ∀ k a done, a ≤ k → a < 2 ^ 64 → done ++ bitsL a = bitsL s → Lim F (g a done) = some p := by
    intro k
    induction k with
    | zero =>
      intro a done hak _ hd
      have h0 : a = 0 := by omega
      subst h0
      rw [bitsL_zero, List.append_nil] at hd
      rw [hd]; exact hend
    | succ k ih =>
      intro a done hak ha hd
      by_cases h0 : a = 0
      · subst h0
        rw [bitsL_zero, List.append_nil] at hd
        rw [hd]; exact hend
      · have hc := bitsL_cons ha h0
        have hmem : Lib.ctz 64 a ∈ bitsL s := by rw [← hd, hc]; simp
        obtain ⟨m1, m2⟩ := mem_bitsL.1 hmem
        refine Lim_next (hstep a done ha h0 hd m1 m2) (ih _ _ ?_ (and_lt ha) ?_)
        · have := and_pred_lt h0; omega
        · rw [List.append_assoc, List.singleton_append, ← hc, hd]
  exact this s s [] (Nat.le_refl _) hs rfl

theorem pred_wrap {a : Nat} (ha : a < 2 ^ 64) (h0 : a ≠ 0) : E.glob.band .u64 (a : Int) (E.glob.wrap .u64 ((a : Int) - 1)) = ((a &&& (a - 1) : Nat) : Int) := by
  rw [show E.glob.wrap .u64 ((a : Int) - 1) = ((a - 1 : Nat) : Int) by rw [g_wrap_u64 (by omega) (by omega)]; omega, g_band ha (by omega)]

theorem ne_zero {a : Nat} (h0 : a ≠ 0) : ((a : Int) != 0) = true := by rw [bne_iff_ne]; omega

def thenF (n : Nat) (f g : Nat → Nat) (i : Nat) : Nat := orL (fun k => g k &&& (2 ^ n - 1)) (bitsL (f i &&& (2 ^ n - 1)))

theorem Then_R (hE : rel_Rel_Then_In E) (ht : TabOk E) {n m : Nat} (hn : n ≤ 64) (hm : m ≤ 64) {f g : Nat → Nat} (hf : Words f) (hg : Words g) (h : AHeap) :
    R E 58 [.agg (relL n f), .agg (relL m g)] h = some ([.agg (relM (min n m) fun i j => decide (i < min n m) && decide (j < min n m) && (List.range (min n m)).any fun k => (f i).testBit k && (g k).testBit j)], h) := by
  refine R_intro hE.fn ?_
  have hmn : min n m ≤ 64 := by omega
  rw [rel_Rel_Then_eq, atK_ok (relL_zero _ _), asI_ok, atK_ok (relL_zero _ _), asI_ok, min_nat, New_R hE.c9, c1_ok, asA_ok, clamp_nat hmn]
  generalize min n m = r at hmn
  have hal := all_lt hmn
  have hT : Words fun k => g k &&& (2 ^ r - 1) := fun k => and_lt (hg k)
  have hW : Words (thenF r f g) := fun i => orL_lt hT _
  rw [if_pos ⟨rfl, zero_len, relL_len _ _⟩, atK_ok (relL_zero _ _), asI_ok, upto_n hE.c61 hmn, c1_ok, asI_ok, atK_ok (relL_zero _ _), asI_ok]
  have loop : Lim (rel_Rel_Then_F2 (R E) Lim E.glob) (rel_Rel_Then_s2 ((2 ^ r - 1 : Nat) : Int) r ((0 : Nat) : Int) (relL n f) (relL m g) zeroL (relL r (upF (thenF r f g) 0)) h) = some (.exit 0, rel_Rel_Then_x2_1 zeroL (relL r (upF (thenF r f g) r)) h) := by
    refine Lim_count (fun i => rel_Rel_Then_s2 ((2 ^ r - 1 : Nat) : Int) r (i : Int) (relL n f) (relL m g) zeroL (relL r (upF (thenF r f g) i)) h) 0 r (by omega) (fun i _ hi => ?_) (Lim_exit ?_)
    · have q1 : 0 ≤ (i : Int) ∧ (i : Int) < ((64 : Nat) : Int) := by omega
      rw [rel_Rel_Then_r2, if_pos (by simp; omega), if_pos q1, Int.toNat_natCast, Nat.mul_one, atK_ok (relL_row (by omega)), asI_ok, g_band (hf i) hal]
      have hs : f i &&& (2 ^ r - 1) < 2 ^ 64 := and_lt (hf i)
      have inner := Lim_bits (F := rel_Rel_Then_F1 (R E) Lim E.glob) (fun a done => rel_Rel_Then_s1 ((2 ^ r - 1 : Nat) : Int) i (a : Nat) r i (relL n f) (relL m g) zeroL (relL r (updF (upF (thenF r f g) i) i (orL (fun k => g k &&& (2 ^ r - 1)) done))) h) hs (fun a done ha h0 hd hc hb => by
        have q2 : 0 ≤ ((Lib.ctz 64 a : Nat) : Int) ∧ ((Lib.ctz 64 a : Nat) : Int) < ((64 : Nat) : Int) := by omega
        have hcell : (relL r (updF (upF (thenF r f g) i) i (orL (fun k => g k &&& (2 ^ r - 1)) done)))[1 + i]? = some (.int .u64 ((orL (fun k => g k &&& (2 ^ r - 1)) done : Nat) : Int)) := by
          rw [relL_row (by omega)]; unfold updF; rw [if_pos rfl]
        have hupd : updF (updF (upF (thenF r f g) i) i (orL (fun k => g k &&& (2 ^ r - 1)) done)) i (orL (fun k => g k &&& (2 ^ r - 1)) (done ++ [Lib.ctz 64 a])) = updF (upF (thenF r f g) i) i (orL (fun k => g k &&& (2 ^ r - 1)) (done ++ [Lib.ctz 64 a])) := by
          funext j; unfold updF; split <;> rfl
        rw [rel_Rel_Then_r1, if_pos (ne_zero h0), if_pos q1, Int.toNat_natCast, Nat.mul_one, atK_ok hcell, asI_ok, First_R hE.c38 ht ha, qh_ok, c1_ok, asI_ok]
        unfold firstI
        rw [if_neg h0, if_pos q2, Int.toNat_natCast, Nat.mul_one, atK_ok (relL_row hc), asI_ok, if_pos q1, if_pos (by rw [relL_len]; omega), g_band (hg _) hal, g_bor (orL_lt hT _) (hT (Lib.ctz 64 a)), pred_wrap ha h0, relL_set, ← orL_snoc (fun k => g k &&& (2 ^ r - 1)), hupd])
        (p := (.exit 2, rel_Rel_Then_x1_3 ((2 ^ r - 1 : Nat) : Int) r i (relL n f) (relL m g) zeroL (relL r (upF (thenF r f g) (i + 1))) h)) (Lim_exit (by
          rw [rel_Rel_Then_r1, if_neg (by simp), ← upF_succ]; rfl))
      have hz : updF (upF (thenF r f g) i) i (orL (fun k => g k &&& (2 ^ r - 1)) []) = upF (thenF r f g) i := by
        funext j; unfold updF upF orL
        by_cases hj : j = i
        · rw [if_pos hj, if_neg (by omega)]; rfl
        · rw [if_neg hj]
      rw [hz] at inner
      rw [inner, bind_ok, rel_Rel_Then_e1_3, g_succ (by omega)]
    · rw [rel_Rel_Then_r2, if_neg (by simp)]
  rw [upF_zero] at loop
  rw [show rel_Rel_Then_s2 ((2 ^ r - 1 : Nat) : Int) r 0 (relL n f) (relL m g) ([Cell.int .i64 0] ++ List.replicate 64 (Cell.int .u64 0)) (relL r fun _ => 0) h = rel_Rel_Then_s2 ((2 ^ r - 1 : Nat) : Int) r ((0 : Nat) : Int) (relL n f) (relL m g) zeroL (relL r fun _ => 0) h from rfl, loop, bind_ok, rel_Rel_Then_e2_1]
  simp only [relL_len, zeroL, zero_len, and_self, if_true]
  congr 4
  refine relL_ext rfl (words_upF hW r) (words_mkN _) fun i j hi hj => ?_
  rw [testBit_mkN]
  unfold upF
  by_cases hin : i < r
  · rw [if_pos hin, thenF, orL_bit, Bool.eq_iff_iff]
    simp only [List.any_eq_true, mem_bitsL, Nat.testBit_and, all_bit, Bool.and_eq_true, decide_eq_true_eq, List.mem_range]
    constructor
    · rintro ⟨k, ⟨_, hk1, hk2⟩, hk3, hk4⟩; exact ⟨hj, ⟨hin, hk4⟩, k, hk2, hk1, hk3⟩
    · rintro ⟨_, ⟨_, h4⟩, k, hk2, hk1, hk3⟩; exact ⟨k, ⟨by omega, hk1, hk2⟩, hk3, h4⟩
  · rw [if_neg hin, Nat.zero_testBit]; simp [hin]

/- Turning about. -/
/-- What has been turned: all of the rows below i, of row i what is done. -/
def invP (f : Nat → Nat) (i : Nat) (done : List Nat) : Nat → Nat := fun k => mkN fun j => (decide (j < i) && (f j).testBit k) || (decide (j = i) && decide (k ∈ done))

theorem invP_lt (f : Nat → Nat) (i : Nat) (done : List Nat) : Words (invP f i done) := fun _ => mkN_lt _

theorem bitI_nat {n : Nat} (hn : n < 64) : bitI (n : Int) = 2 ^ n := by unfold bitI; rw [if_pos (by omega)]; simp

theorem Inverse_R (hE : rel_Rel_Inverse_In E) (ht : TabOk E) {n : Nat} (hn : n ≤ 64) {f : Nat → Nat} (hf : Words f) (h : AHeap) :
    R E 40 [.agg (relL n f)] h = some ([.agg (relM n fun i j => decide (j < n) && (f j).testBit i)], h) := by
  refine R_intro hE.fn ?_
  rw [rel_Rel_Inverse_eq, atK_ok (relL_zero _ _), asI_ok, New_R hE.c9, c1_ok, asA_ok, clamp_nat hn, if_pos ⟨rfl, zero_len, relL_len _ _⟩, atK_ok (relL_zero _ _), asI_ok]
  have loop : Lim (rel_Rel_Inverse_F2 (R E) Lim E.glob) (rel_Rel_Inverse_s2 n ((0 : Nat) : Int) (relL n f) zeroL (relL n (invP f 0 [])) h) = some (.exit 0, rel_Rel_Inverse_x2_1 zeroL (relL n (invP f n [])) h) := by
    refine Lim_count (fun i => rel_Rel_Inverse_s2 n (i : Int) (relL n f) zeroL (relL n (invP f i [])) h) 0 n (by omega) (fun i _ hi => ?_) (Lim_exit ?_)
    · have q1 : 0 ≤ (i : Int) ∧ (i : Int) < ((64 : Nat) : Int) := by omega
      rw [rel_Rel_Inverse_r2, if_pos (by simp; omega), if_pos q1, Int.toNat_natCast, Nat.mul_one, atK_ok (relL_row (by omega)), asI_ok]
      have inner := Lim_bits (F := rel_Rel_Inverse_F1 (R E) Lim E.glob) (fun a done => rel_Rel_Inverse_s1 i (a : Nat) n i (relL n f) zeroL (relL n (invP f i done)) h) (hf i) (fun a done ha h0 hd hc hb => by
        have q2 : 0 ≤ ((Lib.ctz 64 a : Nat) : Int) ∧ ((Lib.ctz 64 a : Nat) : Int) < ((64 : Nat) : Int) := by omega
        have hF : firstI a = ((Lib.ctz 64 a : Nat) : Int) := by unfold firstI; rw [if_neg h0]
        have hupd : relL n (updF (invP f i done) (Lib.ctz 64 a) (invP f i done (Lib.ctz 64 a) ||| bitI (i : Int))) = relL n (invP f i (done ++ [Lib.ctz 64 a])) := by
          refine relL_ext rfl (words_upd (invP_lt f i done) (or_lt (invP_lt f i done _) (bitI_lt _))) (invP_lt f i _) fun k j hk hj => ?_
          unfold updF
          by_cases hkc : k = Lib.ctz 64 a
          · rw [if_pos hkc, Nat.testBit_or, testBit_bitI]
            unfold invP
            rw [testBit_mkN, testBit_mkN, Bool.eq_iff_iff]
            simp only [Bool.or_eq_true, Bool.and_eq_true, decide_eq_true_eq, List.mem_append, List.mem_singleton, hj, true_and, hkc, or_true, and_true]
            constructor
            · rintro ((h1 | ⟨h1, _⟩) | h1)
              · exact .inl h1
              · exact .inr h1
              · exact .inr (by omega)
            · rintro (h1 | h1)
              · exact .inl (.inl h1)
              · exact .inr (by omega)
          · rw [if_neg hkc]
            unfold invP
            rw [testBit_mkN, testBit_mkN]
            simp [hkc]
        rw [rel_Rel_Inverse_r1, if_pos (ne_zero h0), First_R hE.c38 ht ha, c1_ok, asI_ok, First_R hE.c38 ht ha, c1_ok, asI_ok, hF, if_pos q2, Int.toNat_natCast, Nat.mul_one, atK_ok (relL_row hc), asI_ok, With_R hE.c18 (invP_lt f i done _), c1_ok, asI_ok, if_pos q2, if_pos (by rw [relL_len]; omega), pred_wrap ha h0, relL_set, hupd])
        (p := (.exit 2, rel_Rel_Inverse_x1_3 n i (relL n f) zeroL (relL n (invP f (i + 1) [])) h)) (Lim_exit (by
          have hnext : relL n (invP f i (bitsL (f i))) = relL n (invP f (i + 1) []) := by
            refine relL_ext rfl (invP_lt f i _) (invP_lt f (i + 1) _) fun k j hk hj => ?_
            unfold invP
            rw [testBit_mkN, testBit_mkN, Bool.eq_iff_iff]
            simp only [Bool.or_eq_true, Bool.and_eq_true, decide_eq_true_eq, hj, true_and, mem_bitsL, hk, List.not_mem_nil, and_false, or_false]
            constructor
            · rintro (⟨h1, h2⟩ | ⟨h1, h2⟩)
              · exact ⟨by omega, h2⟩
              · subst h1; exact ⟨by omega, h2⟩
            · rintro ⟨h1, h2⟩
              by_cases hji : j = i
              · subst hji; exact .inr ⟨rfl, h2⟩
              · exact .inl ⟨by omega, h2⟩
          rw [rel_Rel_Inverse_r1, if_neg (by simp), hnext]))
      rw [inner, bind_ok, rel_Rel_Inverse_e1_3, g_succ (by omega)]
    · rw [rel_Rel_Inverse_r2, if_neg (by simp)]
  have h00 : relL n (invP f 0 []) = relL n fun _ => 0 := by
    refine relL_ext rfl (invP_lt f 0 _) words_zero fun k j hk hj => ?_
    unfold invP
    rw [testBit_mkN]; simp
  rw [h00] at loop
  rw [show rel_Rel_Inverse_s2 n 0 (relL n f) ([Cell.int .i64 0] ++ List.replicate 64 (Cell.int .u64 0)) (relL n fun _ => 0) h = rel_Rel_Inverse_s2 n ((0 : Nat) : Int) (relL n f) zeroL (relL n fun _ => 0) h from rfl, loop, bind_ok, rel_Rel_Inverse_e2_1]
  simp only [relL_len, zeroL, zero_len, and_self, if_true]
  congr 4
  refine relL_ext rfl (invP_lt f n _) (words_mkN _) fun i j hi hj => ?_
  unfold invP
  rw [testBit_mkN, testBit_mkN]; simp

/- Cutting down. -/
theorem Keep_R (hE : rel_Rel_Keep_In E) {n : Nat} (hn : n ≤ 64) {f : Nat → Nat} (hf : Words f) {s : Nat} (hs : s < 2 ^ 64) (h : AHeap) :
    R E 66 [.agg (relL n f), .c (.int .u64 s)] h = some ([.agg (relM n fun i j => decide (i < n) && s.testBit i && ((f i).testBit j && s.testBit j))], h) := by
  refine R_intro hE.fn ?_
  rw [rel_Rel_Keep_eq, atK_ok (relL_zero _ _), asI_ok, New_R hE.c9, c1_ok, asA_ok, clamp_nat hn, if_pos ⟨rfl, zero_len, relL_len _ _⟩, atK_ok (relL_zero _ _), asI_ok]
  have hT : Words fun i => if s.testBit i then f i &&& s else 0 := fun i => by
    show (if s.testBit i = true then f i &&& s else 0) < 2 ^ 64
    split
    · exact and_lt (hf i)
    · omega
  have loop : Lim (rel_Rel_Keep_F1 (R E) Lim E.glob) (rel_Rel_Keep_s1 s n ((0 : Nat) : Int) (relL n f) zeroL (relL n (upF (fun i => if s.testBit i then f i &&& s else 0) 0)) h) = some (.exit 0, rel_Rel_Keep_x1_1 zeroL (relL n (upF (fun i => if s.testBit i then f i &&& s else 0) n)) h) := by
    refine Lim_count (fun i => rel_Rel_Keep_s1 s n (i : Int) (relL n f) zeroL (relL n (upF (fun i => if s.testBit i then f i &&& s else 0) i)) h) 0 n (by omega) (fun i _ hi => ?_) (Lim_exit ?_)
    · have q1 : 0 ≤ (i : Int) ∧ (i : Int) < ((64 : Nat) : Int) := by omega
      rw [rel_Rel_Keep_r1, if_pos (by simp; omega), Has_R hE.c17 hs, c1_ok, asB_ok, hasI_nat (by omega), ← upF_succ]
      cases hb : s.testBit i with
      | true =>
        simp only [if_true]
        rw [if_pos q1, Int.toNat_natCast, Nat.mul_one, atK_ok (relL_row (by omega)), asI_ok, if_pos q1, if_pos (by rw [relL_len]; omega), g_band (hf i) hs, relL_set, g_succ (by omega)]
      | false =>
        simp only [Bool.false_eq_true, if_false]
        rw [g_succ (by omega)]
        have : updF (upF (fun i => if s.testBit i = true then f i &&& s else 0) i) i 0 = upF (fun i => if s.testBit i = true then f i &&& s else 0) i := by
          funext j; unfold updF upF
          by_cases hj : j = i
          · rw [if_pos hj, if_neg (by omega)]
          · rw [if_neg hj]
        rw [this]
    · rw [rel_Rel_Keep_r1, if_neg (by simp)]
  rw [upF_zero] at loop
  rw [show rel_Rel_Keep_s1 s n 0 (relL n f) ([Cell.int .i64 0] ++ List.replicate 64 (Cell.int .u64 0)) (relL n fun _ => 0) h = rel_Rel_Keep_s1 s n ((0 : Nat) : Int) (relL n f) zeroL (relL n fun _ => 0) h from rfl, loop, bind_ok, rel_Rel_Keep_e1_1]
  simp only [relL_len, zeroL, zero_len, and_self, if_true]
  congr 4
  refine relL_ext rfl (words_upF hT n) (words_mkN _) fun i j hi hj => ?_
  rw [testBit_mkN]
  unfold upF
  by_cases hin : i < n
  · rw [if_pos hin]
    cases hb : s.testBit i with
    | true => simp [hin, hj, hb, Nat.testBit_and]
    | false => simp [hb]
  · rw [if_neg hin, Nat.zero_testBit]; simp [hin]

end Jq

/- Relations over one number: by what they have. -/
namespace Jq
open Go

def TH (n : Nat) (f g : Nat → Nat) : Nat → Nat := fun i => mkN fun j => decide (i < n) && decide (j < n) && (List.range n).any fun k => (f i).testBit k && (g k).testBit j
def UNI (n : Nat) (f g : Nat → Nat) : Nat → Nat := fun i => mkN fun j => decide (i < n) && decide (j < n) && ((f i).testBit j || (g i).testBit j)
def MIN (n : Nat) (f g : Nat → Nat) : Nat → Nat := fun i => mkN fun j => decide (i < n) && decide (j < n) && ((f i).testBit j && !(g i).testBit j)
def MEE (n : Nat) (f g : Nat → Nat) : Nat → Nat := fun i => mkN fun j => decide (i < n) && decide (j < n) && ((f i).testBit j && (g i).testBit j)
def INV (n : Nat) (f : Nat → Nat) : Nat → Nat := fun i => mkN fun j => decide (j < n) && (f j).testBit i
def KEE (n : Nat) (f : Nat → Nat) (s : Nat) : Nat → Nat := fun i => mkN fun j => decide (i < n) && s.testBit i && ((f i).testBit j && s.testBit j)

theorem w_TH (n : Nat) (f g : Nat → Nat) : Words (TH n f g) := fun _ => mkN_lt _
theorem w_UNI (n : Nat) (f g : Nat → Nat) : Words (UNI n f g) := fun _ => mkN_lt _
theorem w_MIN (n : Nat) (f g : Nat → Nat) : Words (MIN n f g) := fun _ => mkN_lt _
theorem w_MEE (n : Nat) (f g : Nat → Nat) : Words (MEE n f g) := fun _ => mkN_lt _
theorem w_INV (n : Nat) (f : Nat → Nat) : Words (INV n f) := fun _ => mkN_lt _
theorem w_KEE (n : Nat) (f : Nat → Nat) (s : Nat) : Words (KEE n f s) := fun _ => mkN_lt _

/-- All pairs are over n. -/
def Fit (n : Nat) (f : Nat → Nat) : Prop := ∀ i j, (f i).testBit j = true → i < n ∧ j < n

theorem of_fit {n : Nat} (hn : n ≤ 64) (l : List (Int × Int)) : Fit n (ofR n l) := by
  intro a b hb
  obtain ⟨p, _, h1, h2, h3, h4⟩ := (of_bit hn l a b).1 hb
  have k1 : 0 ≤ p.1 ∧ p.1 < n := by simpa [inR] using h1
  have k2 : 0 ≤ p.2 ∧ p.2 < n := by simpa [inR] using h2
  omega

theorem b_TH {n : Nat} (hn : n ≤ 64) (f g : Nat → Nat) (i j : Nat) : (TH n f g i).testBit j = true ↔ i < n ∧ j < n ∧ ∃ k, k < n ∧ (f i).testBit k = true ∧ (g k).testBit j = true := by
  unfold TH
  rw [testBit_mkN]
  simp only [Bool.and_eq_true, decide_eq_true_eq, List.any_eq_true, List.mem_range]
  constructor
  · rintro ⟨_, ⟨h1, h2⟩, k, h3, h4, h5⟩; exact ⟨h1, h2, k, h3, h4, h5⟩
  · rintro ⟨h1, h2, k, h3, h4, h5⟩; exact ⟨by omega, ⟨h1, h2⟩, k, h3, h4, h5⟩
theorem b_UNI {n : Nat} (hn : n ≤ 64) (f g : Nat → Nat) (i j : Nat) : (UNI n f g i).testBit j = true ↔ i < n ∧ j < n ∧ ((f i).testBit j = true ∨ (g i).testBit j = true) := by
  unfold UNI
  rw [testBit_mkN]
  simp only [Bool.and_eq_true, decide_eq_true_eq, Bool.or_eq_true]
  constructor
  · rintro ⟨_, ⟨h1, h2⟩, h⟩; exact ⟨h1, h2, h⟩
  · rintro ⟨h1, h2, h⟩; exact ⟨by omega, ⟨h1, h2⟩, h⟩
theorem b_MIN {n : Nat} (hn : n ≤ 64) (f g : Nat → Nat) (i j : Nat) : (MIN n f g i).testBit j = true ↔ i < n ∧ j < n ∧ (f i).testBit j = true ∧ ¬ (g i).testBit j = true := by
  unfold MIN
  rw [testBit_mkN]
  simp only [Bool.and_eq_true, decide_eq_true_eq, Bool.not_eq_true', Bool.not_eq_true]
  constructor
  · rintro ⟨_, ⟨h1, h2⟩, h⟩; exact ⟨h1, h2, h⟩
  · rintro ⟨h1, h2, h⟩; exact ⟨by omega, ⟨h1, h2⟩, h⟩
theorem b_MEE {n : Nat} (hn : n ≤ 64) (f g : Nat → Nat) (i j : Nat) : (MEE n f g i).testBit j = true ↔ i < n ∧ j < n ∧ (f i).testBit j = true ∧ (g i).testBit j = true := by
  unfold MEE
  rw [testBit_mkN]
  simp only [Bool.and_eq_true, decide_eq_true_eq]
  constructor
  · rintro ⟨_, ⟨h1, h2⟩, h⟩; exact ⟨h1, h2, h⟩
  · rintro ⟨h1, h2, h⟩; exact ⟨by omega, ⟨h1, h2⟩, h⟩
theorem b_INV {n : Nat} (hn : n ≤ 64) (f : Nat → Nat) (i j : Nat) : (INV n f i).testBit j = true ↔ j < n ∧ (f j).testBit i = true := by
  unfold INV
  rw [testBit_mkN]
  simp only [Bool.and_eq_true, decide_eq_true_eq]
  constructor
  · rintro ⟨_, h⟩; exact h
  · rintro h; exact ⟨by omega, h⟩
theorem b_KEE {n : Nat} {f : Nat → Nat} (s : Nat) (hs : s < 2 ^ 64) (i j : Nat) : (KEE n f s i).testBit j = true ↔ i < n ∧ s.testBit i = true ∧ (f i).testBit j = true ∧ s.testBit j = true := by
  unfold KEE
  rw [testBit_mkN]
  simp only [Bool.and_eq_true, decide_eq_true_eq]
  constructor
  · rintro ⟨_, ⟨h1, h2⟩, h⟩; exact ⟨h1, h2, h⟩
  · rintro ⟨h1, h2, h⟩
    refine ⟨?_, ⟨h1, h2⟩, h⟩
    rcases Nat.lt_or_ge j 64 with hj | hj
    · exact hj
    · have h64 : 2 ^ 64 ≤ 2 ^ j := Nat.pow_le_pow_right (by omega) hj
      rw [Nat.testBit_lt_two_pow (Nat.lt_of_lt_of_le hs h64)] at h; simp at h

theorem rel_eq {n : Nat} {f g : Nat → Nat} (hf : Words f) (hg : Words g) (h : ∀ i j, (f i).testBit j = true ↔ (g i).testBit j = true) : relL n f = relL n g :=
  relL_ext rfl hf hg fun i j _ _ => by rw [Bool.eq_iff_iff]; exact h i j

theorem alike_rel (n m : Nat) (f g : Nat → Nat) : alike (relL n f) (relL m g) = true := by
  unfold relL
  simp only [alike, alike1, decide_true, Bool.true_and]
  generalize List.range 64 = l
  induction l with
  | nil => rfl
  | cons a l ih => simp only [List.map_cons, alike, alike1, decide_true, Bool.true_and]; exact ih

variable {E : Env} {n : Nat}

theorem Union_S (hE : rel_Rel_Union_In E) (hn : n ≤ 64) {f g : Nat → Nat} (hf : Words f) (hg : Words g) (h : AHeap) : R E 59 [.agg (relL n f), .agg (relL n g)] h = some ([.agg (relL n (UNI n f g))], h) := by
  rw [Union_R hE hn hn hf hg, Nat.min_self]; rfl
theorem Minus_S (hE : rel_Rel_Minus_In E) (hn : n ≤ 64) {f g : Nat → Nat} (hf : Words f) (hg : Words g) (h : AHeap) : R E 68 [.agg (relL n f), .agg (relL n g)] h = some ([.agg (relL n (MIN n f g))], h) := by
  rw [Minus_R hE hn hn hf hg, Nat.min_self]; rfl
theorem Meet_S (hE : rel_Rel_Meet_In E) (hn : n ≤ 64) {f g : Nat → Nat} (hf : Words f) (hg : Words g) (h : AHeap) : R E 67 [.agg (relL n f), .agg (relL n g)] h = some ([.agg (relL n (MEE n f g))], h) := by
  rw [Meet_R hE hn hn hf hg, Nat.min_self]; rfl
theorem Then_S (hE : rel_Rel_Then_In E) (ht : TabOk E) (hn : n ≤ 64) {f g : Nat → Nat} (hf : Words f) (hg : Words g) (h : AHeap) : R E 58 [.agg (relL n f), .agg (relL n g)] h = some ([.agg (relL n (TH n f g))], h) := by
  rw [Then_R hE ht hn hn hf hg, Nat.min_self]; rfl
theorem Inverse_S (hE : rel_Rel_Inverse_In E) (ht : TabOk E) (hn : n ≤ 64) {f : Nat → Nat} (hf : Words f) (h : AHeap) : R E 40 [.agg (relL n f)] h = some ([.agg (relL n (INV n f))], h) := Inverse_R hE ht hn hf h
theorem Keep_S (hE : rel_Rel_Keep_In E) (hn : n ≤ 64) {f : Nat → Nat} (hf : Words f) {s : Nat} (hs : s < 2 ^ 64) (h : AHeap) : R E 66 [.agg (relL n f), .c (.int .u64 s)] h = some ([.agg (relL n (KEE n f s))], h) := Keep_R hE hn hf hs h

theorem HasS (hE : rel_Rel_Has_In E) (hn : n ≤ 64) {f : Nat → Nat} (hf : Words f) {a b : Nat} (ha : a < n) (hb : b < 64) (h : AHeap) : R E 3 [.agg (relL n f), .c (.int .i64 (a : Nat)), .c (.int .i64 (b : Nat))] h = some ([.c (.bool ((f a).testBit b))], h) := by
  rw [HasR_R hE hn hf]
  unfold hasR
  rw [inR_nat, Int.toNat_natCast, hasI_nat hb, show decide (a < n) = true by simp [ha], Bool.true_and]

/-- One more than what was made. -/
theorem mod_nat (a : Int) {n : Nat} (hn : 1 ≤ n) : ∃ m : Nat, m < n ∧ E.glob.rem .i64 (E.glob.band .i64 a 255) (n : Int) = (m : Int) := by
  have h1 := Int.emod_lt_of_pos (a % 256) (show (0 : Int) < n by omega)
  have h2 := Int.emod_nonneg (a % 256) (show (n : Int) ≠ 0 by omega)
  exact ⟨(a % 256 % n).toNat, by omega, by rw [g_band255, g_rem, Int.tmod_eq_emod_of_nonneg (show 0 ≤ a % 256 by omega), Int.toNat_of_nonneg h2]⟩

theorem RelThen_R (hE : jacquardlaw8_RelThen_In E) (ht : TabOk E) (a0 a4 a5 : Int) {x1 x2 x3 : Cell} {l1 l2 l3 : List (Int × Int)} {h : AHeap} (hx1 : SlAt h x1 2 (pairC l1) l1.length) (hl1 : Low h.length x1)
    (hx2 : SlAt h x2 2 (pairC l2) l2.length) (hl2 : Low h.length x2) (hx3 : SlAt h x3 2 (pairC l3) l3.length) (hl3 : Low h.length x3) :
    R E 241 [.c (.int .i64 a0), .c x1, .c x2, .c x3, .c (.int .i64 a4), .c (.int .i64 a5)] h = some ([.c (.bool true)], h) := by
  refine R_intro hE.fn ?_
  rw [jacquardlaw8_RelThen_eq]
  obtain ⟨n, hn1, hn2, hv⟩ : ∃ n : Nat, 1 ≤ n ∧ n ≤ 20 ∧ E.glob.wrap .i64 (E.glob.rem .i64 (E.glob.band .i64 a0 255) 20 + 1) = (n : Int) := by
    rw [g_band255, g_rem, Int.tmod_eq_emod_of_nonneg (by omega), g_wrap_i64 (by omega) (by omega)]
    exact ⟨(a0 % 256 % 20 + 1).toNat, by omega, by omega, by omega⟩
  have hn : n ≤ 64 := by omega
  obtain ⟨a, ha, hav⟩ := mod_nat (E := E) a4 hn1
  obtain ⟨b, hb, hbv⟩ := mod_nat (E := E) a5 hn1
  simp only [hv, hav, hbv]
  rw [if_neg (by omega), if_neg (by omega), Of_R hE.c1 (n : Int) hx1 hl1, c2_ok, asA_ok, asA_ok, clamp_nat hn]
  have hf := words_of n (l1.take 200)
  have hg := words_of n (l2.take 200)
  have hp := words_of n (l3.take 200)
  have ff := of_fit hn (l1.take 200)
  have fg := of_fit hn (l2.take 200)
  have fp := of_fit hn (l3.take 200)
  simp only [relL_len, zero_len, and_self, if_true]
  rw [Of_R hE.c1 (n : Int) hx2 hl2, c2_ok, asA_ok, asA_ok, clamp_nat hn]
  simp only [relL_len, and_self, if_true]
  rw [Of_R hE.c1 (n : Int) hx3 hl3, c2_ok, asA_ok, asA_ok, clamp_nat hn]
  simp only [relL_len, and_self, if_true]
  generalize ofR n (l1.take 200) = f at *
  generalize ofR n (l2.take 200) = g at *
  generalize ofR n (l3.take 200) = p at *
  have loop : Lim (jacquardlaw8_RelThen_F1 (R E) Lim E.glob) (jacquardlaw8_RelThen_s1 n a b ((List.range 0).any fun j => (f a).testBit j && (g j).testBit b) ((0 : Nat) : Int) (relL n f) (relL n g) (relL n p) h) = some (.exit 0, jacquardlaw8_RelThen_x1_1 a b ((List.range n).any fun j => (f a).testBit j && (g j).testBit b) (relL n f) (relL n g) (relL n p) h) := by
    refine Lim_count (fun i => jacquardlaw8_RelThen_s1 n a b ((List.range i).any fun j => (f a).testBit j && (g j).testBit b) (i : Int) (relL n f) (relL n g) (relL n p) h) 0 n (by omega) (fun i _ hi => ?_) (Lim_exit ?_)
    · rw [jacquardlaw8_RelThen_r1, if_pos (by simp; omega), if_pos ⟨rfl, relL_len _ _⟩, HasS hE.c3 hn hf ha (by omega), c1_ok, asB_ok, if_pos ⟨rfl, relL_len _ _⟩, HasS hE.c3 hn hg hi (by omega), c1_ok, asB_ok, scK_and, scK_or, g_succ (by omega), List.range_succ, List.any_append]
      simp
    · rw [jacquardlaw8_RelThen_r1, if_neg (by simp)]
  rw [show jacquardlaw8_RelThen_s1 n a b false 0 (relL n f) (relL n g) (relL n p) h = jacquardlaw8_RelThen_s1 n a b ((List.range 0).any fun j => (f a).testBit j && (g j).testBit b) ((0 : Nat) : Int) (relL n f) (relL n g) (relL n p) h from rfl, loop, bind_ok, jacquardlaw8_RelThen_e1_1]
  have w1 := w_TH n f g
  have w2 := w_TH n g p
  have w3 := w_UNI n f g
  have w4 := w_TH n f p
  have h1 : (TH n f g a).testBit b = (List.range n).any fun j => (f a).testBit j && (g j).testBit b := by
    rw [Bool.eq_iff_iff, b_TH hn]
    simp only [List.any_eq_true, List.mem_range, Bool.and_eq_true]
    constructor
    · rintro ⟨_, _, k, h1, h2⟩; exact ⟨k, h1, h2⟩
    · rintro ⟨k, h1, h2⟩; exact ⟨ha, hb, k, h1, h2⟩
  have h2 : relL n (TH n (TH n f g) p) = relL n (TH n f (TH n g p)) := by
    refine rel_eq (w_TH _ _ _) (w_TH _ _ _) fun i j => ?_
    simp only [b_TH hn]
    constructor
    · rintro ⟨q1, q2, k, q3, ⟨_, _, m, q4, q5, q6⟩, q7⟩; exact ⟨q1, q2, m, q4, q5, q4, q2, k, q3, q6, q7⟩
    · rintro ⟨q1, q2, m, q4, q5, _, _, k, q3, q6, q7⟩; exact ⟨q1, q2, k, q3, ⟨q1, q3, m, q4, q5, q6⟩, q7⟩
  have h3 : relL n (TH n (UNI n f g) p) = relL n (UNI n (TH n f p) (TH n g p)) := by
    refine rel_eq (w_TH _ _ _) (w_UNI _ _ _) fun i j => ?_
    simp only [b_TH hn, b_UNI hn]
    constructor
    · rintro ⟨q1, q2, k, q3, ⟨_, _, q4 | q4⟩, q5⟩
      · exact ⟨q1, q2, .inl ⟨q1, q2, k, q3, q4, q5⟩⟩
      · exact ⟨q1, q2, .inr ⟨q1, q2, k, q3, q4, q5⟩⟩
    · rintro ⟨q1, q2, ⟨_, _, k, q3, q4, q5⟩ | ⟨_, _, k, q3, q4, q5⟩⟩
      · exact ⟨q1, q2, k, q3, ⟨q1, q3, .inl q4⟩, q5⟩
      · exact ⟨q1, q2, k, q3, ⟨q1, q3, .inr q4⟩, q5⟩
  simp only [relL_len, and_self, if_true]
  have hb64 : b < 64 := by omega
  simp only [Then_S hE.c58 ht hn, Union_S hE.c59 hn, HasS hE.c3 hn w1 ha hb64, awake8_R hE.c55, hf, hg, hp, w_TH, w_UNI, qh_ok, c1_ok, asA_ok, asB_ok, bind_ok, scK_ok, zero_rel, alike_rel, h1, h2, h3, beq_self_eq_true, and_self, if_true, decide_true]

theorem RelThen_law (ht : TabOk E) (hE : jacquardlaw8_RelThen_In E) {h : AHeap} {c0 c1 c2 c3 c4 c5 : List Cell} (o0 : okC h (.i .i64) c0) (o1 : okC h (.sl shPair) c1) (o2 : okC h (.sl shPair) c2) (o3 : okC h (.sl shPair) c3) (o4 : okC h (.i .i64) c4) (o5 : okC h (.i .i64) c5) :
    ∃ h', R E 241 [av1 (.i .i64) c0, av1 (.sl shPair) c1, av1 (.sl shPair) c2, av1 (.sl shPair) c3, av1 (.i .i64) c4, av1 (.i .i64) c5] h = some ([.c (.bool true)], h') := by
  obtain ⟨a0, e0, _⟩ := arg_int o0
  obtain ⟨x1, l1, e1, hx1, hl1, _⟩ := arg_pairs o1
  obtain ⟨x2, l2, e2, hx2, hl2, _⟩ := arg_pairs o2
  obtain ⟨x3, l3, e3, hx3, hl3, _⟩ := arg_pairs o3
  obtain ⟨a4, e4, _⟩ := arg_int o4
  obtain ⟨a5, e5, _⟩ := arg_int o5
  rw [e0, e1, e2, e3, e4, e5]
  exact ⟨h, RelThen_R hE ht a0 a4 a5 hx1 hl1 hx2 hl2 hx3 hl3⟩

end Jq

/- A relation's pairs, told rising. -/
namespace Jq
open Go

/-- The pairs of one row. -/
def rowP (f : Nat → Nat) (i : Nat) : List (Int × Int) := (bitsL (f i)).map fun (k : Nat) => ((i : Int), (k : Int))

/-- All pairs. -/
def pairsP (n : Nat) (f : Nat → Nat) : List (Int × Int) := (List.range n).flatMap (rowP f)

theorem pairsP_succ (n : Nat) (f : Nat → Nat) : pairsP (n + 1) f = pairsP n f ++ rowP f n := by
  unfold pairsP; rw [List.range_succ, List.flatMap_append]; simp

theorem bits_len (s : Nat) : (bitsL s).length ≤ 64 := by unfold bitsL; exact Nat.le_trans (List.length_filter_le _ _) (by simp)

theorem pairsP_len (f : Nat → Nat) : ∀ n, (pairsP n f).length ≤ n * 64
  | 0 => by simp [pairsP]
  | n + 1 => by
    have := pairsP_len f n
    have := bits_len (f n)
    rw [pairsP_succ, List.length_append]
    simp only [rowP, List.length_map]; omega

theorem mem_pairsP {n : Nat} {f : Nat → Nat} {p : Int × Int} : p ∈ pairsP n f ↔ ∃ i k : Nat, i < n ∧ k < 64 ∧ (f i).testBit k = true ∧ p = ((i : Int), (k : Int)) := by
  unfold pairsP rowP
  simp only [List.mem_flatMap, List.mem_range, List.mem_map, mem_bitsL]
  constructor
  · rintro ⟨i, hi, k, ⟨hk, hb⟩, rfl⟩; exact ⟨i, k, hi, hk, hb, rfl⟩
  · rintro ⟨i, k, hi, hk, hb, rfl⟩; exact ⟨i, hi, k, ⟨hk, hb⟩, rfl⟩

theorem Own.keep {n : Nat} {h h' : AHeap} {x : Cell} {esz len : Nat} {cs : List Cell} (o : Own n h x esz cs len) (a : Kp h.length h h') : Own n h' x esz cs len := by
  refine ⟨o.1, o.2.imp id ?_⟩
  rintro ⟨k, rfl, hk, hb⟩
  exact ⟨k, rfl, hk, by rw [a.blk (blk_lt' hb)]; exact hb⟩

/-- Two rows lie apart. -/
def ApartB (x y : Cell) : Prop := ∀ k, isBlk y k → ¬ isBlk x k

theorem Own.keep_app {m : Nat} {h h' : AHeap} {x x' y : Cell} {esz len : Nat} {cs : List Cell} (o : Own m h y esz cs len) (ha : ApartB x y) (hk : ∀ j b, blk? h j = some b → ¬ isBlk x j → blk? h' j = some b ∧ ¬ isBlk x' j) : Own m h' y esz cs len ∧ ApartB x' y := by
  rcases o.2 with ⟨rfl, hz⟩ | ⟨k, rfl, hkm, hb⟩
  · exact ⟨⟨o.1, .inl ⟨rfl, hz⟩⟩, fun k hk => by cases hk⟩
  · obtain ⟨h1, h2⟩ := hk k _ hb (ha k rfl)
    refine ⟨⟨o.1, .inr ⟨k, rfl, hkm, h1⟩⟩, fun j hj => ?_⟩
    have : k = j := hj
    subst this; exact h2

theorem Own.apart {n m : Nat} {h : AHeap} {x y : Cell} {e1 e2 l1 l2 : Nat} {c1 c2 : List Cell} (o : Own n h x e1 c1 l1) (hm : h.length ≤ m) {h' : AHeap} (o2 : Own m h' y e2 c2 l2) : ApartB x y := by
  intro k hk hx
  rcases o.2 with ⟨rfl, _⟩ | ⟨k1, rfl, _, hb⟩
  · cases hx
  · rcases o2.2 with ⟨rfl, _⟩ | ⟨k2, rfl, hk2, _⟩
    · cases hk
    · have e1 : k1 = k := hx
      have e2 : k2 = k := hk
      have := blk_lt' hb
      omega

variable {E : Env}

theorem two_cells' (a b : Int) : splice [Cell.int .i64 0, Cell.int .i64 0] 0 (splice (splice [Cell.int .i64 0, Cell.int .i64 0] 0 [.int .i64 a]) 1 [.int .i64 b]) = [.int .i64 a, .int .i64 b] := rfl

theorem Pairs_R (hE : rel_Rel_Pairs_In E) (ht : TabOk E) {n : Nat} (hn : n ≤ 64) {f : Nat → Nat} (hf : Words f) (h : AHeap) :
    ∃ x h', R E 20 [.agg (relL n f)] h = some ([.c x], h') ∧ Own h.length h' x 2 (pairC (pairsP n f)) (pairsP n f).length ∧ Kp h.length h h' := by
  suffices hs' : ∃ x h', rel_Rel_Pairs.body (R E) Lim E.glob [.agg (relL n f)] h = some ([.c x], h') ∧ Own h.length h' x 2 (pairC (pairsP n f)) (pairsP n f).length ∧ Kp h.length h h' by
    obtain ⟨x, h', hh, hr⟩ := hs'; exact ⟨x, h', R_intro hE.fn hh, hr⟩
  obtain ⟨st, ⟨x, h', rfl, ho, hk⟩, hlim⟩ := Lim_inv (F := rel_Rel_Pairs_F2 (R E) Lim E.glob)
    (fun i st => ∃ x h', st = rel_Rel_Pairs_s2 x n (i : Int) (relL n f) h' ∧ Own h.length h' x 2 (pairC (pairsP i f)) (pairsP i f).length ∧ Kp h.length h h') 0 n (by omega)
    (fun i st _ hi hI => by
      obtain ⟨x, h1, rfl, ho, hk⟩ := hI
      have q1 : 0 ≤ (i : Int) ∧ (i : Int) < ((64 : Nat) : Int) := by omega
      obtain ⟨y, h2, hL, hoy, hky⟩ := List_R hE.c32 ht (hf i) h1
      have hpl := pairsP_len f i
      have hbl := bits_len (f i)
      have hnn : i * 64 ≤ 64 * 64 := Nat.mul_le_mul_right _ (by omega)
      obtain ⟨st2, ⟨x3, h3, rfl, ho3, hy3, hap3, hk3⟩, hlim2⟩ := Lim_inv (F := rel_Rel_Pairs_F1 (R E) Lim E.glob)
        (fun j st => ∃ x h', st = rel_Rel_Pairs_s1 x i n i y (bitsL (f i)).length (j : Int) (relL n f) h' ∧ Own h.length h' x 2 (pairC (pairsP i f ++ (rowP f i).take j)) (pairsP i f ++ (rowP f i).take j).length ∧ Own h1.length h' y 1 (natC (bitsL (f i))) (bitsL (f i)).length ∧ ApartB x y ∧ Kp h.length h h') 0 (bitsL (f i)).length (by omega)
        (fun j st _ hj hI => by
          obtain ⟨x, h', rfl, ho, hoy, hap, hk⟩ := hI
          obtain ⟨m, hm⟩ : ∃ m, (bitsL (f i))[j]? = some m := ⟨(bitsL (f i))[j], by simp⟩
          have hlen : (pairsP i f ++ (rowP f i).take j).length ≤ 64 * 64 + 64 := by
            rw [List.length_append, List.length_take]; omega
          obtain ⟨x', h'', ha, ho', hk', hfr⟩ := ho.app (xs := [.int .i64 (i : Int), .int .i64 (m : Int)]) (bytes := 16) hk.1 rfl (by omega) (by unfold maxBytes; omega) (by unfold maxBytes; omega)
          obtain ⟨hoy', hap'⟩ := hoy.keep_app hap hfr
          have htk : (rowP f i).take (j + 1) = (rowP f i).take j ++ [((i : Int), (m : Int))] := by
            rw [List.take_add_one]; unfold rowP; rw [List.getElem?_map, hm]; rfl
          refine ⟨rel_Rel_Pairs_s1 x' i n i y (bitsL (f i)).length ((j + 1 : Nat) : Int) (relL n f) h'', ?_, x', h'', rfl, ?_, hoy', hap', hk.trans hk'⟩
          · rw [rel_Rel_Pairs_r1, if_pos (by simp; omega), hoy.at.get1 hj (natC_get hm), asI_ok, if_pos ⟨rfl, by simp⟩, two_cells', if_pos (show (List.length [_, _] : Nat) = 1 * 2 from rfl), ha, g_succ (by omega)]
          · rw [htk, ← List.append_assoc, pairC_snoc, List.length_append]; exact ho')
        (st := rel_Rel_Pairs_s1 x i n i y (bitsL (f i)).length 0 (relL n f) h2)
        ⟨x, h2, rfl, by rw [List.take_zero, List.append_nil]; exact ho.keep hky, hoy, ho.apart (Nat.le_refl _) hoy, hk.trans (hky.mono hk.1)⟩
      have hend : rel_Rel_Pairs_F1 (R E) Lim E.glob (rel_Rel_Pairs_s1 x3 i n i y (bitsL (f i)).length ((bitsL (f i)).length : Nat) (relL n f) h3) = some (.exit 2, rel_Rel_Pairs_x1_3 x3 n i (relL n f) h3) := by
        rw [rel_Rel_Pairs_r1, if_neg (by simp)]
      have hrl : (rowP f i).take (bitsL (f i)).length = rowP f i := List.take_of_length_le (by unfold rowP; simp)
      rw [hrl, ← pairsP_succ] at ho3
      refine ⟨rel_Rel_Pairs_s2 x3 n ((i + 1 : Nat) : Int) (relL n f) h3, ?_, x3, h3, rfl, ho3, hk3⟩
      rw [rel_Rel_Pairs_r2, if_pos (by simp; omega), if_pos q1, Int.toNat_natCast, Nat.mul_one, atK_ok (relL_row (by omega)), asI_ok, hL, c1_ok, asC_ok, hoy.at.len, hlim2 _ (Lim_exit hend), bind_ok, rel_Rel_Pairs_e1_3, g_succ (by omega)])
    (st := rel_Rel_Pairs_s2 .nils n 0 (relL n f) h) ⟨.nils, h, rfl, by exact Own.nil _ _ _, Kp.refl _ _⟩
  have hend : rel_Rel_Pairs_F2 (R E) Lim E.glob (rel_Rel_Pairs_s2 x n (n : Int) (relL n f) h') = some (.exit 0, rel_Rel_Pairs_x2_1 x h') := by
    rw [rel_Rel_Pairs_r2, if_neg (by simp)]
  refine ⟨x, h', ?_, ho, hk⟩
  rw [rel_Rel_Pairs_eq, atK_ok (relL_zero _ _), asI_ok, hlim _ (Lim_exit hend), bind_ok, rel_Rel_Pairs_e2_1]

end Jq

/- RelPairs: the pairs are the ones had, in order, no more; the relation of its pairs is itself. -/
namespace Jq
open Go

/-- A row's pairs below j. -/
def rowU (f : Nat → Nat) (i j : Nat) : List (Int × Int) := ((List.range j).filter fun k => (f i).testBit k).map fun (k : Nat) => ((i : Int), (k : Int))

theorem rowU_succ (f : Nat → Nat) (i j : Nat) : rowU f i (j + 1) = rowU f i j ++ if (f i).testBit j then [((i : Int), (j : Int))] else [] := by
  unfold rowU
  rw [List.range_succ, List.filter_append, List.map_append]
  congr 1
  by_cases hb : (f i).testBit j = true
  · simp [hb]
  · simp [hb]

theorem rowU_pre (f : Nat → Nat) (i j : Nat) : ∀ d, rowU f i j <+: rowU f i (j + d)
  | 0 => List.prefix_refl _
  | d + 1 => (rowU_pre f i j d).trans (by rw [← Nat.add_assoc, rowU_succ]; exact List.prefix_append _ _)

theorem pairsP_pre (f : Nat → Nat) (i : Nat) : ∀ d, pairsP i f <+: pairsP (i + d) f
  | 0 => List.prefix_refl _
  | d + 1 => (pairsP_pre f i d).trans (by rw [← Nat.add_assoc, pairsP_succ]; exact List.prefix_append _ _)

theorem pairsP_at {n : Nat} {f : Nat → Nat} {i j : Nat} (hi : i < n) (hj : j < 64) (hb : (f i).testBit j = true) : (pairsP n f)[(pairsP i f ++ rowU f i j).length]? = some ((i : Int), (j : Int)) := by
  obtain ⟨t1, h1⟩ := pairsP_pre f (i + 1) (n - (i + 1))
  rw [show i + 1 + (n - (i + 1)) = n by omega] at h1
  obtain ⟨t2, h2⟩ := rowU_pre f i (j + 1) (64 - (j + 1))
  rw [show j + 1 + (64 - (j + 1)) = 64 by omega, rowU_succ, if_pos hb] at h2
  have h3 : rowP f i = rowU f i 64 := rfl
  rw [← h1, pairsP_succ, h3, ← h2]
  simp only [← List.append_assoc]
  rw [List.append_assoc, List.append_assoc, List.getElem?_append_right (Nat.le_refl _), Nat.sub_self]
  rfl

theorem rowU_fit {n : Nat} {f : Nat → Nat} (ff : Fit n f) (i : Nat) : ∀ d, rowU f i (n + d) = rowU f i n
  | 0 => rfl
  | d + 1 => by
    rw [← Nat.add_assoc, rowU_succ, rowU_fit ff i d, if_neg, List.append_nil]
    intro hb
    have := (ff _ _ hb).2
    omega

theorem rowU_all {n : Nat} (hn : n ≤ 64) {f : Nat → Nat} (ff : Fit n f) (i : Nat) : rowU f i n = rowP f i := by
  rw [← rowU_fit ff i (64 - n), show n + (64 - n) = 64 by omega]; rfl

theorem bit01 (x i : Nat) : x >>> i &&& 1 = if x.testBit i then 1 else 0 := by
  have : x.testBit i = (1 &&& (x >>> i) != 0) := rfl
  rw [this, Nat.and_comm, Nat.and_comm 1, Nat.and_one_is_mod]
  rcases Nat.mod_two_eq_zero_or_one (x >>> i) with h | h <;> simp [h]

section
variable {E : Env}
theorem shr_le (x i : Nat) : x >>> i ≤ x := by rw [Nat.shiftRight_eq_div_pow]; exact Nat.div_le_self _ _
theorem g_bitI {x i : Nat} (hx : x < 2 ^ 64) (hi : i ≤ 64) : E.glob.band .u64 (E.glob.shr .u64 (x : Int) (i : Int)) 1 = (((if x.testBit i then 1 else 0 : Nat)) : Int) := by
  rw [g_shr hi, show (1 : Int) = ((1 : Nat) : Int) from rfl, g_band (Nat.lt_of_le_of_lt (shr_le x i) hx) (by omega), bit01]
theorem g_bit1 {x i : Nat} (hx : x < 2 ^ 64) (hi : i ≤ 64) : (E.glob.band .u64 (E.glob.shr .u64 (x : Int) (i : Int)) 1 == 1) = x.testBit i := by
  rw [g_bitI hx hi]; cases x.testBit i <;> rfl
theorem g_bit0 {x i : Nat} (hx : x < 2 ^ 64) (hi : i ≤ 64) : (E.glob.band .u64 (E.glob.shr .u64 (x : Int) (i : Int)) 1 == 0) = !x.testBit i := by
  rw [g_bitI hx hi]; cases x.testBit i <;> rfl

theorem refHas_R (hE : jacquardref6_Rel_Has_In E) {n : Nat} {f : Nat → Nat} (hf : Words f) {a b : Nat} (ha : a < 64) (hb : b ≤ 64) {k : Nat} {o : Bool} {h : AHeap} (hk : blk? h k = some ⟨o, 0, relL n f⟩) :
    R E 7 [.c (.ptr k 65 0), .c (.int .i64 (a : Nat)), .c (.int .i64 (b : Nat))] h = some ([.c (.bool ((f a).testBit b))], h) := by
  refine R_intro hE.fn ?_
  have q1 : 0 ≤ (a : Int) ∧ (a : Int) < ((64 : Nat) : Int) := by omega
  rw [jacquardref6_Rel_Has_eq, if_pos q1, rdH_ok hk (relL_len n f)]
  dsimp only
  rw [Int.toNat_natCast, show 0 + 1 + a * 1 = 1 + a by omega, atK_ok (relL_row ha), asI_ok, if_neg (by omega), g_bit1 (hf a) hb]
end

theorem SlAt.getP {h hh : AHeap} {x : Cell} {l : List (Int × Int)} (s : SlAt h x 2 (pairC l) l.length) {i : Nat} {p : Int × Int} (hi : l[i]? = some p) {a b : Int} :
    (idxSK 2 x (i : Int) fun k N o => rdH h k N fun l => if o + 2 ≤ l.length then if alike ((l.drop o).take 2) ([Cell.int .i64 0, Cell.int .i64 0]) = true ∧ alike (splice (splice [Cell.int .i64 0, Cell.int .i64 0] 0 ([(.int .i64 a)] : List Cell)) 1 ([(.int .i64 b)] : List Cell)) ([Cell.int .i64 0, Cell.int .i64 0]) = true then
      some ((!(decide (((l.drop o).take 2) = (splice (splice [Cell.int .i64 0, Cell.int .i64 0] 0 ([(.int .i64 a)] : List Cell)) 1 ([(.int .i64 b)] : List Cell))))), hh) else none else none) = some (!(decide (p = (a, b))), hh) := by
  have hlt : i < l.length := by
    rcases Nat.lt_or_ge i l.length with h1 | h1
    · exact h1
    · rw [List.getElem?_eq_none h1] at hi; cases hi
  refine (s.getN hlt (f := fun t => if alike t ([Cell.int .i64 0, Cell.int .i64 0]) = true ∧ alike (splice (splice [Cell.int .i64 0, Cell.int .i64 0] 0 ([(.int .i64 a)] : List Cell)) 1 ([(.int .i64 b)] : List Cell)) ([Cell.int .i64 0, Cell.int .i64 0]) = true then
      some ((!(decide (t = (splice (splice [Cell.int .i64 0, Cell.int .i64 0] 0 ([(.int .i64 a)] : List Cell)) 1 ([(.int .i64 b)] : List Cell))))), hh) else none)).trans ?_
  have e : ((pairC l).drop (i * 2)).take 2 = [.int .i64 p.1, .int .i64 p.2] := by
    obtain ⟨g1, g2⟩ := pairC_get l i p hi
    refine List.ext_getElem? fun j => ?_
    rw [List.getElem?_take, List.getElem?_drop]
    match j with
    | 0 => rw [if_pos (by omega), g1]; rfl
    | 1 => rw [if_pos (by omega), g2]; rfl
    | j + 2 => rw [if_neg (by omega)]; rfl
  have e2 : splice (splice [Cell.int .i64 0, Cell.int .i64 0] 0 ([(.int .i64 a)] : List Cell)) 1 ([(.int .i64 b)] : List Cell) = [.int .i64 a, .int .i64 b] := rfl
  rw [e, e2, if_pos ⟨rfl, rfl⟩]
  congr 3
  rw [decide_eq_decide]
  obtain ⟨c, d⟩ := p
  simp

theorem rel_pairs {n : Nat} (hn : n ≤ 64) {f : Nat → Nat} (hf : Words f) (ff : Fit n f) : relL n (ofR n (pairsP n f)) = relL n f := rel_eq (words_of _ _) hf fun i j => by
  rw [of_bit hn]
  constructor
  · rintro ⟨p, hp, _, _, h1, h2⟩
    obtain ⟨a, b, _, _, hb, rfl⟩ := mem_pairsP.1 hp
    have e1 : a = i := Int.ofNat.inj h1
    have e2 : b = j := Int.ofNat.inj h2
    rw [← e1, ← e2]; exact hb
  · intro hb
    obtain ⟨h1, h2⟩ := ff _ _ hb
    exact ⟨_, mem_pairsP.2 ⟨i, j, h1, by omega, hb, rfl⟩, by rw [inR_nat]; simpa using h1, by rw [inR_nat]; simpa using h2, rfl, rfl⟩

variable {E : Env}

theorem RelPairs_R (hE : jacquardlaw8_RelPairs_In E) (ht : TabOk E) (a0 : Int) {x1 : Cell} {l1 : List (Int × Int)} {h : AHeap} (hx1 : SlAt h x1 2 (pairC l1) l1.length) (hl1 : Low h.length x1) :
    R E 240 [.c (.int .i64 a0), .c x1] h = some ([.c (.bool true)], h) := by
  refine R_intro hE.fn ?_
  rw [jacquardlaw8_RelPairs_eq]
  have hn : clamp a0 ≤ 64 := by unfold clamp; omega
  have hv : (if 64 < (if 0 > a0 then 0 else a0) then 64 else (if 0 > a0 then 0 else a0)) = ((clamp a0 : Nat) : Int) := by unfold clamp; split <;> split <;> omega
  simp only [hv]
  generalize clamp a0 = n at hn
  rw [Of_R hE.c1 (n : Int) hx1 hl1, c2_ok, asA_ok, asA_ok, clamp_nat hn]
  have hf := words_of n (l1.take 200)
  have ff := of_fit hn (l1.take 200)
  simp only [relL_len, zero_len, and_self, if_true]
  generalize ofR n (l1.take 200) = f at *
  rw [rdH_ok (blk_new h _) zero_len]
  dsimp only
  rw [if_pos ⟨by trivial, zero_len, by trivial⟩, putH_ok (blk_new h _) rfl, setBlk_last]
  dsimp only
  obtain ⟨x, h2, hP, hx, hk⟩ := Pairs_R hE.c20 ht hn hf (h ++ [some ⟨true, 0, relL n f⟩])
  rw [hP, c1_ok, asC_ok]
  have hk2 : blk? h2 h.length = some ⟨true, 0, relL n f⟩ := by rw [hk.blk (by simp)]; exact blk_new _ _
  have hK : Kp h.length h h2 := (Kp.app _ (Nat.le_refl _)).trans (hk.mono (by simp))
  have hlen : ∀ i j, i < n → j ≤ n → (pairsP i f ++ rowU f i j).length ≤ 64 * 64 + 64 := by
    intro i j hi hj
    have h1 := pairsP_len f i
    have h2 : (rowU f i j).length ≤ j := by unfold rowU; rw [List.length_map]; exact Nat.le_trans (List.length_filter_le _ _) (by simp)
    rw [List.length_append]
    omega
  have outer : Lim (jacquardlaw8_RelPairs_F2 (R E) Lim E.glob) (jacquardlaw8_RelPairs_s2 n h.length 65 0 x ((pairsP 0 f).length : Nat) ((0 : Nat) : Int) (relL n f) h2) = some (.exit 0, jacquardlaw8_RelPairs_x2_1 n x ((pairsP n f).length : Nat) (relL n f) h2) := by
    refine Lim_count (fun i => jacquardlaw8_RelPairs_s2 n h.length 65 0 x ((pairsP i f).length : Nat) (i : Int) (relL n f) h2) 0 n (by omega) (fun i _ hi => ?_) (Lim_exit ?_)
    · have inner : Lim (jacquardlaw8_RelPairs_F1 (R E) Lim E.glob) (jacquardlaw8_RelPairs_s1 n h.length 65 0 x ((pairsP i f ++ rowU f i 0).length : Nat) i ((0 : Nat) : Int) (relL n f) h2) = some (.exit 2, jacquardlaw8_RelPairs_x1_3 n h.length 65 0 x ((pairsP i f ++ rowU f i n).length : Nat) i (relL n f) h2) := by
        refine Lim_count (fun j => jacquardlaw8_RelPairs_s1 n h.length 65 0 x ((pairsP i f ++ rowU f i j).length : Nat) i (j : Int) (relL n f) h2) 0 n (by omega) (fun j _ hj => ?_) (Lim_exit ?_)
        · rw [jacquardlaw8_RelPairs_r1, if_pos (by simp; omega), if_pos ⟨rfl, relL_len _ _⟩, HasS hE.c3 hn hf hi (by omega), c1_ok, asB_ok, refHas_R hE.c7 hf (by omega) (by omega) hk2, c1_ok, asB_ok, refHas_R hE.c7 hf (by omega) (by omega) hk2, c1_ok, asB_ok, beq_self_eq_true, if_neg (by simp), g_succ (by omega)]
          cases hb : (f i).testBit j with
          | false =>
            rw [if_pos (by simp), rowU_succ, hb]
            simp
          | true =>
            have hp := pairsP_at hi (show j < 64 by omega) hb
            have hlt : (pairsP i f ++ rowU f i j).length < (pairsP n f).length := by
              rcases Nat.lt_or_ge (pairsP i f ++ rowU f i j).length (pairsP n f).length with h1 | h1
              · exact h1
              · rw [List.getElem?_eq_none h1] at hp; cases hp
            have hle := hlen i j hi (by omega)
            rw [if_neg (by simp), hx.at.len, show decide ((((pairsP i f ++ rowU f i j).length : Nat) : Int) ≥ (((pairsP n f).length : Nat) : Int)) = false from decide_eq_false (fun q => absurd (Int.ofNat_le.1 q) (Nat.not_le.2 hlt)), scK_ok, hx.at.getP hp, bind_ok]
            dsimp only
            rw [if_neg (by simp), g_succ (by omega), rowU_succ, hb, if_pos rfl, ← List.append_assoc, List.length_append (bs := [_])]
            rfl
        · rw [jacquardlaw8_RelPairs_r1, if_neg (by simp)]
      rw [show pairsP i f ++ rowU f i 0 = pairsP i f from List.append_nil _, rowU_all hn ff, ← pairsP_succ] at inner
      rw [jacquardlaw8_RelPairs_r2, if_pos (by simp; omega), show (0 : Int) = ((0 : Nat) : Int) from rfl, inner, bind_ok, jacquardlaw8_RelPairs_e1_3, g_succ (by omega)]
    · rw [jacquardlaw8_RelPairs_r2, if_neg (by simp)]
  rw [show jacquardlaw8_RelPairs_s2 n h.length 65 0 x 0 0 (relL n f) h2 = jacquardlaw8_RelPairs_s2 n h.length 65 0 x ((pairsP 0 f).length : Nat) ((0 : Nat) : Int) (relL n f) h2 from rfl, outer, bind_ok, jacquardlaw8_RelPairs_e2_1, Of_R hE.c1 (n : Int) hx.at hx.low, c2_ok, asA_ok, asA_ok, clamp_nat hn]
  simp only [relL_len, zero_len, and_self, if_true]
  rw [hx.at.len, beq_self_eq_true, scK_ok]
  have e1 : (scK (decide ((((pairsP n f).length : Nat) : Int) > 200)) false (if alike (relL n (ofR n ((pairsP n f).take 200))) ([Cell.int .i64 0] ++ List.replicate 64 (Cell.int .u64 0)) = true ∧ alike (relL n f) ([Cell.int .i64 0] ++ List.replicate 64 (Cell.int .u64 0)) = true then some ((decide (relL n (ofR n ((pairsP n f).take 200)) = relL n f)), h2) else none) true h2 fun b h => some (b, h)) = some (true, h2) := by
    by_cases hl : (pairsP n f).length ≤ 200
    · rw [show decide ((((pairsP n f).length : Nat) : Int) > 200) = false by simp; omega, scK_ok, List.take_of_length_le hl, rel_pairs hn hf ff, zero_rel]
      simp only [alike_rel, and_self, if_true, decide_true]
      rfl
    · rw [show decide ((((pairsP n f).length : Nat) : Int) > 200) = true by simp; omega, scK_tf]
  rw [e1, bind_ok]
  dsimp only
  have b1 : hasR n f (-1) 0 = false := by unfold hasR inR; simp
  have b2 : hasR n f 0 64 = false := by unfold hasR hasI; simp
  have b3 : inR n (-1) = false := by unfold inR; simp
  have b4 : inR n 64 = false := by unfold inR; simp; omega
  simp only [relL_len, HasR_R hE.c3 hn hf, Row_R hE.c41 hn, awake8_R hE.c55, c1_ok, asI_ok, asB_ok, and_self, if_true, bind_ok, scK_ok, b1, b2, b3, b4, Bool.not_false, Bool.false_eq_true, if_false]
  exact finish_gc hK (by simp [avOk, AV.cells, idOk])

theorem RelPairs_law (ht : TabOk E) (hE : jacquardlaw8_RelPairs_In E) {h : AHeap} {c0 c1 : List Cell} (o0 : okC h (.i .i64) c0) (o1 : okC h (.sl shPair) c1) :
    ∃ h', R E 240 [av1 (.i .i64) c0, av1 (.sl shPair) c1] h = some ([.c (.bool true)], h') := by
  obtain ⟨a0, e0, _⟩ := arg_int o0
  obtain ⟨x1, l1, e1, hx1, hl1, _⟩ := arg_pairs o1
  rw [e0, e1]
  exact ⟨h, RelPairs_R hE ht a0 hx1 hl1⟩

end Jq

namespace Jq
open Go

/- jacquard/sleep.Covers: 368 -/
set_option maxRecDepth 100000 in
theorem sleep_Covers_eq (C : CallF) (L : LoopF) (G : Glo) (a0 : Int) (a1 : Int) (h0 : AHeap) :
    sleep_Covers.body C L G [(.c (.int .u64 a0)), (.c (.int .u64 a1))] h0 =
    scK (a1 == 0) false (some (((G.band .u64 a0 a1) != 0), h0)) true h0 fun b_1 h_2 => some ([(.c (.bool b_1))], h_2) := by kernel_rfl

/- jacquard/sleep.Clash: 390 -/
set_option maxRecDepth 100000 in
theorem sleep_Clash_eq (C : CallF) (L : LoopF) (G : Glo) (l0 : List Cell) (l1 : List Cell) (a2 : Int) (h0 : AHeap) :
    sleep_Clash.body C L G [(.agg l0), (.agg l1), (.c (.int .i64 a2))] h0 =
    atK l0 0 fun q_1 => asI .i64 (.c q_1) fun n_2 => atK l1 0 fun q_3 => asI .i64 (.c q_3) fun n_4 => if (n_2 == n_4) = true then some ([(.c (.bool true))], h0) else atK l0 1 fun q_5 => asI .i64 (.c q_5) fun n_6 => atK l1 1 fun q_7 => asI .i64 (.c q_7) fun n_8 => if (n_6 == n_8) = true then atK l0 2 fun q_9 => asI .i64 (.c q_9) fun n_10 => scK (n_10 == 6) true (if 0 = 0 ∧ l1.length = 7 then c1 (C 265 [(.agg l1)] h0) fun y_12 h_11 => asB y_12 fun b_13 => some (b_13, h_11) else none) false h0 fun b_14 h_15 => scK b_14 false (atK l1 2 fun q_16 => asI .i64 (.c q_16) fun n_17 => scK (n_17 == 6) true (if 0 = 0 ∧ l0.length = 7 then c1 (C 265 [(.agg l0)] h_15) fun y_19 h_18 => asB y_19 fun b_20 => some (b_20, h_18) else none) false h_15 fun b_21 h_22 => some (b_21, h_22)) true h_15 fun b_23 h_24 => some ([(.c (.bool b_23))], h_24) else if 0 = 0 ∧ l0.length = 7 then c1 (C 401 [(.agg l0), (.c (.int .i64 a2))] h0) fun y_26 h_25 => asB y_26 fun b_27 => scK b_27 true (if 0 = 0 ∧ l1.length = 7 then c1 (C 401 [(.agg l1), (.c (.int .i64 a2))] h_25) fun y_29 h_28 => asB y_29 fun b_30 => some (b_30, h_28) else none) false h_25 fun b_31 h_32 => scK b_31 true (atK l0 3 fun q_33 => asI .i64 (.c q_33) fun n_34 => atK l1 3 fun q_35 => asI .i64 (.c q_35) fun n_36 => some ((n_34 == n_36), h_32)) false h_32 fun b_37 h_38 => scK b_37 true (if 0 = 0 ∧ l0.length = 7 then c1 (C 257 [(.agg l0), (.c (.int .i64 a2))] h_38) fun y_40 h_39 => asB y_40 fun b_41 => scK b_41 false (if 0 = 0 ∧ l1.length = 7 then c1 (C 257 [(.agg l1), (.c (.int .i64 a2))] h_39) fun y_43 h_42 => asB y_43 fun b_44 => some (b_44, h_42) else none) true h_39 fun b_45 h_46 => some (b_45, h_46) else none) false h_38 fun b_47 h_48 => some ([(.c (.bool b_47))], h_48) else none := by kernel_rfl

/- jacquard/sleep.touches: 401 -/
set_option maxRecDepth 100000 in
theorem sleep_touches_eq (C : CallF) (L : LoopF) (G : Glo) (l0 : List Cell) (a1 : Int) (h0 : AHeap) :
    sleep_touches.body C L G [(.agg l0), (.c (.int .i64 a1))] h0 =
    if 0 = 0 ∧ l0.length = 7 then c1 (C 257 [(.agg l0), (.c (.int .i64 a1))] h0) fun y_2 h_1 => asB y_2 fun b_3 => scK b_3 false (if 0 = 0 ∧ l0.length = 7 then c1 (C 266 [(.agg l0)] h_1) fun y_5 h_4 => asB y_5 fun b_6 => some (b_6, h_4) else none) true h_1 fun b_7 h_8 => some ([(.c (.bool b_7))], h_8) else none := by kernel_rfl

/- jacquard/sleep.Wake: 406 -/
def sleep_Wake_k2 (C : CallF) (L : LoopF) (G : Glo) (h0 : AHeap) : Ex → St → Option (List AV × AHeap) :=
  kSeq (fun st => sleep_Wake_p1.exec C L G st (sleep_Wake.fin G h0)) (sleep_Wake.fin G h0)
def sleep_Wake_k3 (C : CallF) (L : LoopF) (G : Glo) (h0 : AHeap) : Ex → St → Option (List AV × AHeap) :=
  kBlk 0 (sleep_Wake_k2 C L G h0)
def sleep_Wake_s1 (a0 : Int) (a3 : Int) (x11 : Cell) (a12 : Int) (a13 : Int) (s0 : List Cell) (h : AHeap) : St := ⟨[.v (.c (.int .u64 a0)), .top, .top, .v (.c (.int .i64 a3)), .top, .top, .loc 0 0, .top, .top, .top, .top, .v (.c x11), .v (.c (.int .i64 a12)), .v (.c (.int .i64 a13)), .top, .top, .top, .top, .top, .top, .top, .top, .top, .top, .top, .top, .top], [some s0, none], h⟩
def sleep_Wake_F1 (C : CallF) (L : LoopF) (G : Glo) : St → Option (Ex × St) :=
  roundF (fun st f => sleep_Wake_b1.exec C L G st f) [0, 3, 6, 11, 12, 13] [0] [(1, [0], [])]
def sleep_Wake_x1_1 (a0 : Int) (h : AHeap) : St := ⟨[.v (.c (.int .u64 a0)), .top, .top, .top, .top, .top, .top, .top, .top, .top, .top, .top, .top, .top, .top, .top, .top, .top, .top, .top, .top, .top, .top, .top, .top, .top, .top], [none, none], h⟩
theorem sleep_Wake_r1 (C : CallF) (L : LoopF) (G : Glo) (a0 : Int) (a3 : Int) (x11 : Cell) (a12 : Int) (a13 : Int) (s0 : List Cell) (h : AHeap) :
    sleep_Wake_F1 C L G (sleep_Wake_s1 a0 a3 x11 a12 a13 s0 h) =
    if (decide (a13 < a12)) = true then idxSK 7 x11 a13 fun k_2 N_3 o_4 => rdH h k_2 N_3 fun l_5 => if o_4 + 7 ≤ l_5.length then if 0 = 0 ∧ (List.replicate 7 (Cell.int .i64 0)).length = 7 ∧ ((l_5.drop o_4).take 7).length = 7 then if 0 = 0 ∧ ((l_5.drop o_4).take 7).length = 7 then if 0 = 0 ∧ s0.length = 7 then c1 (C 390 [(.agg ((l_5.drop o_4).take 7)), (.agg s0), (.c (.int .i64 a3))] h) fun y_7 h_6 => asB y_7 fun b_8 => if b_8 = true then atK ((l_5.drop o_4).take 7) 0 fun q_9 => asI .i64 (.c q_9) fun n_10 => c1 (C 63 [(.c (.int .u64 a0)), (.c (.int .i64 n_10))] h_6) fun y_12 h_11 => asI .u64 y_12 fun n_13 => some (.normal, (sleep_Wake_s1 n_13 a3 x11 a12 (G.wrap .i64 (a13 + 1)) s0 h_11)) else some (.normal, (sleep_Wake_s1 a0 a3 x11 a12 (G.wrap .i64 (a13 + 1)) s0 h_6)) else none else none else none else none else some ((.exit 0), (sleep_Wake_x1_1 a0 h)) := by kernel_rfl
theorem sleep_Wake_e1_1 (C : CallF) (L : LoopF) (G : Glo) (h0 : AHeap) (a0 : Int) (h : AHeap) :
    (sleep_Wake_k3 C L G h0) (.exit 0) (sleep_Wake_x1_1 a0 h) =
    some ([(.c (.int .u64 a0))], h) := by kernel_rfl
set_option maxRecDepth 100000 in
theorem sleep_Wake_eq (C : CallF) (L : LoopF) (G : Glo) (a0 : Int) (x1 : Cell) (l2 : List Cell) (a3 : Int) (h0 : AHeap) :
    sleep_Wake.body C L G [(.c (.int .u64 a0)), (.c x1), (.agg l2), (.c (.int .i64 a3))] h0 =
    lenK x1 fun n_1 => (L (sleep_Wake_F1 C L G) (sleep_Wake_s1 a0 a3 x1 n_1 0 l2 h0)).bind fun p_14 => (sleep_Wake_k3 C L G h0) p_14.1 p_14.2 := by kernel_rfl

/- jacquard/sleep.Initials: 408 -/
def sleep_Initials_k2 (C : CallF) (L : LoopF) (G : Glo) (h0 : AHeap) : Ex → St → Option (List AV × AHeap) :=
  kSeq (fun st => sleep_Initials_p1.exec C L G st (sleep_Initials.fin G h0)) (sleep_Initials.fin G h0)
def sleep_Initials_k3 (C : CallF) (L : LoopF) (G : Glo) (h0 : AHeap) : Ex → St → Option (List AV × AHeap) :=
  kBlk 0 (sleep_Initials_k2 C L G h0)
def sleep_Initials_s2 (x1 : Cell) (a2 : Int) (a7 : Int) (a8 : Int) (s0 : List Cell) (h : AHeap) : St := ⟨[.top, .v (.c x1), .v (.c (.int .i64 a2)), .loc 0 0, .top, .top, .top, .v (.c (.int .u64 a7)), .v (.c (.int .i64 a8)), .top, .top, .top, .top, .top, .top, .top, .top, .top, .top, .top, .top, .top, .top, .top, .top, .top, .top, .top, .top, .top, .top, .top, .top, .top, .top, .top, .top, .top, .top, .top, .top, .top, .top], [some s0], h⟩
def sleep_Initials_F2 (C : CallF) (L : LoopF) (G : Glo) : St → Option (Ex × St) :=
  roundF (fun st f => sleep_Initials_b2.exec C L G st f) [1, 2, 3, 7, 8] [0] [(1, [7], [])]
def sleep_Initials_k4 (C : CallF) (L : LoopF) (G : Glo) : Ex → St → Option (Ex × St) :=
  kSeq (fun st => sleep_Initials_p2.exec C L G st (kLoop [1, 2, 3, 7, 8] [0] [(1, [7], [])])) (kLoop [1, 2, 3, 7, 8] [0] [(1, [7], [])])
def sleep_Initials_k5 (C : CallF) (L : LoopF) (G : Glo) : Ex → St → Option (Ex × St) :=
  kBlk 1 (sleep_Initials_k4 C L G)
def sleep_Initials_k6 (C : CallF) (L : LoopF) (G : Glo) : Ex → St → Option (Ex × St) :=
  kSeq (fun st => sleep_Initials_p3.exec C L G st (sleep_Initials_k5 C L G)) (sleep_Initials_k5 C L G)
def sleep_Initials_k7 (C : CallF) (L : LoopF) (G : Glo) : Ex → St → Option (Ex × St) :=
  kBlk 2 (sleep_Initials_k6 C L G)
def sleep_Initials_s1 (x1 : Cell) (a2 : Int) (a7 : Int) (a8 : Int) (b9 : Bool) (a10 : Int) (s0 : List Cell) (h : AHeap) : St := ⟨[.top, .v (.c x1), .v (.c (.int .i64 a2)), .loc 0 0, .top, .top, .top, .v (.c (.int .u64 a7)), .v (.c (.int .i64 a8)), .v (.c (.bool b9)), .v (.c (.int .i64 a10)), .top, .top, .top, .top, .top, .top, .top, .top, .top, .top, .top, .top, .top, .top, .top, .top, .top, .top, .top, .top, .top, .top, .top, .top, .top, .top, .top, .top, .top, .top, .top, .top], [some s0], h⟩
def sleep_Initials_F1 (C : CallF) (L : LoopF) (G : Glo) : St → Option (Ex × St) :=
  roundF (fun st f => sleep_Initials_b1.exec C L G st f) [1, 2, 3, 7, 8, 9, 10] [0] [(3, [1, 2, 3, 7, 8, 9], [0])]
def sleep_Initials_x1_3 (x1 : Cell) (a2 : Int) (a7 : Int) (a8 : Int) (b9 : Bool) (s0 : List Cell) (h : AHeap) : St := ⟨[.top, .v (.c x1), .v (.c (.int .i64 a2)), .loc 0 0, .top, .top, .top, .v (.c (.int .u64 a7)), .v (.c (.int .i64 a8)), .v (.c (.bool b9)), .top, .top, .top, .top, .top, .top, .top, .top, .top, .top, .top, .top, .top, .top, .top, .top, .top, .top, .top, .top, .top, .top, .top, .top, .top, .top, .top, .top, .top, .top, .top, .top, .top], [some s0], h⟩
def sleep_Initials_x2_1 (a7 : Int) (h : AHeap) : St := ⟨[.top, .top, .top, .top, .top, .top, .top, .v (.c (.int .u64 a7)), .top, .top, .top, .top, .top, .top, .top, .top, .top, .top, .top, .top, .top, .top, .top, .top, .top, .top, .top, .top, .top, .top, .top, .top, .top, .top, .top, .top, .top, .top, .top, .top, .top, .top, .top], [none], h⟩
theorem sleep_Initials_r1 (C : CallF) (L : LoopF) (G : Glo) (x1 : Cell) (a2 : Int) (a7 : Int) (a8 : Int) (b9 : Bool) (a10 : Int) (s0 : List Cell) (h : AHeap) :
    sleep_Initials_F1 C L G (sleep_Initials_s1 x1 a2 a7 a8 b9 a10 s0 h) =
    lenK x1 fun n_2 => if (decide (a10 < n_2)) = true then scK b9 true (if 0 = 0 ∧ s0.length = 65 then c1 (C 3 [(.agg s0), (.c (.int .i64 a10)), (.c (.int .i64 a8))] h) fun y_4 h_3 => asB y_4 fun b_5 => some ((!b_5), h_3) else none) false h fun b_6 h_7 => some (.normal, (sleep_Initials_s1 x1 a2 a7 a8 b_6 (G.wrap .i64 (a10 + 1)) s0 h_7)) else some ((.exit 2), (sleep_Initials_x1_3 x1 a2 a7 a8 b9 s0 h)) := by kernel_rfl
theorem sleep_Initials_e1_3 (C : CallF) (L : LoopF) (G : Glo) (x1 : Cell) (a2 : Int) (a7 : Int) (a8 : Int) (b9 : Bool) (s0 : List Cell) (h : AHeap) :
    (sleep_Initials_k7 C L G) (.exit 2) (sleep_Initials_x1_3 x1 a2 a7 a8 b9 s0 h) =
    if b9 = true then idxSK 1 x1 a8 fun k_8 N_9 o_10 => rdH h k_8 N_9 fun l_11 => atK l_11 o_10 fun q_12 => asI .i64 (.c q_12) fun n_13 => c1 (C 18 [(.c (.int .u64 a7)), (.c (.int .i64 n_13))] h) fun y_15 h_14 => asI .u64 y_15 fun n_16 => some (.normal, (sleep_Initials_s2 x1 a2 n_16 (G.wrap .i64 (a8 + 1)) s0 h_14)) else some (.normal, (sleep_Initials_s2 x1 a2 a7 (G.wrap .i64 (a8 + 1)) s0 h)) := by kernel_rfl
theorem sleep_Initials_r2 (C : CallF) (L : LoopF) (G : Glo) (x1 : Cell) (a2 : Int) (a7 : Int) (a8 : Int) (s0 : List Cell) (h : AHeap) :
    sleep_Initials_F2 C L G (sleep_Initials_s2 x1 a2 a7 a8 s0 h) =
    lenK x1 fun n_1 => if (decide (a8 < n_1)) = true then (L (sleep_Initials_F1 C L G) (sleep_Initials_s1 x1 a2 a7 a8 true a2 s0 h)).bind fun p_17 => (sleep_Initials_k7 C L G) p_17.1 p_17.2 else some ((.exit 0), (sleep_Initials_x2_1 a7 h)) := by kernel_rfl
theorem sleep_Initials_e2_1 (C : CallF) (L : LoopF) (G : Glo) (h0 : AHeap) (a7 : Int) (h : AHeap) :
    (sleep_Initials_k3 C L G h0) (.exit 0) (sleep_Initials_x2_1 a7 h) =
    some ([(.c (.int .u64 a7))], h) := by kernel_rfl
set_option maxRecDepth 100000 in
theorem sleep_Initials_eq (C : CallF) (L : LoopF) (G : Glo) (l0 : List Cell) (x1 : Cell) (a2 : Int) (h0 : AHeap) :
    sleep_Initials.body C L G [(.agg l0), (.c x1), (.c (.int .i64 a2))] h0 =
    (L (sleep_Initials_F2 C L G) (sleep_Initials_s2 x1 (if 0 > a2 then 0 else a2) 0 (if 0 > a2 then 0 else a2) l0 h0)).bind fun p_18 => (sleep_Initials_k3 C L G h0) p_18.1 p_18.2 := by kernel_rfl


end Jq

namespace Jq
open Go

/- jacquard/trace.Writes: 257 -/
set_option maxRecDepth 100000 in
theorem trace_Writes_eq (C : CallF) (L : LoopF) (G : Glo) (l0 : List Cell) (a1 : Int) (h0 : AHeap) :
    trace_Writes.body C L G [(.agg l0), (.c (.int .i64 a1))] h0 =
    atK l0 2 fun q_1 => asI .i64 (.c q_1) fun n_2 => scK (n_2 == 6) false (atK l0 2 fun q_3 => asI .i64 (.c q_3) fun n_4 => some ((n_4 == 4), h0)) true h0 fun b_5 h_6 => scK b_5 false (scK (a1 == 1) true (atK l0 2 fun q_7 => asI .i64 (.c q_7) fun n_8 => some ((n_8 == 2), h_6)) false h_6 fun b_9 h_10 => some (b_9, h_10)) true h_6 fun b_11 h_12 => some ([(.c (.bool b_11))], h_12) := by kernel_rfl

/- jacquard/trace.Fences: 265 -/
set_option maxRecDepth 100000 in
theorem trace_Fences_eq (C : CallF) (L : LoopF) (G : Glo) (l0 : List Cell) (h0 : AHeap) :
    trace_Fences.body C L G [(.agg l0)] h0 =
    atK l0 2 fun q_1 => asI .i64 (.c q_1) fun n_2 => scK (n_2 == 3) false (atK l0 2 fun q_3 => asI .i64 (.c q_3) fun n_4 => some ((n_4 == 4), h0)) true h0 fun b_5 h_6 => scK b_5 false (atK l0 2 fun q_7 => asI .i64 (.c q_7) fun n_8 => some ((n_8 == 5), h_6)) true h_6 fun b_9 h_10 => some ([(.c (.bool b_9))], h_10) := by kernel_rfl

/- jacquard/trace.Reads: 266 -/
set_option maxRecDepth 100000 in
theorem trace_Reads_eq (C : CallF) (L : LoopF) (G : Glo) (l0 : List Cell) (h0 : AHeap) :
    trace_Reads.body C L G [(.agg l0)] h0 =
    atK l0 2 fun q_1 => asI .i64 (.c q_1) fun n_2 => scK (n_2 == 1) false (atK l0 2 fun q_3 => asI .i64 (.c q_3) fun n_4 => some ((n_4 == 4), h0)) true h0 fun b_5 h_6 => scK b_5 false (atK l0 2 fun q_7 => asI .i64 (.c q_7) fun n_8 => some ((n_8 == 5), h_6)) true h_6 fun b_9 h_10 => some ([(.c (.bool b_9))], h_10) := by kernel_rfl


end Jq

namespace Jq
open Go

/- jacquard/jacquardref16.Writes: 176 -/
set_option maxRecDepth 100000 in
theorem jacquardref16_Writes_eq (C : CallF) (L : LoopF) (G : Glo) (l0 : List Cell) (a1 : Int) (h0 : AHeap) :
    jacquardref16_Writes.body C L G [(.agg l0), (.c (.int .i64 a1))] h0 =
    atK l0 2 fun q_1 => asI .i64 (.c q_1) fun n_2 => scK (n_2 == 6) false (atK l0 2 fun q_3 => asI .i64 (.c q_3) fun n_4 => some ((n_4 == 4), h0)) true h0 fun b_5 h_6 => scK b_5 false (atK l0 2 fun q_7 => asI .i64 (.c q_7) fun n_8 => scK (n_8 == 2) true (some ((a1 == 1), h_6)) false h_6 fun b_9 h_10 => some (b_9, h_10)) true h_6 fun b_11 h_12 => some ([(.c (.bool b_11))], h_12) := by kernel_rfl

/- jacquard/jacquardref16.Clash: 409 -/
set_option maxRecDepth 100000 in
theorem jacquardref16_Clash_eq (C : CallF) (L : LoopF) (G : Glo) (l0 : List Cell) (l1 : List Cell) (a2 : Int) (h0 : AHeap) :
    jacquardref16_Clash.body C L G [(.agg l0), (.agg l1), (.c (.int .i64 a2))] h0 =
    atK l0 0 fun q_1 => asI .i64 (.c q_1) fun n_2 => atK l1 0 fun q_3 => asI .i64 (.c q_3) fun n_4 => if (n_2 == n_4) = true then some ([(.c (.bool true))], h0) else atK l0 1 fun q_5 => asI .i64 (.c q_5) fun n_6 => atK l1 1 fun q_7 => asI .i64 (.c q_7) fun n_8 => if (n_6 == n_8) = true then if 0 = 0 ∧ l0.length = 7 then if 0 = 0 ∧ l1.length = 7 then c1 (C 411 [(.agg l0), (.agg l1)] h0) fun y_10 h_9 => asB y_10 fun b_11 => scK b_11 false (if 0 = 0 ∧ l1.length = 7 then if 0 = 0 ∧ l0.length = 7 then c1 (C 411 [(.agg l1), (.agg l0)] h_9) fun y_13 h_12 => asB y_13 fun b_14 => some (b_14, h_12) else none else none) true h_9 fun b_15 h_16 => some ([(.c (.bool b_15))], h_16) else none else none else if 0 = 0 ∧ l0.length = 7 then c1 (qh h0 (C 176 [(.agg l0), (.c (.int .i64 a2))] h0)) fun y_18 h_17 => asB y_18 fun b_19 => scK b_19 false (if 0 = 0 ∧ l0.length = 7 then c1 (qh h0 (C 412 [(.agg l0)] h0)) fun y_21 h_20 => asB y_21 fun b_22 => some (b_22, h0) else none) true h0 fun b_23 h_24 => if 0 = 0 ∧ l1.length = 7 then c1 (qh h_24 (C 176 [(.agg l1), (.c (.int .i64 a2))] h_24)) fun y_26 h_25 => asB y_26 fun b_27 => scK b_27 false (if 0 = 0 ∧ l1.length = 7 then c1 (qh h_24 (C 412 [(.agg l1)] h_24)) fun y_29 h_28 => asB y_29 fun b_30 => some (b_30, h_24) else none) true h_24 fun b_31 h_32 => scK b_23 true (some (b_31, h_32)) false h_32 fun b_33 h_34 => scK b_33 true (atK l0 3 fun q_35 => asI .i64 (.c q_35) fun n_36 => atK l1 3 fun q_37 => asI .i64 (.c q_37) fun n_38 => some ((n_36 == n_38), h_34)) false h_34 fun b_39 h_40 => scK b_39 true (if 0 = 0 ∧ l0.length = 7 then c1 (C 176 [(.agg l0), (.c (.int .i64 a2))] h_40) fun y_42 h_41 => asB y_42 fun b_43 => scK b_43 false (if 0 = 0 ∧ l1.length = 7 then c1 (C 176 [(.agg l1), (.c (.int .i64 a2))] h_41) fun y_45 h_44 => asB y_45 fun b_46 => some (b_46, h_44) else none) true h_41 fun b_47 h_48 => some (b_47, h_48) else none) false h_40 fun b_49 h_50 => some ([(.c (.bool b_49))], h_50) else none else none := by kernel_rfl

/- jacquard/jacquardref16.own: 411 -/
set_option maxRecDepth 100000 in
theorem jacquardref16_own_eq (C : CallF) (L : LoopF) (G : Glo) (l0 : List Cell) (l1 : List Cell) (h0 : AHeap) :
    jacquardref16_own.body C L G [(.agg l0), (.agg l1)] h0 =
    atK l0 2 fun q_1 => asI .i64 (.c q_1) fun n_2 => scK (n_2 == 6) true (atK l1 2 fun q_3 => asI .i64 (.c q_3) fun n_4 => scK (n_4 == 3) false (atK l1 2 fun q_5 => asI .i64 (.c q_5) fun n_6 => some ((n_6 == 4), h0)) true h0 fun b_7 h_8 => scK b_7 false (atK l1 2 fun q_9 => asI .i64 (.c q_9) fun n_10 => some ((n_10 == 5), h_8)) true h_8 fun b_11 h_12 => some (b_11, h_12)) false h0 fun b_13 h_14 => some ([(.c (.bool b_13))], h_14) := by kernel_rfl

/- jacquard/jacquardref16.reads: 412 -/
set_option maxRecDepth 100000 in
theorem jacquardref16_reads_eq (C : CallF) (L : LoopF) (G : Glo) (l0 : List Cell) (h0 : AHeap) :
    jacquardref16_reads.body C L G [(.agg l0)] h0 =
    atK l0 2 fun q_1 => asI .i64 (.c q_1) fun n_2 => scK (n_2 == 1) false (atK l0 2 fun q_3 => asI .i64 (.c q_3) fun n_4 => some ((n_4 == 4), h0)) true h0 fun b_5 h_6 => scK b_5 false (atK l0 2 fun q_7 => asI .i64 (.c q_7) fun n_8 => some ((n_8 == 5), h_6)) true h_6 fun b_9 h_10 => some ([(.c (.bool b_9))], h_10) := by kernel_rfl


end Jq

/- Steps: which clash; who wakes; who may be first. -/
namespace Jq
open Go

structure Stp where
  pick : Int
  t : Int
  kind : Int
  loc : Int
  r : Int
  w : Int
  frm : Int

def Stp.cs (s : Stp) : List Cell := [.int .i64 s.pick, .int .i64 s.t, .int .i64 s.kind, .int .i64 s.loc, .int .i64 s.r, .int .i64 s.w, .int .i64 s.frm]
def shStep : Sh := .agg (Sh.rep (.i .i64) 7)
def stepsC (l : List Stp) : List Cell := l.flatMap Stp.cs

theorem stp_len (s : Stp) : s.cs.length = 7 := rfl
theorem stp_pick {α : Type} {s : Stp} {f : Cell → Option α} : atK s.cs 0 f = f (.int .i64 s.pick) := rfl
theorem stp_t {α : Type} {s : Stp} {f : Cell → Option α} : atK s.cs 1 f = f (.int .i64 s.t) := rfl
theorem stp_kind {α : Type} {s : Stp} {f : Cell → Option α} : atK s.cs 2 f = f (.int .i64 s.kind) := rfl
theorem stp_loc {α : Type} {s : Stp} {f : Cell → Option α} : atK s.cs 3 f = f (.int .i64 s.loc) := rfl
theorem stp_r {α : Type} {s : Stp} {f : Cell → Option α} : atK s.cs 4 f = f (.int .i64 s.r) := rfl
theorem stp_w {α : Type} {s : Stp} {f : Cell → Option α} : atK s.cs 5 f = f (.int .i64 s.w) := rfl
theorem stp_frm {α : Type} {s : Stp} {f : Cell → Option α} : atK s.cs 6 f = f (.int .i64 s.frm) := rfl

theorem stepsC_len : ∀ l : List Stp, (stepsC l).length = l.length * 7
  | [] => rfl
  | s :: l => by simp only [stepsC, List.flatMap_cons, List.length_append]; rw [show (l.flatMap _).length = _ from stepsC_len l, stp_len]; simp; omega

theorem stepsC_at : ∀ (l : List Stp) (i : Nat) (s : Stp), l[i]? = some s → ((stepsC l).drop (i * 7)).take 7 = s.cs
  | [], _, _, h => by simp at h
  | q :: l, 0, s, h => by simp at h; subst h; rfl
  | q :: l, i + 1, s, h => by
    have := stepsC_at l i s (by simpa using h)
    have e : stepsC (q :: l) = q.cs ++ stepsC l := rfl
    rw [e, List.drop_append, List.drop_of_length_le (by rw [stp_len]; omega), List.nil_append, show (i + 1) * 7 - q.cs.length = i * 7 by rw [stp_len]; omega]
    exact this

theorem stepsC_cell {l : List Stp} {i j : Nat} {s : Stp} {c : Cell} (h : l[i]? = some s) (hj : j < 7) (hc : s.cs[j]? = some c) : (stepsC l)[i * 7 + j]? = some c := by
  rw [← hc, ← stepsC_at l i s h, List.getElem?_take, if_pos hj, List.getElem?_drop]

theorem stepsC_snoc (l : List Stp) (s : Stp) : stepsC (l ++ [s]) = stepsC l ++ s.cs := by simp [stepsC]

theorem stp_of {h : AHeap} {c : List Cell} (o : okC h shStep c) : ∃ s : Stp, c = s.cs := by
  obtain ⟨x0, y0, rfl, ⟨a0, rfl, _⟩, x1, y1, rfl, ⟨a1, rfl, _⟩, x2, y2, rfl, ⟨a2, rfl, _⟩, x3, y3, rfl, ⟨a3, rfl, _⟩, x4, y4, rfl, ⟨a4, rfl, _⟩, x5, y5, rfl, ⟨a5, rfl, _⟩, x6, y6, rfl, ⟨a6, rfl, _⟩, h7⟩ := o
  have : y6 = [] := h7
  subst this
  exact ⟨⟨a0, a1, a2, a3, a4, a5, a6⟩, rfl⟩

theorem arg_step {h : AHeap} {c : List Cell} (o : okC h shStep c) : ∃ s : Stp, av1 shStep c = .agg s.cs := by
  obtain ⟨s, rfl⟩ := stp_of o
  exact ⟨s, rfl⟩

theorem okL_steps {h : AHeap} : ∀ (len : Nat) (xs : List Cell), okL (okC h shStep) len xs → ∃ l : List Stp, xs = stepsC l ∧ l.length = len
  | 0, xs, h => ⟨[], h, rfl⟩
  | len + 1, xs, ⟨x, y, h1, hx, hy⟩ => by
    obtain ⟨l, h2, h3⟩ := okL_steps len y hy
    obtain ⟨s, rfl⟩ := stp_of hx
    exact ⟨s :: l, by rw [h1, h2]; rfl, by simp [h3]⟩

theorem arg_steps {h : AHeap} {cs : List Cell} (o : okC h (.sl shStep) cs) : ∃ x l, av1 (.sl shStep) cs = .c x ∧ SlAt h x 7 (stepsC l) l.length ∧ Low h.length x ∧ l.length ≤ maxLen := by
  obtain ⟨x, xs, len, h1, h2, hm, h3, h4⟩ := arg_row o
  obtain ⟨l, rfl, rfl⟩ := okL_steps len xs h2
  exact ⟨x, l, h1, h3, h4, hm⟩

/-- One of a row, wherever it is looked at. -/
theorem SlAt.elG {h : AHeap} {x : Cell} {esz len : Nat} {cs : List Cell} (s : SlAt h x esz cs len) {i : Nat} (hi : i < len) :
    ∃ off cs', (∀ {α : Type} (G : Nat → List Cell → Option α), (idxSK esz x (i : Int) fun k N o => rdH h k N fun l => G o l) = G off cs') ∧ off + esz ≤ cs'.length ∧ (cs'.drop off).take esz = (cs.drop (i * esz)).take esz := by
  rcases s.2 with ⟨_, rfl⟩ | ⟨k, N, off, rfl, h0 | ⟨b, hb, hN, hle, hat⟩⟩
  · omega
  · omega
  · have hlt : i * esz + esz ≤ len * esz := by
      have : (i + 1) * esz ≤ len * esz := Nat.mul_le_mul_right _ hi
      rw [Nat.succ_mul] at this; exact this
    refine ⟨off + i * esz, b.cs, fun G => by rw [idxSK_ok hi, rdH_ok hb hN], by omega, ?_⟩
    refine List.ext_getElem? fun j => ?_
    rw [List.getElem?_take, List.getElem?_take]
    by_cases hj : j < esz
    · rw [if_pos hj, if_pos hj, List.getElem?_drop, List.getElem?_drop, Nat.add_assoc, hat _ (by omega)]
    · rw [if_neg hj, if_neg hj]

theorem SlAt.stepG {h : AHeap} {x : Cell} {l : List Stp} (s : SlAt h x 7 (stepsC l) l.length) {i : Nat} {q : Stp} (hq : l[i]? = some q) :
    ∃ off cs', (∀ {α : Type} (G : Nat → List Cell → Option α), (idxSK 7 x (i : Int) fun k N o => rdH h k N fun l => G o l) = G off cs') ∧ off + 7 ≤ cs'.length ∧ (cs'.drop off).take 7 = q.cs := by
  have hi : i < l.length := by
    rcases Nat.lt_or_ge i l.length with h | h
    · exact h
    · rw [List.getElem?_eq_none h] at hq; cases hq
  obtain ⟨off, cs', h1, h2, h3⟩ := s.elG hi
  exact ⟨off, cs', h1, h2, h3.trans (stepsC_at l i q hq)⟩

/-- One of the steps. -/
theorem SlAt.step {α : Type} {h : AHeap} {x : Cell} {l : List Stp} (s : SlAt h x 7 (stepsC l) l.length) {i : Nat} {q : Stp} (hq : l[i]? = some q) {f : List Cell → Option α} :
    (idxSK 7 x (i : Int) fun k N o => rdH h k N fun l => if o + 7 ≤ l.length then f ((l.drop o).take 7) else none) = f q.cs := by
  have hi : i < l.length := by
    rcases Nat.lt_or_ge i l.length with h | h
    · exact h
    · rw [List.getElem?_eq_none h] at hq; cases hq
  rw [s.getN hi, stepsC_at l i q hq]

theorem SlAt.spick {α : Type} {h : AHeap} {x : Cell} {l : List Stp} (s : SlAt h x 7 (stepsC l) l.length) {i : Nat} {q : Stp} (hq : l[i]? = some q) {f : Cell → Option α} :
    (idxSK 7 x (i : Int) fun k N o => rdH h k N fun l => atK l (o + 0) f) = f (.int .i64 q.pick) := by
  have hi : i < l.length := by
    rcases Nat.lt_or_ge i l.length with h | h
    · exact h
    · rw [List.getElem?_eq_none h] at hq; cases hq
  exact s.get (j := 0) hi (by omega) (stepsC_cell hq (by omega) rfl)

def wrS (s : Stp) (m : Int) : Bool := s.kind == 6 || s.kind == 4 || (m == 1 && s.kind == 2)
def rdS (s : Stp) : Bool := s.kind == 1 || s.kind == 4 || s.kind == 5
def fnS (s : Stp) : Bool := s.kind == 3 || s.kind == 4 || s.kind == 5
def tchS (s : Stp) (m : Int) : Bool := wrS s m || rdS s
/-- Do two steps clash? -/
def clash (a b : Stp) (m : Int) : Bool :=
  if (a.pick == b.pick) = true then true
  else if (a.t == b.t) = true then (a.kind == 6 && fnS b) || (b.kind == 6 && fnS a)
  else tchS a m && tchS b m && a.loc == b.loc && (wrS a m || wrS b m)

theorem clash_comm (a b : Stp) (m : Int) : clash a b m = clash b a m := by
  have ec : ∀ x y : Int, (y == x) = (x == y) := fun x y => by rw [Bool.eq_iff_iff, beq_iff_eq, beq_iff_eq]; exact eq_comm
  unfold clash
  rw [ec a.pick b.pick, ec a.t b.t, ec a.loc b.loc]
  split
  · rfl
  · split
    · exact Bool.or_comm _ _
    · cases tchS a m <;> cases tchS b m <;> cases (a.loc == b.loc) <;> cases wrS a m <;> cases wrS b m <;> rfl

/-- The sleepers that stay asleep. -/
def wakeS (a : Stp) (m : Int) : List Stp → Nat → Nat
  | [], s => s
  | x :: l, s => wakeS a m l (if clash x a m = true then ndiff s (bitI x.pick) else s)

theorem wakeS_lt {a : Stp} {m : Int} : ∀ {l : List Stp} {s : Nat}, s < 2 ^ 64 → wakeS a m l s < 2 ^ 64
  | [], _, h => h
  | x :: l, s, h => by
    rw [wakeS]
    refine wakeS_lt ?_
    split
    · exact ndiff_lt h
    · exact h

theorem wakeS_bit {a : Stp} {m : Int} : ∀ {l : List Stp} {s : Nat} (j : Nat), (wakeS a m l s).testBit j = (s.testBit j && !(l.any fun x => clash x a m && (bitI x.pick).testBit j))
  | [], s, j => by simp [wakeS]
  | x :: l, s, j => by
    rw [wakeS, wakeS_bit j, List.any_cons]
    cases clash x a m with
    | true => rw [if_pos rfl, testBit_ndiff]; cases s.testBit j <;> cases (bitI x.pick).testBit j <;> simp
    | false => rw [if_neg (by simp)]; simp

section
variable {E : Env}

theorem Writes_R (hE : trace_Writes_In E) (s : Stp) (m : Int) (h : AHeap) : R E 257 [.agg s.cs, .c (.int .i64 m)] h = some ([.c (.bool (wrS s m))], h) := by
  refine R_intro hE.fn ?_
  rw [trace_Writes_eq]
  simp only [stp_kind, asI_ok, scK_or, scK_and, scK_ok]
  rfl

theorem Reads_R (hE : trace_Reads_In E) (s : Stp) (h : AHeap) : R E 266 [.agg s.cs] h = some ([.c (.bool (rdS s))], h) := by
  refine R_intro hE.fn ?_
  rw [trace_Reads_eq]
  simp only [stp_kind, asI_ok, scK_or, scK_and, scK_ok]
  rfl

theorem Fences_R (hE : trace_Fences_In E) (s : Stp) (h : AHeap) : R E 265 [.agg s.cs] h = some ([.c (.bool (fnS s))], h) := by
  refine R_intro hE.fn ?_
  rw [trace_Fences_eq]
  simp only [stp_kind, asI_ok, scK_or, scK_and, scK_ok]
  rfl

theorem touches_R (hE : sleep_touches_In E) (s : Stp) (m : Int) (h : AHeap) : R E 401 [.agg s.cs, .c (.int .i64 m)] h = some ([.c (.bool (tchS s m))], h) := by
  refine R_intro hE.fn ?_
  rw [sleep_touches_eq]
  simp only [stp_len, and_self, if_true, Writes_R hE.c257, Reads_R hE.c266, c1_ok, asB_ok, scK_or]
  rfl

theorem Clash_R (hE : sleep_Clash_In E) (a b : Stp) (m : Int) (h : AHeap) : R E 390 [.agg a.cs, .agg b.cs, .c (.int .i64 m)] h = some ([.c (.bool (clash a b m))], h) := by
  refine R_intro hE.fn ?_
  rw [sleep_Clash_eq]
  simp only [stp_len, stp_pick, stp_t, stp_kind, stp_loc, and_self, if_true, Writes_R hE.c257, Fences_R hE.c265, touches_R hE.c401, c1_ok, asI_ok, asB_ok, scK_or, scK_and]
  unfold clash
  split
  · rfl
  · split <;> rfl

theorem refWrites_R (hE : jacquardref16_Writes_In E) (s : Stp) (m : Int) (h : AHeap) : R E 176 [.agg s.cs, .c (.int .i64 m)] h = some ([.c (.bool (wrS s m))], h) := by
  refine R_intro hE.fn ?_
  rw [jacquardref16_Writes_eq]
  simp only [stp_kind, asI_ok, scK_or, scK_and, scK_ok]
  unfold wrS
  rw [Bool.and_comm (m == 1)]

theorem refreads_R (hE : jacquardref16_reads_In E) (s : Stp) (h : AHeap) : R E 412 [.agg s.cs] h = some ([.c (.bool (rdS s))], h) := by
  refine R_intro hE.fn ?_
  rw [jacquardref16_reads_eq]
  simp only [stp_kind, asI_ok, scK_or, scK_and, scK_ok]
  rfl

theorem refown_R (hE : jacquardref16_own_In E) (a b : Stp) (h : AHeap) : R E 411 [.agg a.cs, .agg b.cs] h = some ([.c (.bool (a.kind == 6 && fnS b))], h) := by
  refine R_intro hE.fn ?_
  rw [jacquardref16_own_eq]
  simp only [stp_kind, asI_ok, scK_or, scK_and, scK_ok]
  rfl

theorem refClash_R (hE : jacquardref16_Clash_In E) (a b : Stp) (m : Int) (h : AHeap) : R E 409 [.agg a.cs, .agg b.cs, .c (.int .i64 m)] h = some ([.c (.bool (clash a b m))], h) := by
  refine R_intro hE.fn ?_
  rw [jacquardref16_Clash_eq]
  simp only [stp_len, stp_pick, stp_t, stp_loc, and_self, if_true, refWrites_R hE.c176, refreads_R hE.c412, refown_R hE.c411, qh_ok, c1_ok, asI_ok, asB_ok, scK_or, scK_and]
  unfold clash
  split
  · rfl
  · split <;> rfl

theorem Covers_R (hE : sleep_Covers_In E) {a b : Nat} (ha : a < 2 ^ 64) (hb : b < 2 ^ 64) (h : AHeap) : R E 368 [.c (.int .u64 (a : Int)), .c (.int .u64 (b : Int))] h = some ([.c (.bool (b == 0 || (a &&& b) != 0))], h) := by
  refine R_intro hE.fn ?_
  rw [sleep_Covers_eq, g_band ha hb, scK_or, show ((b : Int) == 0) = (b == 0) by rw [Bool.eq_iff_iff]; simp, show (((a &&& b : Nat) : Int) != 0) = ((a &&& b) != 0) by rw [Bool.eq_iff_iff]; simp]

theorem Wake_R (hE : sleep_Wake_In E) {s : Nat} (hs : s < 2 ^ 64) {x : Cell} {l : List Stp} {h : AHeap} (hx : SlAt h x 7 (stepsC l) l.length) (hl : l.length < 9223372036854775807) (a : Stp) (m : Int) :
    R E 406 [.c (.int .u64 (s : Int)), .c x, .agg a.cs, .c (.int .i64 m)] h = some ([.c (.int .u64 ((wakeS a m l s : Nat) : Int))], h) := by
  refine R_intro hE.fn ?_
  have loop : ∀ (t : List Stp) (i s : Nat), l.drop i = t → s < 2 ^ 64 → Lim (sleep_Wake_F1 (R E) Lim E.glob) (sleep_Wake_s1 s m x l.length (i : Int) a.cs h) = some (.exit 0, sleep_Wake_x1_1 (wakeS a m t s : Nat) h) := by
    intro t
    induction t with
    | nil =>
      intro i s hd hs
      have : l.length ≤ i := by
        have := congrArg List.length hd
        simp at this; omega
      refine Lim_exit ?_
      rw [sleep_Wake_r1, if_neg (by simp; omega)]; rfl
    | cons q t ih =>
      intro i s hd hs
      have hi : i < l.length := by
        have := congrArg List.length hd
        simp at this; omega
      have hq : l[i]? = some q := by
        have := congrArg (fun z => z[0]?) hd
        simpa [List.getElem?_drop] using this
      have hd2 : l.drop (i + 1) = t := by
        have := congrArg (List.drop 1) hd
        simpa [List.drop_drop] using this
      rw [wakeS]
      have hnx : (if clash q a m = true then ndiff s (bitI q.pick) else s) < 2 ^ 64 := by
        split
        · exact ndiff_lt hs
        · exact hs
      refine Lim_next ?_ (ih (i + 1) _ hd2 hnx)
      rw [sleep_Wake_r1, if_pos (by simp; omega)]
      obtain ⟨off, cs', hG, hle, hcs⟩ := hx.stepG hq
      rw [hG, if_pos hle, hcs]
      rw [if_pos ⟨rfl, rfl, rfl⟩, if_pos ⟨rfl, rfl⟩, if_pos ⟨rfl, rfl⟩, Clash_R hE.c390, c1_ok, asB_ok, g_succ (by omega)]
      by_cases hc : clash q a m = true
      · rw [if_pos hc, if_pos hc, stp_pick, asI_ok, Without_R hE.c63 hs, c1_ok, asI_ok]
      · rw [if_neg hc, if_neg hc]
  have l0 := loop l 0 s rfl hs
  rw [show ((0 : Nat) : Int) = 0 from rfl] at l0
  rw [sleep_Wake_eq, hx.len, l0, bind_ok, sleep_Wake_e1_1]

/-- May the one at a place be first, of those from a place on? -/
def frI (f : Nat → Nat) (a k : Nat) : Nat → Bool
  | 0 => true
  | i + 1 => frI f a k i && !(decide (a ≤ i) && (f i).testBit k)

/-- Who may be first, of the first so many. -/
def iniS (f : Nat → Nat) (l : List Int) (a : Nat) : Nat → Nat
  | 0 => 0
  | k + 1 => if (decide (a ≤ k) && frI f a k l.length) = true then iniS f l a k ||| bitI (l.getD k 0) else iniS f l a k

theorem iniS_lt (f : Nat → Nat) (l : List Int) (a : Nat) : ∀ k, iniS f l a k < 2 ^ 64
  | 0 => by rw [iniS]; omega
  | k + 1 => by
    rw [iniS]
    split
    · exact or_lt (iniS_lt f l a k) (bitI_lt _)
    · exact iniS_lt f l a k

theorem iniS_zero (f : Nat → Nat) (l : List Int) {a : Nat} : ∀ {k : Nat}, k ≤ a → iniS f l a k = 0
  | 0, _ => rfl
  | k + 1, h => by
    rw [iniS, show decide (a ≤ k) = false by simp; omega, Bool.false_and, if_neg (by simp)]
    exact iniS_zero f l (by omega)

theorem frI_true (f : Nat → Nat) (k : Nat) {a : Nat} : ∀ {i : Nat}, i ≤ a → frI f a k i = true
  | 0, _ => rfl
  | i + 1, h => by
    rw [frI, show decide (a ≤ i) = false by simp; omega, frI_true f k (by omega)]; rfl

theorem getD_int {l : List Int} {i : Nat} (hi : i < l.length) : l[i]? = some (l.getD i 0) := by
  rw [List.getD_eq_getElem?_getD, List.getElem?_eq_getElem hi]; rfl

/-- A walk over numbers that begins at a. -/
theorem Lim_from {F : St → Option (Ex × St)} (g : Nat → St) (a n : Nat) (hs : ∀ i, a ≤ i → i < n → F (g i) = some (.normal, g (i + 1))) {p} (hp : ∀ i, n ≤ i → (a ≤ i) → (i = a ∨ i = n) → Lim F (g i) = some p) : Lim F (g a) = some p := by
  by_cases h : a ≤ n
  · exact Lim_count g a n h hs (hp n (Nat.le_refl _) h (.inr rfl))
  · exact hp a (by omega) (Nat.le_refl _) (.inl rfl)

theorem Initials_R (hE : sleep_Initials_In E) {n : Nat} (hn : n ≤ 64) {f : Nat → Nat} (hf : Words f) {x : Cell} {l : List Int} {h : AHeap} (hx : SlAt h x 1 (intC .i64 l) l.length) (hl : l.length ≤ n) {a0 : Int} (a : Nat) (ha : (if 0 > a0 then 0 else a0) = (a : Int)) :
    R E 408 [.agg (relL n f), .c x, .c (.int .i64 a0)] h = some ([.c (.int .u64 ((iniS f l a l.length : Nat) : Int))], h) := by
  refine R_intro hE.fn ?_
  have inner : ∀ (s k : Nat), k < l.length → Lim (sleep_Initials_F1 (R E) Lim E.glob) (sleep_Initials_s1 x a s k true (a : Int) (relL n f) h) = some (.exit 2, sleep_Initials_x1_3 x a s k (frI f a k l.length) (relL n f) h) := by
    intro s k hk
    rw [show sleep_Initials_s1 x a s k true (a : Int) (relL n f) h = (fun i : Nat => sleep_Initials_s1 x a s k (frI f a k i) (i : Int) (relL n f) h) a by dsimp only; rw [frI_true f k (Nat.le_refl a)]]
    refine Lim_from (fun i : Nat => sleep_Initials_s1 x a s k (frI f a k i) (i : Int) (relL n f) h) a l.length (fun i hi1 hi2 => ?_) (fun i hi1 hi2 hi3 => Lim_exit ?_)
    · rw [sleep_Initials_r1, hx.len, if_pos (by simp; omega), frI]
      cases frI f a k i with
      | false => rw [scK_ft, Bool.false_and, g_succ (by omega)]
      | true =>
        have hr : hasR n f (i : Int) (k : Int) = (f i).testBit k := by
          unfold hasR
          rw [inR_nat, hasI_nat (by omega), Int.toNat_natCast]
          simp; omega
        rw [scK_ok, if_pos ⟨rfl, relL_len _ _⟩, HasR_R hE.c3 hn hf, c1_ok, asB_ok, hr, bind_ok]
        dsimp only
        rw [g_succ (by omega), show decide (a ≤ i) = true by simpa using hi1, Bool.true_and, Bool.true_and]
    · rw [sleep_Initials_r1, hx.len, if_neg (by simp; omega)]
      have : frI f a k i = frI f a k l.length := by
        rcases hi3 with e | e
        · rw [frI_true f k (by omega), frI_true f k (by omega)]
        · rw [e]
      rw [this]
  have outer : Lim (sleep_Initials_F2 (R E) Lim E.glob) (sleep_Initials_s2 x a 0 (a : Int) (relL n f) h) = some (.exit 0, sleep_Initials_x2_1 (iniS f l a l.length : Nat) h) := by
    rw [show sleep_Initials_s2 x a 0 (a : Int) (relL n f) h = (fun k : Nat => sleep_Initials_s2 x a (iniS f l a k : Nat) (k : Int) (relL n f) h) a by dsimp only; rw [iniS_zero f l (Nat.le_refl a)]; rfl]
    refine Lim_from (fun k : Nat => sleep_Initials_s2 x a (iniS f l a k : Nat) (k : Int) (relL n f) h) a l.length (fun k hk1 hk2 => ?_) (fun k hk1 hk2 hk3 => Lim_exit ?_)
    · rw [sleep_Initials_r2, hx.len, if_pos (by simp; omega), inner _ k hk2, bind_ok, sleep_Initials_e1_3, iniS, show decide (a ≤ k) = true by simpa using hk1, Bool.true_and]
      split
      · rw [hx.get1 hk2 (intC_get (getD_int hk2)), asI_ok, With_R hE.c18 (iniS_lt f l a k), c1_ok, asI_ok, g_succ (by omega)]
      · rw [g_succ (by omega)]
    · rw [sleep_Initials_r2, hx.len, if_neg (by simp; omega)]
      have : iniS f l a k = iniS f l a l.length := by
        rcases hk3 with e | e
        · rw [iniS_zero f l (by omega), iniS_zero f l (by omega)]
        · rw [e]
      rw [this]
  rw [sleep_Initials_eq, ha, outer, bind_ok, sleep_Initials_e2_1]

end
end Jq

namespace Jq
open Go

/- jacquard/jacquardlaw21.awake: 403 -/
set_option maxRecDepth 100000 in
theorem jacquardlaw21_awake_eq (C : CallF) (L : LoopF) (G : Glo)  (h0 : AHeap) :
    jacquardlaw21_awake.body C L G [] h0 =
    if 0 = 0 ∧ (List.replicate 7 (Cell.int .i64 0)).length = 7 ∧ (splice (splice (splice (List.replicate 7 (Cell.int .i64 0)) 0 ([(.int .i64 0)] : List Cell)) 1 ([(.int .i64 0)] : List Cell)) 2 ([(.int .i64 1)] : List Cell)).length = 7 then if 0 = 0 ∧ (List.replicate 7 (Cell.int .i64 0)).length = 7 ∧ (splice (splice (splice (List.replicate 7 (Cell.int .i64 0)) 0 ([(.int .i64 1)] : List Cell)) 1 ([(.int .i64 1)] : List Cell)) 2 ([(.int .i64 1)] : List Cell)).length = 7 then if 0 = 0 ∧ (splice (splice (splice (List.replicate 7 (Cell.int .i64 0)) 0 ([(.int .i64 0)] : List Cell)) 1 ([(.int .i64 0)] : List Cell)) 2 ([(.int .i64 1)] : List Cell)).length = 7 then if 0 = 0 ∧ (splice (splice (splice (List.replicate 7 (Cell.int .i64 0)) 0 ([(.int .i64 1)] : List Cell)) 1 ([(.int .i64 1)] : List Cell)) 2 ([(.int .i64 1)] : List Cell)).length = 7 then c1 (C 390 [(.agg (splice (splice (splice (List.replicate 7 (Cell.int .i64 0)) 0 ([(.int .i64 0)] : List Cell)) 1 ([(.int .i64 0)] : List Cell)) 2 ([(.int .i64 1)] : List Cell))), (.agg (splice (splice (splice (List.replicate 7 (Cell.int .i64 0)) 0 ([(.int .i64 1)] : List Cell)) 1 ([(.int .i64 1)] : List Cell)) 2 ([(.int .i64 1)] : List Cell))), (.c (.int .i64 1))] h0) fun y_2 h_1 => asB y_2 fun b_3 => scK (!b_3) true (c1 (C 9 [(.c (.int .i64 2))] h_1) fun y_5 h_4 => asA y_5 fun l_6 => if (splice (splice [Cell.int .i64 0, Cell.int .i64 0] 0 ([(.int .i64 0)] : List Cell)) 1 ([(.int .i64 1)] : List Cell)).length = 2 * 1 then c1 (C 408 [(.agg l_6), (.c (.sl h_4.length ((splice (splice [Cell.int .i64 0, Cell.int .i64 0] 0 ([(.int .i64 0)] : List Cell)) 1 ([(.int .i64 1)] : List Cell)).length) 0 2)), (.c (.int .i64 0))] (h_4 ++ [some (Blk.mk true 1 (splice (splice [Cell.int .i64 0, Cell.int .i64 0] 0 ([(.int .i64 0)] : List Cell)) 1 ([(.int .i64 1)] : List Cell)))])) fun y_8 h_7 => asI .u64 y_8 fun n_9 => some ((n_9 == 3), h_7) else none) false h_1 fun b_10 h_11 => scK b_10 true (c1 (C 368 [(.c (.int .u64 1)), (.c (.int .u64 0))] h_11) fun y_13 h_12 => asB y_13 fun b_14 => some (b_14, h_12)) false h_11 fun b_15 h_16 => scK b_15 true (c1 (C 368 [(.c (.int .u64 1)), (.c (.int .u64 2))] h_16) fun y_18 h_17 => asB y_18 fun b_19 => some ((!b_19), h_17)) false h_16 fun b_20 h_21 => finish true h0 [(.c (.bool b_20))] h_21 else none else none else none else none := by kernel_rfl

/- jacquard/jacquardlaw21.SleepWakes: 407 -/
def jacquardlaw21_SleepWakes_k2 (C : CallF) (L : LoopF) (G : Glo) (h0 : AHeap) : Ex → St → Option (List AV × AHeap) :=
  kSeq (fun st => jacquardlaw21_SleepWakes_p1.exec C L G st (jacquardlaw21_SleepWakes.fin G h0)) (jacquardlaw21_SleepWakes.fin G h0)
def jacquardlaw21_SleepWakes_k3 (C : CallF) (L : LoopF) (G : Glo) (h0 : AHeap) : Ex → St → Option (List AV × AHeap) :=
  kBlk 0 (jacquardlaw21_SleepWakes_k2 C L G h0)
def jacquardlaw21_SleepWakes_s1 (x0 : Cell) (a2 : Int) (a3 : Int) (a9 : Int) (a10 : Int) (s0 : List Cell) (h : AHeap) : St := ⟨[.v (.c x0), .top, .v (.c (.int .i64 a2)), .v (.c (.int .u64 a3)), .top, .loc 0 0, .top, .top, .top, .v (.c (.int .u64 a9)), .v (.c (.int .i64 a10)), .top, .top, .top, .top, .top, .top, .top, .top, .top, .top, .top, .top, .top, .top, .top, .top, .top, .top, .top, .top, .top, .top, .top, .top, .top, .top, .top, .top, .top, .top, .top, .top, .top, .top, .top, .top, .top, .top, .top, .top, .top, .top, .top, .top, .top, .top, .top, .top, .top, .top, .top, .top, .top, .top, .top, .top, .top, .top, .top, .top, .top, .top, .top, .top, .top, .top, .top, .top, .top, .top, .top, .top, .top, .top], [some s0], h⟩
def jacquardlaw21_SleepWakes_F1 (C : CallF) (L : LoopF) (G : Glo) : St → Option (Ex × St) :=
  roundF (fun st f => jacquardlaw21_SleepWakes_b1.exec C L G st f) [0, 2, 3, 5, 9, 10] [0] [(0, [8], []), (1, [0, 2, 3, 5, 9], [0])]
def jacquardlaw21_SleepWakes_x1_0 (b8 : Bool) (h : AHeap) : St := ⟨[.top, .top, .top, .top, .top, .top, .top, .top, .v (.c (.bool b8)), .top, .top, .top, .top, .top, .top, .top, .top, .top, .top, .top, .top, .top, .top, .top, .top, .top, .top, .top, .top, .top, .top, .top, .top, .top, .top, .top, .top, .top, .top, .top, .top, .top, .top, .top, .top, .top, .top, .top, .top, .top, .top, .top, .top, .top, .top, .top, .top, .top, .top, .top, .top, .top, .top, .top, .top, .top, .top, .top, .top, .top, .top, .top, .top, .top, .top, .top, .top, .top, .top, .top, .top, .top, .top, .top, .top], [none], h⟩
def jacquardlaw21_SleepWakes_x1_1 (x0 : Cell) (a2 : Int) (a3 : Int) (a9 : Int) (s0 : List Cell) (h : AHeap) : St := ⟨[.v (.c x0), .top, .v (.c (.int .i64 a2)), .v (.c (.int .u64 a3)), .top, .loc 0 0, .top, .top, .top, .v (.c (.int .u64 a9)), .top, .top, .top, .top, .top, .top, .top, .top, .top, .top, .top, .top, .top, .top, .top, .top, .top, .top, .top, .top, .top, .top, .top, .top, .top, .top, .top, .top, .top, .top, .top, .top, .top, .top, .top, .top, .top, .top, .top, .top, .top, .top, .top, .top, .top, .top, .top, .top, .top, .top, .top, .top, .top, .top, .top, .top, .top, .top, .top, .top, .top, .top, .top, .top, .top, .top, .top, .top, .top, .top, .top, .top, .top, .top, .top], [some s0], h⟩
theorem jacquardlaw21_SleepWakes_r1 (C : CallF) (L : LoopF) (G : Glo) (x0 : Cell) (a2 : Int) (a3 : Int) (a9 : Int) (a10 : Int) (s0 : List Cell) (h : AHeap) :
    jacquardlaw21_SleepWakes_F1 C L G (jacquardlaw21_SleepWakes_s1 x0 a2 a3 a9 a10 s0 h) =
    lenK x0 fun n_8 => if (decide (a10 < n_8)) = true then idxSK 7 x0 a10 fun k_9 N_10 o_11 => rdH h k_9 N_10 fun l_12 => atK l_12 (o_11 + 0) fun q_13 => asI .i64 (.c q_13) fun n_14 => scK (decide (n_14 ≥ 0)) true (idxSK 7 x0 a10 fun k_15 N_16 o_17 => rdH h k_15 N_16 fun l_18 => atK l_18 (o_17 + 0) fun q_19 => asI .i64 (.c q_19) fun n_20 => some ((decide (n_20 < 64)), h)) false h fun b_21 h_22 => scK b_21 true (idxSK 7 x0 a10 fun k_23 N_24 o_25 => rdH h_22 k_23 N_24 fun l_26 => if o_25 + 7 ≤ l_26.length then if 0 = 0 ∧ s0.length = 7 then c1 (qh h_22 (C 390 [(.agg ((l_26.drop o_25).take 7)), (.agg s0), (.c (.int .i64 a2))] h_22)) fun y_28 h_27 => asB y_28 fun b_29 => some (b_29, h_22) else none else none) false h_22 fun b_30 h_31 => scK b_30 true (idxSK 7 x0 a10 fun k_32 N_33 o_34 => rdH h_31 k_32 N_33 fun l_35 => atK l_35 (o_34 + 0) fun q_36 => asI .i64 (.c q_36) fun n_37 => c1 (qh h_31 (C 17 [(.c (.int .u64 a9)), (.c (.int .i64 n_37))] h_31)) fun y_39 h_38 => asB y_39 fun b_40 => some (b_40, h_31)) false h_31 fun b_41 h_42 => if b_41 = true then some (.ret, (jacquardlaw21_SleepWakes_x1_0 false h_42)) else some (.normal, (jacquardlaw21_SleepWakes_s1 x0 a2 a3 a9 (G.wrap .i64 (a10 + 1)) s0 h_42)) else some ((.exit 0), (jacquardlaw21_SleepWakes_x1_1 x0 a2 a3 a9 s0 h)) := by kernel_rfl
theorem jacquardlaw21_SleepWakes_e1_0 (C : CallF) (L : LoopF) (G : Glo) (h0 : AHeap) (b8 : Bool) (h : AHeap) :
    (jacquardlaw21_SleepWakes_k3 C L G h0) .ret (jacquardlaw21_SleepWakes_x1_0 b8 h) =
    some ([(.c (.bool b8))], h) := by kernel_rfl
theorem jacquardlaw21_SleepWakes_e1_1 (C : CallF) (L : LoopF) (G : Glo) (h0 : AHeap) (x0 : Cell) (a2 : Int) (a3 : Int) (a9 : Int) (s0 : List Cell) (h : AHeap) :
    (jacquardlaw21_SleepWakes_k3 C L G h0) (.exit 0) (jacquardlaw21_SleepWakes_x1_1 x0 a2 a3 a9 s0 h) =
    if 0 = 0 ∧ s0.length = 7 then c1 (C 406 [(.c (.int .u64 a9)), (.c x0), (.agg s0), (.c (.int .i64 a2))] h) fun y_44 h_43 => asI .u64 y_44 fun n_45 => scK (n_45 == a9) true (if 0 = 0 ∧ s0.length = 7 then c1 (C 406 [(.c (.int .u64 a3)), (.c .nils), (.agg s0), (.c (.int .i64 a2))] h_43) fun y_47 h_46 => asI .u64 y_47 fun n_48 => some ((n_48 == a3), h_46) else none) false h_43 fun b_49 h_50 => scK b_49 true (c1 (C 368 [(.c (.int .u64 a3)), (.c (.int .u64 a3))] h_50) fun y_52 h_51 => asB y_52 fun b_53 => some (b_53, h_51)) false h_50 fun b_54 h_55 => scK b_54 true (c1 (C 403 [] h_55) fun y_57 h_56 => asB y_57 fun b_58 => some (b_58, h_56)) false h_55 fun b_59 h_60 => some ([(.c (.bool b_59))], h_60) else none := by kernel_rfl
set_option maxRecDepth 100000 in
theorem jacquardlaw21_SleepWakes_eq (C : CallF) (L : LoopF) (G : Glo) (x0 : Cell) (l1 : List Cell) (a2 : Int) (a3 : Int) (h0 : AHeap) :
    jacquardlaw21_SleepWakes.body C L G [(.c x0), (.agg l1), (.c (.int .i64 a2)), (.c (.int .u64 a3))] h0 =
    lenK x0 fun n_1 => if (decide (n_1 > 40)) = true then c1 (C 403 [] h0) fun y_3 h_2 => asB y_3 fun b_4 => some ([(.c (.bool b_4))], h_2) else if 0 = 0 ∧ l1.length = 7 then c1 (C 406 [(.c (.int .u64 a3)), (.c x0), (.agg l1), (.c (.int .i64 a2))] h0) fun y_6 h_5 => asI .u64 y_6 fun n_7 => if ((G.bandNot .u64 n_7 a3) != 0) = true then some ([(.c (.bool false))], h_5) else (L (jacquardlaw21_SleepWakes_F1 C L G) (jacquardlaw21_SleepWakes_s1 x0 a2 a3 n_7 0 l1 h_5)).bind fun p_61 => (jacquardlaw21_SleepWakes_k3 C L G h0) p_61.1 p_61.2 else none := by kernel_rfl

/- jacquard/jacquardlaw21.SleepTells: 410 -/
def jacquardlaw21_SleepTells_k2 (C : CallF) (L : LoopF) (G : Glo) (h0 : AHeap) : Ex → St → Option (List AV × AHeap) :=
  kSeq (fun st => jacquardlaw21_SleepTells_p1.exec C L G st (jacquardlaw21_SleepTells.fin G h0)) (jacquardlaw21_SleepTells.fin G h0)
def jacquardlaw21_SleepTells_k3 (C : CallF) (L : LoopF) (G : Glo) (h0 : AHeap) : Ex → St → Option (List AV × AHeap) :=
  kBlk 0 (jacquardlaw21_SleepTells_k2 C L G h0)
def jacquardlaw21_SleepTells_s2 (x0 : Cell) (a2 : Int) (x4 : Cell) (a5 : Int) (a6 : Int) (a7 : Int) (a17 : Int) (k19 : Nat) (N19 : Nat) (o19 : Nat) (a20 : Int) (a21 : Int) (s0 : List Cell) (s1 : List Cell) (h : AHeap) : St := ⟨[.v (.c x0), .top, .v (.c (.int .i64 a2)), .top, .v (.c x4), .v (.c (.int .i64 a5)), .v (.c (.int .u64 a6)), .v (.c (.int .u64 a7)), .top, .top, .top, .loc 0 0, .top, .top, .top, .top, .top, .v (.c (.int .i64 a17)), .loc 1 0, .v (.c (.ptr k19 N19 o19)), .v (.c (.int .u64 a20)), .v (.c (.int .i64 a21)), .top, .top, .top, .top, .top, .top, .top, .top, .top, .top, .top, .top, .top, .top, .top, .top, .top, .top, .top, .top, .top, .top, .top, .top, .top, .top, .top, .top, .top, .top, .top, .top, .top, .top, .top, .top, .top, .top, .top, .top, .top, .top, .top, .top, .top, .top, .top, .top, .top, .top, .top, .top, .top, .top, .top, .top, .top, .top, .top, .top, .top, .top, .top, .top, .top, .top, .top, .top, .top, .top, .top, .top, .top, .top, .top, .top, .top, .top, .top, .top, .top, .top, .top, .top, .top, .top, .top, .top, .top, .top, .top, .top, .top, .top, .top, .top, .top, .top, .top, .top, .top, .top, .top, .top, .top, .top, .top, .top, .top, .top, .top, .top, .top, .top, .top, .top, .top, .top, .top, .top, .top, .top, .top, .top, .top, .top, .top, .top, .top, .top, .top, .top, .top, .top, .top, .top, .top, .top, .top, .top, .top, .top, .top, .top, .top, .top, .top, .top, .top, .top, .top, .top, .top, .top], [some s0, some s1], h⟩
def jacquardlaw21_SleepTells_F2 (C : CallF) (L : LoopF) (G : Glo) : St → Option (Ex × St) :=
  roundF (fun st f => jacquardlaw21_SleepTells_b2.exec C L G st f) [0, 2, 4, 5, 6, 7, 11, 17, 18, 19, 20, 21] [0, 1] [(1, [0, 2, 4, 5, 6, 7, 11, 18, 20], [0, 1])]
def jacquardlaw21_SleepTells_k4 (C : CallF) (L : LoopF) (G : Glo) : Ex → St → Option (Ex × St) :=
  kSeq (fun st => jacquardlaw21_SleepTells_p2.exec C L G st (kLoop [0, 2, 4, 5, 6, 7, 11, 17, 18, 19, 20, 21] [0, 1] [(1, [0, 2, 4, 5, 6, 7, 11, 18, 20], [0, 1])])) (kLoop [0, 2, 4, 5, 6, 7, 11, 17, 18, 19, 20, 21] [0, 1] [(1, [0, 2, 4, 5, 6, 7, 11, 18, 20], [0, 1])])
def jacquardlaw21_SleepTells_k5 (C : CallF) (L : LoopF) (G : Glo) : Ex → St → Option (Ex × St) :=
  kBlk 1 (jacquardlaw21_SleepTells_k4 C L G)
def jacquardlaw21_SleepTells_k6 (C : CallF) (L : LoopF) (G : Glo) : Ex → St → Option (Ex × St) :=
  kSeq (fun st => jacquardlaw21_SleepTells_p3.exec C L G st (jacquardlaw21_SleepTells_k5 C L G)) (jacquardlaw21_SleepTells_k5 C L G)
def jacquardlaw21_SleepTells_k7 (C : CallF) (L : LoopF) (G : Glo) : Ex → St → Option (Ex × St) :=
  kBlk 2 (jacquardlaw21_SleepTells_k6 C L G)
def jacquardlaw21_SleepTells_s1 (x0 : Cell) (a2 : Int) (x4 : Cell) (a5 : Int) (a6 : Int) (a7 : Int) (a17 : Int) (k19 : Nat) (N19 : Nat) (o19 : Nat) (a20 : Int) (a21 : Int) (b22 : Bool) (a23 : Int) (s0 : List Cell) (s1 : List Cell) (h : AHeap) : St := ⟨[.v (.c x0), .top, .v (.c (.int .i64 a2)), .top, .v (.c x4), .v (.c (.int .i64 a5)), .v (.c (.int .u64 a6)), .v (.c (.int .u64 a7)), .top, .top, .top, .loc 0 0, .top, .top, .top, .top, .top, .v (.c (.int .i64 a17)), .loc 1 0, .v (.c (.ptr k19 N19 o19)), .v (.c (.int .u64 a20)), .v (.c (.int .i64 a21)), .v (.c (.bool b22)), .v (.c (.int .i64 a23)), .top, .top, .top, .top, .top, .top, .top, .top, .top, .top, .top, .top, .top, .top, .top, .top, .top, .top, .top, .top, .top, .top, .top, .top, .top, .top, .top, .top, .top, .top, .top, .top, .top, .top, .top, .top, .top, .top, .top, .top, .top, .top, .top, .top, .top, .top, .top, .top, .top, .top, .top, .top, .top, .top, .top, .top, .top, .top, .top, .top, .top, .top, .top, .top, .top, .top, .top, .top, .top, .top, .top, .top, .top, .top, .top, .top, .top, .top, .top, .top, .top, .top, .top, .top, .top, .top, .top, .top, .top, .top, .top, .top, .top, .top, .top, .top, .top, .top, .top, .top, .top, .top, .top, .top, .top, .top, .top, .top, .top, .top, .top, .top, .top, .top, .top, .top, .top, .top, .top, .top, .top, .top, .top, .top, .top, .top, .top, .top, .top, .top, .top, .top, .top, .top, .top, .top, .top, .top, .top, .top, .top, .top, .top, .top, .top, .top, .top, .top, .top, .top, .top, .top], [some s0, some s1], h⟩
def jacquardlaw21_SleepTells_F1 (C : CallF) (L : LoopF) (G : Glo) : St → Option (Ex × St) :=
  roundF (fun st f => jacquardlaw21_SleepTells_b1.exec C L G st f) [0, 2, 4, 5, 6, 7, 11, 17, 18, 19, 20, 21, 22, 23] [0, 1] [(3, [0, 2, 4, 5, 6, 7, 11, 17, 18, 19, 20, 21, 22], [0, 1])]
def jacquardlaw21_SleepTells_x1_3 (x0 : Cell) (a2 : Int) (x4 : Cell) (a5 : Int) (a6 : Int) (a7 : Int) (a17 : Int) (k19 : Nat) (N19 : Nat) (o19 : Nat) (a20 : Int) (a21 : Int) (b22 : Bool) (s0 : List Cell) (s1 : List Cell) (h : AHeap) : St := ⟨[.v (.c x0), .top, .v (.c (.int .i64 a2)), .top, .v (.c x4), .v (.c (.int .i64 a5)), .v (.c (.int .u64 a6)), .v (.c (.int .u64 a7)), .top, .top, .top, .loc 0 0, .top, .top, .top, .top, .top, .v (.c (.int .i64 a17)), .loc 1 0, .v (.c (.ptr k19 N19 o19)), .v (.c (.int .u64 a20)), .v (.c (.int .i64 a21)), .v (.c (.bool b22)), .top, .top, .top, .top, .top, .top, .top, .top, .top, .top, .top, .top, .top, .top, .top, .top, .top, .top, .top, .top, .top, .top, .top, .top, .top, .top, .top, .top, .top, .top, .top, .top, .top, .top, .top, .top, .top, .top, .top, .top, .top, .top, .top, .top, .top, .top, .top, .top, .top, .top, .top, .top, .top, .top, .top, .top, .top, .top, .top, .top, .top, .top, .top, .top, .top, .top, .top, .top, .top, .top, .top, .top, .top, .top, .top, .top, .top, .top, .top, .top, .top, .top, .top, .top, .top, .top, .top, .top, .top, .top, .top, .top, .top, .top, .top, .top, .top, .top, .top, .top, .top, .top, .top, .top, .top, .top, .top, .top, .top, .top, .top, .top, .top, .top, .top, .top, .top, .top, .top, .top, .top, .top, .top, .top, .top, .top, .top, .top, .top, .top, .top, .top, .top, .top, .top, .top, .top, .top, .top, .top, .top, .top, .top, .top, .top, .top, .top, .top, .top, .top, .top, .top, .top], [some s0, some s1], h⟩
def jacquardlaw21_SleepTells_x2_1 (x0 : Cell) (a2 : Int) (x4 : Cell) (a5 : Int) (a6 : Int) (a7 : Int) (a20 : Int) (s0 : List Cell) (s1 : List Cell) (h : AHeap) : St := ⟨[.v (.c x0), .top, .v (.c (.int .i64 a2)), .top, .v (.c x4), .v (.c (.int .i64 a5)), .v (.c (.int .u64 a6)), .v (.c (.int .u64 a7)), .top, .top, .top, .loc 0 0, .top, .top, .top, .top, .top, .top, .loc 1 0, .top, .v (.c (.int .u64 a20)), .top, .top, .top, .top, .top, .top, .top, .top, .top, .top, .top, .top, .top, .top, .top, .top, .top, .top, .top, .top, .top, .top, .top, .top, .top, .top, .top, .top, .top, .top, .top, .top, .top, .top, .top, .top, .top, .top, .top, .top, .top, .top, .top, .top, .top, .top, .top, .top, .top, .top, .top, .top, .top, .top, .top, .top, .top, .top, .top, .top, .top, .top, .top, .top, .top, .top, .top, .top, .top, .top, .top, .top, .top, .top, .top, .top, .top, .top, .top, .top, .top, .top, .top, .top, .top, .top, .top, .top, .top, .top, .top, .top, .top, .top, .top, .top, .top, .top, .top, .top, .top, .top, .top, .top, .top, .top, .top, .top, .top, .top, .top, .top, .top, .top, .top, .top, .top, .top, .top, .top, .top, .top, .top, .top, .top, .top, .top, .top, .top, .top, .top, .top, .top, .top, .top, .top, .top, .top, .top, .top, .top, .top, .top, .top, .top, .top, .top, .top, .top, .top, .top, .top, .top, .top, .top], [some s0, some s1], h⟩
def jacquardlaw21_SleepTells_k8 (C : CallF) (L : LoopF) (G : Glo) (h0 : AHeap) : Ex → St → Option (List AV × AHeap) :=
  kSeq (fun st => jacquardlaw21_SleepTells_p4.exec C L G st (jacquardlaw21_SleepTells.fin G h0)) (jacquardlaw21_SleepTells.fin G h0)
def jacquardlaw21_SleepTells_k9 (C : CallF) (L : LoopF) (G : Glo) (h0 : AHeap) : Ex → St → Option (List AV × AHeap) :=
  kBlk 4 (jacquardlaw21_SleepTells_k8 C L G h0)
def jacquardlaw21_SleepTells_s3 (x4 : Cell) (a5 : Int) (a6 : Int) (a7 : Int) (a24 : Int) (a25 : Int) (s0 : List Cell) (h : AHeap) : St := ⟨[.top, .top, .top, .top, .v (.c x4), .v (.c (.int .i64 a5)), .v (.c (.int .u64 a6)), .v (.c (.int .u64 a7)), .top, .top, .top, .loc 0 0, .top, .top, .top, .top, .top, .top, .top, .top, .top, .top, .top, .top, .v (.c (.int .u64 a24)), .v (.c (.int .i64 a25)), .top, .top, .top, .top, .top, .top, .top, .top, .top, .top, .top, .top, .top, .top, .top, .top, .top, .top, .top, .top, .top, .top, .top, .top, .top, .top, .top, .top, .top, .top, .top, .top, .top, .top, .top, .top, .top, .top, .top, .top, .top, .top, .top, .top, .top, .top, .top, .top, .top, .top, .top, .top, .top, .top, .top, .top, .top, .top, .top, .top, .top, .top, .top, .top, .top, .top, .top, .top, .top, .top, .top, .top, .top, .top, .top, .top, .top, .top, .top, .top, .top, .top, .top, .top, .top, .top, .top, .top, .top, .top, .top, .top, .top, .top, .top, .top, .top, .top, .top, .top, .top, .top, .top, .top, .top, .top, .top, .top, .top, .top, .top, .top, .top, .top, .top, .top, .top, .top, .top, .top, .top, .top, .top, .top, .top, .top, .top, .top, .top, .top, .top, .top, .top, .top, .top, .top, .top, .top, .top, .top, .top, .top, .top, .top, .top, .top, .top, .top, .top, .top], [some s0, none], h⟩
def jacquardlaw21_SleepTells_F3 (C : CallF) (L : LoopF) (G : Glo) : St → Option (Ex × St) :=
  roundF (fun st f => jacquardlaw21_SleepTells_b3.exec C L G st f) [4, 5, 6, 7, 11, 24, 25] [0] [(0, [16], []), (5, [4, 5, 6, 7, 11, 24], [0])]
def jacquardlaw21_SleepTells_x3_0 (b16 : Bool) (h : AHeap) : St := ⟨[.top, .top, .top, .top, .top, .top, .top, .top, .top, .top, .top, .top, .top, .top, .top, .top, .v (.c (.bool b16)), .top, .top, .top, .top, .top, .top, .top, .top, .top, .top, .top, .top, .top, .top, .top, .top, .top, .top, .top, .top, .top, .top, .top, .top, .top, .top, .top, .top, .top, .top, .top, .top, .top, .top, .top, .top, .top, .top, .top, .top, .top, .top, .top, .top, .top, .top, .top, .top, .top, .top, .top, .top, .top, .top, .top, .top, .top, .top, .top, .top, .top, .top, .top, .top, .top, .top, .top, .top, .top, .top, .top, .top, .top, .top, .top, .top, .top, .top, .top, .top, .top, .top, .top, .top, .top, .top, .top, .top, .top, .top, .top, .top, .top, .top, .top, .top, .top, .top, .top, .top, .top, .top, .top, .top, .top, .top, .top, .top, .top, .top, .top, .top, .top, .top, .top, .top, .top, .top, .top, .top, .top, .top, .top, .top, .top, .top, .top, .top, .top, .top, .top, .top, .top, .top, .top, .top, .top, .top, .top, .top, .top, .top, .top, .top, .top, .top, .top, .top, .top, .top, .top, .top, .top, .top, .top, .top, .top, .top, .top], [none, none], h⟩
def jacquardlaw21_SleepTells_x3_5 (x4 : Cell) (a5 : Int) (a6 : Int) (a7 : Int) (a24 : Int) (s0 : List Cell) (h : AHeap) : St := ⟨[.top, .top, .top, .top, .v (.c x4), .v (.c (.int .i64 a5)), .v (.c (.int .u64 a6)), .v (.c (.int .u64 a7)), .top, .top, .top, .loc 0 0, .top, .top, .top, .top, .top, .top, .top, .top, .top, .top, .top, .top, .v (.c (.int .u64 a24)), .top, .top, .top, .top, .top, .top, .top, .top, .top, .top, .top, .top, .top, .top, .top, .top, .top, .top, .top, .top, .top, .top, .top, .top, .top, .top, .top, .top, .top, .top, .top, .top, .top, .top, .top, .top, .top, .top, .top, .top, .top, .top, .top, .top, .top, .top, .top, .top, .top, .top, .top, .top, .top, .top, .top, .top, .top, .top, .top, .top, .top, .top, .top, .top, .top, .top, .top, .top, .top, .top, .top, .top, .top, .top, .top, .top, .top, .top, .top, .top, .top, .top, .top, .top, .top, .top, .top, .top, .top, .top, .top, .top, .top, .top, .top, .top, .top, .top, .top, .top, .top, .top, .top, .top, .top, .top, .top, .top, .top, .top, .top, .top, .top, .top, .top, .top, .top, .top, .top, .top, .top, .top, .top, .top, .top, .top, .top, .top, .top, .top, .top, .top, .top, .top, .top, .top, .top, .top, .top, .top, .top, .top, .top, .top, .top, .top, .top, .top, .top, .top, .top], [some s0, none], h⟩
theorem jacquardlaw21_SleepTells_r1 (C : CallF) (L : LoopF) (G : Glo) (x0 : Cell) (a2 : Int) (x4 : Cell) (a5 : Int) (a6 : Int) (a7 : Int) (a17 : Int) (k19 : Nat) (N19 : Nat) (o19 : Nat) (a20 : Int) (a21 : Int) (b22 : Bool) (a23 : Int) (s0 : List Cell) (s1 : List Cell) (h : AHeap) :
    jacquardlaw21_SleepTells_F1 C L G (jacquardlaw21_SleepTells_s1 x0 a2 x4 a5 a6 a7 a17 k19 N19 o19 a20 a21 b22 a23 s0 s1 h) =
    if (decide (a23 < a17)) = true then scK b22 false (c1 (C 7 [(.c (.ptr k19 N19 o19)), (.c (.int .i64 a23)), (.c (.int .i64 a21))] h) fun y_17 h_16 => asB y_17 fun b_18 => some (b_18, h_16)) true h fun b_19 h_20 => some (.normal, (jacquardlaw21_SleepTells_s1 x0 a2 x4 a5 a6 a7 a17 k19 N19 o19 a20 a21 b_19 (G.wrap .i64 (a23 + 1)) s0 s1 h_20)) else some ((.exit 2), (jacquardlaw21_SleepTells_x1_3 x0 a2 x4 a5 a6 a7 a17 k19 N19 o19 a20 a21 b22 s0 s1 h)) := by kernel_rfl
theorem jacquardlaw21_SleepTells_e1_3 (C : CallF) (L : LoopF) (G : Glo) (x0 : Cell) (a2 : Int) (x4 : Cell) (a5 : Int) (a6 : Int) (a7 : Int) (a17 : Int) (k19 : Nat) (N19 : Nat) (o19 : Nat) (a20 : Int) (a21 : Int) (b22 : Bool) (s0 : List Cell) (s1 : List Cell) (h : AHeap) :
    (jacquardlaw21_SleepTells_k7 C L G) (.exit 2) (jacquardlaw21_SleepTells_x1_3 x0 a2 x4 a5 a6 a7 a17 k19 N19 o19 a20 a21 b22 s0 s1 h) =
    scK (!b22) true (idxSK 1 x0 a21 fun k_21 N_22 o_23 => rdH h k_21 N_22 fun l_24 => atK l_24 o_23 fun q_25 => asI .i64 (.c q_25) fun n_26 => some ((decide (n_26 ≥ 0)), h)) false h fun b_27 h_28 => scK b_27 true (idxSK 1 x0 a21 fun k_29 N_30 o_31 => rdH h_28 k_29 N_30 fun l_32 => atK l_32 o_31 fun q_33 => asI .i64 (.c q_33) fun n_34 => some ((decide (n_34 < 64)), h_28)) false h_28 fun b_35 h_36 => if b_35 = true then idxSK 1 x0 a21 fun k_37 N_38 o_39 => rdH h_36 k_37 N_38 fun l_40 => atK l_40 o_39 fun q_41 => asI .i64 (.c q_41) fun n_42 => if n_42 < 0 then none else some (.normal, (jacquardlaw21_SleepTells_s2 x0 a2 x4 a5 a6 a7 a17 k19 N19 o19 (G.bor .u64 a20 (G.shl .u64 1 n_42)) (G.wrap .i64 (a21 + 1)) s0 s1 h_36)) else some (.normal, (jacquardlaw21_SleepTells_s2 x0 a2 x4 a5 a6 a7 a17 k19 N19 o19 a20 (G.wrap .i64 (a21 + 1)) s0 s1 h_36)) := by kernel_rfl
theorem jacquardlaw21_SleepTells_r2 (C : CallF) (L : LoopF) (G : Glo) (x0 : Cell) (a2 : Int) (x4 : Cell) (a5 : Int) (a6 : Int) (a7 : Int) (a17 : Int) (k19 : Nat) (N19 : Nat) (o19 : Nat) (a20 : Int) (a21 : Int) (s0 : List Cell) (s1 : List Cell) (h : AHeap) :
    jacquardlaw21_SleepTells_F2 C L G (jacquardlaw21_SleepTells_s2 x0 a2 x4 a5 a6 a7 a17 k19 N19 o19 a20 a21 s0 s1 h) =
    if (decide (a21 < a17)) = true then (L (jacquardlaw21_SleepTells_F1 C L G) (jacquardlaw21_SleepTells_s1 x0 a2 x4 a5 a6 a7 a17 k19 N19 o19 a20 a21 false (if 0 > a2 then 0 else a2) s0 s1 h)).bind fun p_43 => (jacquardlaw21_SleepTells_k7 C L G) p_43.1 p_43.2 else some ((.exit 0), (jacquardlaw21_SleepTells_x2_1 x0 a2 x4 a5 a6 a7 a20 s0 s1 h)) := by kernel_rfl
theorem jacquardlaw21_SleepTells_r3 (C : CallF) (L : LoopF) (G : Glo) (x4 : Cell) (a5 : Int) (a6 : Int) (a7 : Int) (a24 : Int) (a25 : Int) (s0 : List Cell) (h : AHeap) :
    jacquardlaw21_SleepTells_F3 C L G (jacquardlaw21_SleepTells_s3 x4 a5 a6 a7 a24 a25 s0 h) =
    lenK x4 fun n_47 => if (decide (a25 < n_47)) = true then idxSK 7 x4 a25 fun k_48 N_49 o_50 => rdH h k_48 N_49 fun l_51 => if o_50 + 7 ≤ l_51.length then if 0 = 0 ∧ s0.length = 7 then c1 (qh h (C 409 [(.agg ((l_51.drop o_50).take 7)), (.agg s0), (.c (.int .i64 a5))] h)) fun y_53 h_52 => asB y_53 fun b_54 => idxSK 7 x4 a25 fun k_55 N_56 o_57 => rdH h k_55 N_56 fun l_58 => if o_57 + 7 ≤ l_58.length then if 0 = 0 ∧ s0.length = 7 then c1 (qh h (C 390 [(.agg ((l_58.drop o_57).take 7)), (.agg s0), (.c (.int .i64 a5))] h)) fun y_60 h_59 => asB y_60 fun b_61 => scK (!(b_61 == b_54)) false (if 0 = 0 ∧ s0.length = 7 then idxSK 7 x4 a25 fun k_62 N_63 o_64 => rdH h k_62 N_63 fun l_65 => if o_64 + 7 ≤ l_65.length then c1 (qh h (C 390 [(.agg s0), (.agg ((l_65.drop o_64).take 7)), (.c (.int .i64 a5))] h)) fun y_67 h_66 => asB y_67 fun b_68 => some ((!(b_68 == b_54)), h) else none else none) true h fun b_69 h_70 => if b_69 = true then some (.ret, (jacquardlaw21_SleepTells_x3_0 false h_70)) else scK b_54 true (idxSK 7 x4 a25 fun k_71 N_72 o_73 => rdH h_70 k_71 N_72 fun l_74 => atK l_74 (o_73 + 0) fun q_75 => asI .i64 (.c q_75) fun n_76 => some ((decide (n_76 ≥ 0)), h_70)) false h_70 fun b_77 h_78 => scK b_77 true (idxSK 7 x4 a25 fun k_79 N_80 o_81 => rdH h_78 k_79 N_80 fun l_82 => atK l_82 (o_81 + 0) fun q_83 => asI .i64 (.c q_83) fun n_84 => some ((decide (n_84 < 64)), h_78)) false h_78 fun b_85 h_86 => if b_85 = true then idxSK 7 x4 a25 fun k_87 N_88 o_89 => rdH h_86 k_87 N_88 fun l_90 => atK l_90 (o_89 + 0) fun q_91 => asI .i64 (.c q_91) fun n_92 => if n_92 < 0 then none else some (.normal, (jacquardlaw21_SleepTells_s3 x4 a5 a6 a7 (G.bandNot .u64 a24 (G.shl .u64 1 n_92)) (G.wrap .i64 (a25 + 1)) s0 h_86)) else some (.normal, (jacquardlaw21_SleepTells_s3 x4 a5 a6 a7 a24 (G.wrap .i64 (a25 + 1)) s0 h_86)) else none else none else none else none else some ((.exit 4), (jacquardlaw21_SleepTells_x3_5 x4 a5 a6 a7 a24 s0 h)) := by kernel_rfl
theorem jacquardlaw21_SleepTells_e3_0 (C : CallF) (L : LoopF) (G : Glo) (h0 : AHeap) (b16 : Bool) (h : AHeap) :
    (jacquardlaw21_SleepTells_k9 C L G h0) .ret (jacquardlaw21_SleepTells_x3_0 b16 h) =
    finish true h0 [(.c (.bool b16))] h := by kernel_rfl
theorem jacquardlaw21_SleepTells_e3_5 (C : CallF) (L : LoopF) (G : Glo) (h0 : AHeap) (x4 : Cell) (a5 : Int) (a6 : Int) (a7 : Int) (a24 : Int) (s0 : List Cell) (h : AHeap) :
    (jacquardlaw21_SleepTells_k9 C L G h0) (.exit 4) (jacquardlaw21_SleepTells_x3_5 x4 a5 a6 a7 a24 s0 h) =
    if 0 = 0 ∧ s0.length = 7 then c1 (C 406 [(.c (.int .u64 a6)), (.c x4), (.agg s0), (.c (.int .i64 a5))] h) fun y_94 h_93 => asI .u64 y_94 fun n_95 => scK (n_95 == a24) true (c1 (C 368 [(.c (.int .u64 a7)), (.c (.int .u64 a6))] h_93) fun y_97 h_96 => asB y_97 fun b_98 => scK (a6 == 0) false (some (((G.band .u64 a7 a6) != 0), h_96)) true h_96 fun b_99 h_100 => some ((b_98 == b_99), h_100)) false h_93 fun b_101 h_102 => scK b_101 true (c1 (C 403 [] h_102) fun y_104 h_103 => asB y_104 fun b_105 => some (b_105, h_103)) false h_102 fun b_106 h_107 => finish true h0 [(.c (.bool b_106))] h_107 else none := by kernel_rfl
theorem jacquardlaw21_SleepTells_e2_1 (C : CallF) (L : LoopF) (G : Glo) (h0 : AHeap) (x0 : Cell) (a2 : Int) (x4 : Cell) (a5 : Int) (a6 : Int) (a7 : Int) (a20 : Int) (s0 : List Cell) (s1 : List Cell) (h : AHeap) :
    (jacquardlaw21_SleepTells_k3 C L G h0) (.exit 0) (jacquardlaw21_SleepTells_x2_1 x0 a2 x4 a5 a6 a7 a20 s0 s1 h) =
    if 0 = 0 ∧ s1.length = 65 then c1 (C 408 [(.agg s1), (.c x0), (.c (.int .i64 a2))] h) fun y_45 h_44 => asI .u64 y_45 fun n_46 => if (n_46 != a20) = true then finish true h0 [(.c (.bool false))] h_44 else (L (jacquardlaw21_SleepTells_F3 C L G) (jacquardlaw21_SleepTells_s3 x4 a5 a6 a7 a6 0 s0 h_44)).bind fun p_108 => (jacquardlaw21_SleepTells_k9 C L G h0) p_108.1 p_108.2 else none := by kernel_rfl
set_option maxRecDepth 100000 in
theorem jacquardlaw21_SleepTells_eq (C : CallF) (L : LoopF) (G : Glo) (x0 : Cell) (x1 : Cell) (a2 : Int) (l3 : List Cell) (x4 : Cell) (a5 : Int) (a6 : Int) (a7 : Int) (h0 : AHeap) :
    jacquardlaw21_SleepTells.body C L G [(.c x0), (.c x1), (.c (.int .i64 a2)), (.agg l3), (.c x4), (.c (.int .i64 a5)), (.c (.int .u64 a6)), (.c (.int .u64 a7))] h0 =
    lenK x0 fun n_1 => scK (decide (n_1 > 64)) false (lenK x4 fun n_2 => some ((decide (n_2 > 60)), h0)) true h0 fun b_3 h_4 => if b_3 = true then c1 (C 403 [] h_4) fun y_6 h_5 => asB y_6 fun b_7 => finish true h0 [(.c (.bool b_7))] h_5 else lenK x0 fun n_8 => c2 (C 1 [(.c (.int .i64 n_8)), (.c x1)] h_4) fun y_10 y_11 h_9 => asA y_10 fun l_12 => asA y_11 fun l_13 => if 0 = 0 ∧ ([Cell.int .i64 0] ++ List.replicate 64 (Cell.int .u64 0)).length = 65 ∧ l_12.length = 65 then rdH (h_9 ++ [some (Blk.mk true 0 ([Cell.int .i64 0] ++ List.replicate 64 (Cell.int .u64 0)))]) h_9.length (([Cell.int .i64 0] ++ List.replicate 64 (Cell.int .u64 0)).length) fun l_14 => if 0 = 0 ∧ l_14.length = 65 ∧ l_13.length = 65 then putH (h_9 ++ [some (Blk.mk true 0 ([Cell.int .i64 0] ++ List.replicate 64 (Cell.int .u64 0)))]) h_9.length l_13 fun h_15 => (L (jacquardlaw21_SleepTells_F2 C L G) (jacquardlaw21_SleepTells_s2 x0 a2 x4 a5 a6 a7 n_8 h_9.length (([Cell.int .i64 0] ++ List.replicate 64 (Cell.int .u64 0)).length) 0 0 (if 0 > a2 then 0 else a2) l3 l_12 h_15)).bind fun p_109 => (jacquardlaw21_SleepTells_k3 C L G h0) p_109.1 p_109.2 else none else none := by kernel_rfl


end Jq

/- Laws of sleepers. -/
namespace Jq
open Go

section
variable {E : Env}

theorem awake21_R (hE : jacquardlaw21_awake_In E) (h : AHeap) : R E 403 [] h = some ([.c (.bool true)], h) := by
  refine R_intro hE.fn ?_
  have e1 : splice (splice (splice (List.replicate 7 (Cell.int .i64 0)) 0 ([(.int .i64 0)] : List Cell)) 1 ([(.int .i64 0)] : List Cell)) 2 ([(.int .i64 1)] : List Cell) = (Stp.mk 0 0 1 0 0 0 0).cs := rfl
  have e2 : splice (splice (splice (List.replicate 7 (Cell.int .i64 0)) 0 ([(.int .i64 1)] : List Cell)) 1 ([(.int .i64 1)] : List Cell)) 2 ([(.int .i64 1)] : List Cell) = (Stp.mk 1 1 1 0 0 0 0).cs := rfl
  have e3 : splice (splice [Cell.int .i64 0, Cell.int .i64 0] 0 ([(.int .i64 0)] : List Cell)) 1 ([(.int .i64 1)] : List Cell) = intC .i64 [0, 1] := rfl
  have k1 : clash (Stp.mk 0 0 1 0 0 0 0) (Stp.mk 1 1 1 0 0 0 0) 1 = false := by decide
  have k2 : iniS (fun _ => 0) [0, 1] 0 [(0 : Int), 1].length = 3 := by decide
  have c2 : clamp 2 = 2 := rfl
  rw [jacquardlaw21_awake_eq, e1, e2, if_pos ⟨rfl, rfl, rfl⟩, if_pos ⟨rfl, rfl, rfl⟩, if_pos ⟨rfl, rfl⟩, if_pos ⟨rfl, rfl⟩, Clash_R hE.c390, c1_ok, asB_ok, k1, Bool.not_false, scK_ok, New_R hE.c9, c1_ok, asA_ok, c2, e3, if_pos (show (intC .i64 [0, 1]).length = 2 * 1 from rfl)]
  have hat : SlAt (h ++ [some ⟨true, 1, intC .i64 [0, 1]⟩]) (.sl h.length (intC .i64 [0, 1]).length 0 2) 1 (intC .i64 [0, 1]) [(0 : Int), 1].length := ⟨rfl, .inr ⟨_, _, 0, rfl, .inr ⟨_, blk_new _ _, rfl, by simp [intC], fun j _ => by simp⟩⟩⟩
  have hi := Initials_R hE.c408 (n := 2) (by omega) words_zero hat (by simp) (a0 := 0) 0 rfl
  rw [hi, c1_ok, asI_ok, k2, bind_ok]
  dsimp only
  have hv1 := Covers_R hE.c368 (a := 1) (b := 0) (by omega) (by omega) (h ++ [some ⟨true, 1, intC .i64 [0, 1]⟩])
  have hv2 := Covers_R hE.c368 (a := 1) (b := 2) (by omega) (by omega) (h ++ [some ⟨true, 1, intC .i64 [0, 1]⟩])
  rw [show ((1 : Nat) : Int) = 1 from rfl, show ((0 : Nat) : Int) = 0 from rfl] at hv1
  rw [show ((1 : Nat) : Int) = 1 from rfl, show ((2 : Nat) : Int) = 2 from rfl] at hv2
  rw [show (((3 : Nat) : Int) == 3) = true from rfl, scK_ok, hv1, c1_ok, asB_ok, bind_ok]
  dsimp only
  rw [show ((0 : Nat) == 0 || (1 &&& 0) != 0) = true from rfl, scK_ok, hv2, c1_ok, asB_ok, bind_ok]
  exact finish_gc (Kp.app _ (Nat.le_refl _)) (by simp [avOk, AV.cells, idOk])

theorem and_self_ne (s : Nat) : (s == 0 || (s &&& s) != 0) = true := by
  rw [Nat.and_self]
  by_cases h : s = 0
  · subst h; rfl
  · simp [h]

theorem wakeS_sub (a : Stp) (m : Int) (l : List Stp) (s : Nat) : ndiff (wakeS a m l s) s = 0 := by
  refine Nat.eq_of_testBit_eq fun j => ?_
  rw [testBit_ndiff, wakeS_bit, Nat.zero_testBit]
  cases s.testBit j <;> simp

theorem wakeS_twice (a : Stp) (m : Int) (l : List Stp) (s : Nat) : wakeS a m l (wakeS a m l s) = wakeS a m l s := by
  refine Nat.eq_of_testBit_eq fun j => ?_
  rw [wakeS_bit, wakeS_bit]
  cases s.testBit j <;> simp

theorem wakeS_out {a : Stp} {m : Int} {l : List Stp} {s : Nat} {q : Stp} (hq : q ∈ l) (h0 : 0 ≤ q.pick) (h1 : q.pick < 64) (hc : clash q a m = true) : (wakeS a m l s).testBit q.pick.toNat = false := by
  rw [wakeS_bit]
  have : (l.any fun x => clash x a m && (bitI x.pick).testBit q.pick.toNat) = true := by
    rw [List.any_eq_true]
    refine ⟨q, hq, ?_⟩
    rw [hc, testBit_bitI]; simp; omega
  rw [this]; simp

theorem SleepWakes_law (hE : jacquardlaw21_SleepWakes_In E) {h : AHeap} {c0 c1 c2 c3 : List Cell} (o0 : okC h (.sl shStep) c0) (o1 : okC h shStep c1) (o2 : okC h (.i .i64) c2) (o3 : okC h (.i .u64) c3) :
    ∃ h', R E 407 [av1 (.sl shStep) c0, av1 shStep c1, av1 (.i .i64) c2, av1 (.i .u64) c3] h = some ([.c (.bool true)], h') := by
  obtain ⟨x, l, e0, hx, hlow, hm⟩ := arg_steps o0
  obtain ⟨a, e1⟩ := arg_step o1
  obtain ⟨m, e2, _⟩ := arg_int o2
  obtain ⟨s, e3, hs⟩ := arg_u64 o3
  rw [e0, e1, e2, e3]
  suffices hh : ∃ h', jacquardlaw21_SleepWakes.body (R E) Lim E.glob [.c x, .agg a.cs, .c (.int .i64 m), .c (.int .u64 (s : Int))] h = some ([.c (.bool true)], h') by
    obtain ⟨h', hh⟩ := hh; exact ⟨h', R_intro hE.fn hh⟩
  rw [jacquardlaw21_SleepWakes_eq, hx.len]
  by_cases hb : l.length > 40
  · rw [if_pos (by simp; omega), awake21_R hE.c403, c1_ok, asB_ok]; exact ⟨_, rfl⟩
  · have hw : wakeS a m l s < 2 ^ 64 := wakeS_lt hs
    have hnil : SlAt h .nils 7 (stepsC []) ([] : List Stp).length := ⟨rfl, .inl ⟨rfl, rfl⟩⟩
    rw [if_neg (by simp; omega), if_pos ⟨rfl, stp_len a⟩, Wake_R hE.c406 hs hx (by omega), c1_ok, asI_ok, g_bandNot hw hs, wakeS_sub, if_neg (by simp)]
    have loop : Lim (jacquardlaw21_SleepWakes_F1 (R E) Lim E.glob) (jacquardlaw21_SleepWakes_s1 x m s (wakeS a m l s : Nat) ((0 : Nat) : Int) a.cs h) = some (.exit 0, jacquardlaw21_SleepWakes_x1_1 x m s (wakeS a m l s : Nat) a.cs h) := by
      refine Lim_count (fun i => jacquardlaw21_SleepWakes_s1 x m s (wakeS a m l s : Nat) (i : Int) a.cs h) 0 l.length (by omega) (fun i _ hi => ?_) (Lim_exit ?_)
      · have hq : l[i]? = some l[i] := List.getElem?_eq_getElem hi
        generalize l[i] = q at hq
        obtain ⟨off, cs', hG, hle, hcs⟩ := hx.stepG hq
        rw [jacquardlaw21_SleepWakes_r1, hx.len, if_pos (by simp; omega), hx.spick hq, asI_ok]
        by_cases h0 : 0 ≤ q.pick
        · rw [show decide (q.pick ≥ 0) = true from decide_eq_true h0, scK_ok, hx.spick hq, asI_ok, bind_ok]
          dsimp only
          by_cases h1 : q.pick < 64
          · rw [show decide (q.pick < 64) = true from decide_eq_true h1, scK_ok, hG, if_pos hle, hcs, if_pos ⟨rfl, stp_len a⟩, Clash_R hE.c390, qh_ok, c1_ok, asB_ok, bind_ok]
            dsimp only
            cases hc : clash q a m with
            | true =>
              have hf : hasI (wakeS a m l s) q.pick = false := by
                unfold hasI; rw [wakeS_out (List.mem_of_getElem? hq) h0 h1 hc]; simp
              rw [scK_ok, hx.spick hq, asI_ok, Has_R hE.c17 hw, qh_ok, c1_ok, asB_ok, hf, bind_ok]
              dsimp only
              rw [if_neg (by simp), g_succ (by omega)]
            | false => rw [scK_ft, if_neg (by simp), g_succ (by omega)]
          · rw [show decide (q.pick < 64) = false from decide_eq_false h1, scK_ft, scK_ft, if_neg (by simp), g_succ (by omega)]
        · rw [show decide (q.pick ≥ 0) = false from decide_eq_false h0, scK_ft, scK_ft, scK_ft, if_neg (by simp), g_succ (by omega)]
      · rw [jacquardlaw21_SleepWakes_r1, hx.len, if_neg (by simp)]
    rw [show ((0 : Nat) : Int) = 0 from rfl] at loop
    rw [loop, bind_ok, jacquardlaw21_SleepWakes_e1_1, if_pos ⟨rfl, stp_len a⟩, Wake_R hE.c406 hw hx (by omega), c1_ok, asI_ok, wakeS_twice, beq_self_eq_true, scK_ok, if_pos ⟨rfl, stp_len a⟩, Wake_R hE.c406 hs hnil (by simp), c1_ok, asI_ok, wakeS, beq_self_eq_true, bind_ok]
    dsimp only
    rw [scK_ok, Covers_R hE.c368 hs hs, c1_ok, asB_ok, bind_ok, and_self_ne]
    dsimp only
    rw [scK_ok, awake21_R hE.c403, c1_ok, asB_ok, bind_ok]
    exact ⟨_, rfl⟩

/-- Is there one from a place on that leads there? -/
def ledI (f : Nat → Nat) (a k : Nat) : Nat → Bool
  | 0 => false
  | i + 1 => ledI f a k i || (decide (a ≤ i) && (f i).testBit k)

theorem ledI_fr (f : Nat → Nat) (a k : Nat) : ∀ i, ledI f a k i = !frI f a k i
  | 0 => rfl
  | i + 1 => by rw [ledI, frI, ledI_fr f a k i]; cases frI f a k i <;> cases (decide (a ≤ i) && (f i).testBit k) <;> rfl

/-- Sleepers left, of the first so many. -/
theorem wakeS_snoc (a : Stp) (m : Int) (x : Stp) : ∀ (l : List Stp) (s : Nat), wakeS a m (l ++ [x]) s = if clash x a m = true then ndiff (wakeS a m l s) (bitI x.pick) else wakeS a m l s
  | [], s => by rw [List.nil_append, wakeS, wakeS, wakeS]
  | y :: l, s => by rw [List.cons_append, wakeS, wakeS_snoc a m x l, wakeS]

theorem shl_pick {p : Int} (h0 : 0 ≤ p) (h1 : p < 64) : E.glob.shl .u64 1 p = ((bitI p : Nat) : Int) := by
  have := g_shl_one (E := E) (i := p.toNat) (by omega)
  rw [show ((p.toNat : Nat) : Int) = p by omega] at this
  rw [this]; unfold bitI; rw [if_pos ⟨h0, h1⟩]

theorem SleepTells_law (hE : jacquardlaw21_SleepTells_In E) {h : AHeap} {c0 c1 c2 c3 c4 c5 c6 c7 : List Cell} (o0 : okC h (.sl (.i .i64)) c0) (o1 : okC h (.sl shPair) c1) (o2 : okC h (.i .i64) c2) (o3 : okC h shStep c3) (o4 : okC h (.sl shStep) c4) (o5 : okC h (.i .i64) c5) (o6 : okC h (.i .u64) c6) (o7 : okC h (.i .u64) c7) :
    ∃ h', R E 410 [av1 (.sl (.i .i64)) c0, av1 (.sl shPair) c1, av1 (.i .i64) c2, av1 shStep c3, av1 (.sl shStep) c4, av1 (.i .i64) c5, av1 (.i .u64) c6, av1 (.i .u64) c7] h = some ([.c (.bool true)], h') := by
  obtain ⟨x0, l0, e0, hx0, hl0, _, hm0⟩ := arg_ints o0
  obtain ⟨x1, l1, e1, hx1, hl1, _, hm1⟩ := arg_pairs o1
  obtain ⟨fr, e2, hfr⟩ := arg_int o2
  obtain ⟨a, e3⟩ := arg_step o3
  obtain ⟨x4, l4, e4, hx4, hl4, hm4⟩ := arg_steps o4
  obtain ⟨m, e5, _⟩ := arg_int o5
  obtain ⟨s, e6, hs⟩ := arg_u64 o6
  obtain ⟨bk, e7, hbk⟩ := arg_u64 o7
  rw [e0, e1, e2, e3, e4, e5, e6, e7]
  suffices hh : ∃ h', jacquardlaw21_SleepTells.body (R E) Lim E.glob [.c x0, .c x1, .c (.int .i64 fr), .agg a.cs, .c x4, .c (.int .i64 m), .c (.int .u64 (s : Int)), .c (.int .u64 (bk : Int))] h = some ([.c (.bool true)], h') by
    obtain ⟨h', hh⟩ := hh; exact ⟨h', R_intro hE.fn hh⟩
  have fin : ∀ h', Kp h.length h h' → ∃ h2, finish true h [.c (.bool true)] h' = some ([.c (.bool true)], h2) := fun h' q => ⟨_, finish_gc q (by simp [avOk, AV.cells, idOk])⟩
  rw [jacquardlaw21_SleepTells_eq]
  simp only [hx0.len, hx4.len]
  rw [scK_or]
  by_cases hb : (decide ((l0.length : Int) > 64) || decide ((l4.length : Int) > 60)) = true
  · rw [if_pos hb, awake21_R hE.c403, c1_ok, asB_ok]
    exact fin _ (Kp.refl _ _)
  · rw [if_neg hb]
    simp only [Bool.or_eq_true, decide_eq_true_eq, not_or] at hb
    obtain ⟨b1, b2⟩ := hb
    have hn64 : l0.length ≤ 64 := by omega
    have hOf := Of_R hE.c1 (l0.length : Int) hx1 hl1
    rw [clamp_nat hn64] at hOf
    have hw := words_of l0.length (l1.take 200)
    rw [hOf, c2_ok, asA_ok, asA_ok]
    simp only [relL_len, zero_len, and_self, if_true]
    generalize ofR l0.length (l1.take 200) = f at *
    rw [show ([Cell.int .i64 0] ++ List.replicate 64 (Cell.int .u64 0)) = zeroL from rfl]
    rw [rdH_ok (blk_new h ⟨true, 0, zeroL⟩) zero_len, if_pos ⟨trivial, zero_len, trivial⟩, putH_ok (blk_new h _) rfl, setBlk_last]
    have hb1 : blk? (h ++ [some ⟨true, 0, relL l0.length f⟩]) h.length = some ⟨true, 0, relL l0.length f⟩ := blk_new _ _
    have hK : Kp h.length h (h ++ [some ⟨true, 0, relL l0.length f⟩]) := Kp.app _ (Nat.le_refl _)
    have y0 := hx0.keep hl0 hK
    have y4 := hx4.keep hl4 hK
    generalize hHd : h ++ [some (Blk.mk true 0 (relL l0.length f))] = H at *
    obtain ⟨n, hn⟩ : ∃ n, n = l0.length := ⟨_, rfl⟩
    obtain ⟨q, hq⟩ : ∃ q : Nat, (if 0 > fr then 0 else fr) = (q : Int) := by
      split
      · exact ⟨0, rfl⟩
      · exact ⟨fr.toNat, by omega⟩
    rw [hq]
    have inner : ∀ (w : Int) (k : Nat), k < l0.length → Lim (jacquardlaw21_SleepTells_F1 (R E) Lim E.glob) (jacquardlaw21_SleepTells_s1 x0 fr x4 m s bk l0.length h.length 65 0 w k false (q : Int) a.cs (relL l0.length f) H) = some (.exit 2, jacquardlaw21_SleepTells_x1_3 x0 fr x4 m s bk l0.length h.length 65 0 w k (!frI f q k l0.length) a.cs (relL l0.length f) H) := by
      intro w k hk
      rw [show jacquardlaw21_SleepTells_s1 x0 fr x4 m s bk l0.length h.length 65 0 w k false (q : Int) a.cs (relL l0.length f) H = (fun i : Nat => jacquardlaw21_SleepTells_s1 x0 fr x4 m s bk l0.length h.length 65 0 w k (!frI f q k i) (i : Int) a.cs (relL l0.length f) H) q by dsimp only; rw [frI_true f k (Nat.le_refl q)]; rfl]
      refine Lim_from (fun i : Nat => jacquardlaw21_SleepTells_s1 x0 fr x4 m s bk l0.length h.length 65 0 w k (!frI f q k i) (i : Int) a.cs (relL l0.length f) H) q l0.length (fun i hi1 hi2 => ?_) (fun i hi1 hi2 hi3 => Lim_exit ?_)
      · rw [jacquardlaw21_SleepTells_r1, if_pos (by simp; omega), frI]
        cases frI f q k i with
        | false => rw [Bool.not_false, scK_tf, Bool.false_and, g_succ (by omega)]; rfl
        | true =>
          rw [Bool.not_true, scK_ok, refHas_R hE.c7 hw (by omega) (by omega) hb1, c1_ok, asB_ok, bind_ok]
          dsimp only
          rw [g_succ (by omega), show decide (q ≤ i) = true by simpa using hi1, Bool.true_and, Bool.true_and, Bool.not_not]
      · rw [jacquardlaw21_SleepTells_r1, if_neg (by simp; omega)]
        have : frI f q k i = frI f q k l0.length := by
          rcases hi3 with e | e
          · rw [frI_true f k (by omega), frI_true f k (by omega)]
          · rw [e]
        rw [this]
    have outer : Lim (jacquardlaw21_SleepTells_F2 (R E) Lim E.glob) (jacquardlaw21_SleepTells_s2 x0 fr x4 m s bk l0.length h.length 65 0 0 (q : Int) a.cs (relL l0.length f) H) = some (.exit 0, jacquardlaw21_SleepTells_x2_1 x0 fr x4 m s bk (iniS f l0 q l0.length : Nat) a.cs (relL l0.length f) H) := by
      rw [show jacquardlaw21_SleepTells_s2 x0 fr x4 m s bk l0.length h.length 65 0 0 (q : Int) a.cs (relL l0.length f) H = (fun k : Nat => jacquardlaw21_SleepTells_s2 x0 fr x4 m s bk l0.length h.length 65 0 (iniS f l0 q k : Nat) (k : Int) a.cs (relL l0.length f) H) q by dsimp only; rw [iniS_zero f l0 (Nat.le_refl q)]; rfl]
      refine Lim_from (fun k : Nat => jacquardlaw21_SleepTells_s2 x0 fr x4 m s bk l0.length h.length 65 0 (iniS f l0 q k : Nat) (k : Int) a.cs (relL l0.length f) H) q l0.length (fun k hk1 hk2 => ?_) (fun k hk1 hk2 hk3 => Lim_exit ?_)
      · rw [jacquardlaw21_SleepTells_r2, if_pos (by simp; omega), hq, inner _ k hk2, bind_ok, jacquardlaw21_SleepTells_e1_3, iniS, show decide (q ≤ k) = true by simpa using hk1, Bool.true_and, Bool.not_not]
        cases frI f q k l0.length with
        | false => rw [scK_ft, scK_ft, if_neg (by simp), if_neg (by simp), g_succ (by omega)]
        | true =>
          rw [scK_ok, y0.get1 hk2 (intC_get (getD_int hk2)), asI_ok, bind_ok]
          dsimp only
          by_cases h0 : 0 ≤ l0.getD k 0
          · rw [show decide (l0.getD k 0 ≥ 0) = true from decide_eq_true h0, scK_ok, y0.get1 hk2 (intC_get (getD_int hk2)), asI_ok, bind_ok]
            dsimp only
            by_cases h1 : l0.getD k 0 < 64
            · rw [if_pos (decide_eq_true h1), if_pos rfl, y0.get1 hk2 (intC_get (getD_int hk2)), asI_ok, if_neg (by omega), shl_pick h0 h1, g_bor (iniS_lt f l0 q k) (bitI_lt _), g_succ (by omega)]
            · rw [if_neg (by simpa using h1), if_pos rfl, g_succ (by omega)]
              have : bitI (l0.getD k 0) = 0 := by unfold bitI; rw [if_neg (by omega)]
              rw [this, Nat.or_zero]
          · rw [show decide (l0.getD k 0 ≥ 0) = false from decide_eq_false h0, scK_ft, if_neg (by simp), if_pos rfl, g_succ (by omega)]
            have : bitI (l0.getD k 0) = 0 := by unfold bitI; rw [if_neg (by omega)]
            rw [this, Nat.or_zero]
      · rw [jacquardlaw21_SleepTells_r2, if_neg (by simp; omega)]
        have : iniS f l0 q k = iniS f l0 q l0.length := by
          rcases hk3 with e | e
          · rw [iniS_zero f l0 (by omega), iniS_zero f l0 (by omega)]
          · rw [e]
        rw [this]
    rw [outer, bind_ok, jacquardlaw21_SleepTells_e2_1, if_pos ⟨rfl, relL_len _ _⟩]
    have hini := Initials_R hE.c408 hn64 hw y0 (Nat.le_refl _) q hq
    rw [hini, c1_ok, asI_ok, bne_self_eq_false, if_neg (by simp)]
    have loop3 : Lim (jacquardlaw21_SleepTells_F3 (R E) Lim E.glob) (jacquardlaw21_SleepTells_s3 x4 m s bk (wakeS a m (l4.take 0) s : Nat) ((0 : Nat) : Int) a.cs H) = some (.exit 4, jacquardlaw21_SleepTells_x3_5 x4 m s bk (wakeS a m (l4.take l4.length) s : Nat) a.cs H) := by
      refine Lim_count (fun i => jacquardlaw21_SleepTells_s3 x4 m s bk (wakeS a m (l4.take i) s : Nat) (i : Int) a.cs H) 0 l4.length (by omega) (fun i _ hi => ?_) (Lim_exit ?_)
      · have hqq : l4[i]? = some l4[i] := List.getElem?_eq_getElem hi
        generalize l4[i] = z at hqq
        obtain ⟨off, cs', hG, hle, hcs⟩ := y4.stepG hqq
        have hwl : wakeS a m (l4.take i) s < 2 ^ 64 := wakeS_lt hs
        have stk : ∀ {c : Bool}, clash z a m = c → wakeS a m (l4.take (i + 1)) s = if c = true then ndiff (wakeS a m (l4.take i) s) (bitI z.pick) else wakeS a m (l4.take i) s := fun e => by
          rw [take_succ hqq, wakeS_snoc, e]
        rw [jacquardlaw21_SleepTells_r3, y4.len, if_pos (by simp; omega), hG, if_pos hle, hcs, if_pos ⟨rfl, stp_len a⟩, refClash_R hE.c409, qh_ok, c1_ok, asB_ok, hG, if_pos hle, hcs, if_pos ⟨rfl, stp_len a⟩, Clash_R hE.c390, qh_ok, c1_ok, asB_ok, beq_self_eq_true, Bool.not_true, scK_ok, if_pos ⟨rfl, stp_len a⟩, hG, if_pos hle, hcs, Clash_R hE.c390, qh_ok, c1_ok, asB_ok, clash_comm a z, beq_self_eq_true, Bool.not_true, bind_ok]
        dsimp only
        rw [if_neg (by simp)]
        cases hc : clash z a m with
        | false =>
          rw [scK_ft, scK_ft, if_neg (by simp), g_succ (by omega), stk hc, if_neg (by simp)]
        | true =>
          rw [scK_ok, y4.spick hqq, asI_ok, bind_ok, stk hc, if_pos rfl]
          dsimp only
          by_cases h0 : 0 ≤ z.pick
          · rw [show decide (z.pick ≥ 0) = true from decide_eq_true h0, scK_ok, y4.spick hqq, asI_ok, bind_ok]
            dsimp only
            by_cases h1 : z.pick < 64
            · rw [if_pos (decide_eq_true h1), y4.spick hqq, asI_ok, if_neg (by omega), shl_pick h0 h1, g_bandNot hwl (bitI_lt _), g_succ (by omega)]
            · rw [if_neg (by simpa using h1), g_succ (by omega)]
              have : bitI z.pick = 0 := by unfold bitI; rw [if_neg (by omega)]
              rw [this]; unfold ndiff; simp
          · rw [show decide (z.pick ≥ 0) = false from decide_eq_false h0, scK_ft, if_neg (by simp), g_succ (by omega)]
            have : bitI z.pick = 0 := by unfold bitI; rw [if_neg (by omega)]
            rw [this]; unfold ndiff; simp
      · rw [jacquardlaw21_SleepTells_r3, y4.len, if_neg (by simp)]
    rw [List.take_zero, List.take_length, show ((0 : Nat) : Int) = 0 from rfl] at loop3
    rw [show wakeS a m [] s = s from rfl] at loop3
    rw [loop3, bind_ok, jacquardlaw21_SleepTells_e3_5, if_pos ⟨rfl, stp_len a⟩, Wake_R hE.c406 hs y4 (by omega), c1_ok, asI_ok, beq_self_eq_true, scK_ok, Covers_R hE.c368 hbk hs, c1_ok, asB_ok, scK_or, g_band hbk hs, show ((s : Int) == 0) = (s == 0) by rw [Bool.eq_iff_iff]; simp, show (((bk &&& s : Nat) : Int) != 0) = ((bk &&& s) != 0) by rw [Bool.eq_iff_iff]; simp, beq_self_eq_true, bind_ok]
    dsimp only
    rw [scK_ok, awake21_R hE.c403, c1_ok, asB_ok, bind_ok]
    exact fin _ hK

end
end Jq

/- SleepTells: whatever the input the call says true, and each argument reads behind it as before. No conditions. -/
namespace Go.Proofs.Ythnckbgdkljhfaa.LSleepTells
open Go Jq Go.ChangeShapes Go.WideShapes Go.ChangeAt Go.RowKit
set_option linter.unusedVariables false

theorem own : ownKnob Try.prog.godebug = none := by kernel_rfl
theorem laidOut : laidOutB Try.prog = true := by kernel_rfl

set_option maxRecDepth 100000 in
theorem lifted (os : Os) (started : os.Started) (H : Type) (enc : TypeId × Value → H) :
    ReturnsInHanded {} Try.checked os 4 .any (Rows.sleepTellsSpec.pre6 enc Try.prog Try.f4 Rows.sleepTellsRow.domain false) (Rows.sleepTellsSpec.post enc Try.prog Try.f4 false true false false) := by
  refine returnsInHanded_of_change (C := Try.checked) own started (by kernel_rfl) Try.func4
    (ChangeSpec.witness6 (enc := enc) (C := Try.checked) false ⟨#[], #[.slice none 0 0, .slice none 0 0, .int .i64 0, .agg #[.int .i64 0, .int .i64 0, .int .i64 0, .int .i64 0, .int .i64 0, .int .i64 0, .int .i64 0], .slice none 0 0, .int .i64 0, .int .u64 0, .int .u64 0], []⟩ 8 (by kernel_rfl) (by kernel_rfl) (by kernel_rfl) (by kernel_rfl)) ?_
  intro W base args ds gs before hval0 hW hcnd _
  have hval : ∀ (j : Nat) t v, Try.f4.params[j]? = some t → args[j]? = some v → Value.okWide Try.prog W .any base t v := hval0
  have hW' := hW
  obtain ⟨p, q, hA0, hV, rfl, hfz, hnd⟩ := hW
  have hA : DataW.TrodAll enc Try.prog W 0 (fun _ => true) true Try.f4.params.toList args.toList ds p := hA0
  rw [Try.params4] at hA hval
  obtain ⟨v0, vs0, d0, ds0, p0, q0, hargs, rfl, rfl, h0, r0⟩ := trodAll_cons hA
  obtain ⟨v1, vs1, d1, ds1, p1, q1, rfl, rfl, rfl, h1, r1⟩ := trodAll_cons r0
  obtain ⟨v2, vs2, d2, ds2, p2, q2, rfl, rfl, rfl, h2, r2⟩ := trodAll_cons r1
  obtain ⟨v3, vs3, d3, ds3, p3, q3, rfl, rfl, rfl, h3, r3⟩ := trodAll_cons r2
  obtain ⟨v4, vs4, d4, ds4, p4, q4, rfl, rfl, rfl, h4, r4⟩ := trodAll_cons r3
  obtain ⟨v5, vs5, d5, ds5, p5, q5, rfl, rfl, rfl, h5, r5⟩ := trodAll_cons r4
  obtain ⟨v6, vs6, d6, ds6, p6, q6, rfl, rfl, rfl, h6, r6⟩ := trodAll_cons r5
  obtain ⟨v7, vs7, d7, ds7, p7, q7, rfl, rfl, rfl, h7, r7⟩ := trodAll_cons r6
  obtain ⟨rfl, rfl, rfl⟩ := trodAll_nil r7
  obtain rfl : args = #[v0, v1, v2, v3, v4, v5, v6, v7] := by cases args; simp_all
  obtain ⟨rfl, rfl⟩ := trodVars_none hV
  have lt0 : ∀ x ∈ p0, x.block < W.heap.size := by obtain ⟨m, hm⟩ := h0; exact DataW.trod_lt m _ _ _ hm
  have lt1 : ∀ x ∈ p1, x.block < W.heap.size := by obtain ⟨m, hm⟩ := h1; exact DataW.trod_lt m _ _ _ hm
  have lt2 : ∀ x ∈ p2, x.block < W.heap.size := by obtain ⟨m, hm⟩ := h2; exact DataW.trod_lt m _ _ _ hm
  have lt3 : ∀ x ∈ p3, x.block < W.heap.size := by obtain ⟨m, hm⟩ := h3; exact DataW.trod_lt m _ _ _ hm
  have lt4 : ∀ x ∈ p4, x.block < W.heap.size := by obtain ⟨m, hm⟩ := h4; exact DataW.trod_lt m _ _ _ hm
  have lt5 : ∀ x ∈ p5, x.block < W.heap.size := by obtain ⟨m, hm⟩ := h5; exact DataW.trod_lt m _ _ _ hm
  have lt6 : ∀ x ∈ p6, x.block < W.heap.size := by obtain ⟨m, hm⟩ := h6; exact DataW.trod_lt m _ _ _ hm
  have lt7 : ∀ x ∈ p7, x.block < W.heap.size := by obtain ⟨m, hm⟩ := h7; exact DataW.trod_lt m _ _ _ hm
  have c := Come.nil (S := seat) (W := W) (fun _ => rfl)
  have k0 : ((.sl (.i .i64)) : Sh).chk seat.P 33 = true := by kernel_rfl
  obtain ⟨b0, ρ0, cs0, c0, e0, x0, a0, o0⟩ := opens_arg (S := seat) (W := W) (sh := (.sl (.i .i64))) k0 h0 (wide_of k0 (hval 0 33 v0 rfl rfl)) ⟨nofun, nofun⟩ c
  have k1 : ((.sl shPair) : Sh).chk seat.P 34 = true := by kernel_rfl
  obtain ⟨b1, ρ1, cs1, c1, e1, x1, a1, o1⟩ := opens_arg (S := seat) (W := W) (sh := (.sl shPair)) k1 h1 (wide_of k1 (hval 1 34 v1 rfl rfl)) ⟨nofun, nofun⟩ c0
  have k2 : ((.i .i64) : Sh).chk seat.P 3 = true := by kernel_rfl
  obtain ⟨b2, ρ2, cs2, c2, e2, x2, a2, o2⟩ := opens_arg (S := seat) (W := W) (sh := (.i .i64)) k2 h2 (wide_of k2 (hval 2 3 v2 rfl rfl)) ⟨nofun, nofun⟩ c1
  have k3 : (shStep : Sh).chk seat.P 24 = true := by kernel_rfl
  obtain ⟨b3, ρ3, cs3, c3, e3, x3, a3, o3⟩ := opens_arg (S := seat) (W := W) (sh := shStep) k3 h3 (wide_of k3 (hval 3 24 v3 rfl rfl)) ⟨nofun, nofun⟩ c2
  have k4 : ((.sl shStep) : Sh).chk seat.P 22 = true := by kernel_rfl
  obtain ⟨b4, ρ4, cs4, c4, e4, x4, a4, o4⟩ := opens_arg (S := seat) (W := W) (sh := (.sl shStep)) k4 h4 (wide_of k4 (hval 4 22 v4 rfl rfl)) ⟨nofun, nofun⟩ c3
  have k5 : ((.i .i64) : Sh).chk seat.P 3 = true := by kernel_rfl
  obtain ⟨b5, ρ5, cs5, c5, e5, x5, a5, o5⟩ := opens_arg (S := seat) (W := W) (sh := (.i .i64)) k5 h5 (wide_of k5 (hval 5 3 v5 rfl rfl)) ⟨nofun, nofun⟩ c4
  have k6 : ((.i .u64) : Sh).chk seat.P 25 = true := by kernel_rfl
  obtain ⟨b6, ρ6, cs6, c6, e6, x6, a6, o6⟩ := opens_arg (S := seat) (W := W) (sh := (.i .u64)) k6 h6 (wide_of k6 (hval 6 25 v6 rfl rfl)) ⟨nofun, nofun⟩ c5
  have k7 : ((.i .u64) : Sh).chk seat.P 25 = true := by kernel_rfl
  obtain ⟨b7, ρ7, cs7, c7, e7, x7, a7, o7⟩ := opens_arg (S := seat) (W := W) (sh := (.i .u64)) k7 h7 (wide_of k7 (hval 7 25 v7 rfl rfl)) ⟨nofun, nofun⟩ c6
  obtain ⟨h', hR⟩ := SleepTells_law (E := env) in_410 (okC_mono x7 _ _ (okC_mono x6 _ _ (okC_mono x5 _ _ (okC_mono x4 _ _ (okC_mono x3 _ _ (okC_mono x2 _ _ (okC_mono x1 _ _ o0))))))) (okC_mono x7 _ _ (okC_mono x6 _ _ (okC_mono x5 _ _ (okC_mono x4 _ _ (okC_mono x3 _ _ (okC_mono x2 _ _ o1)))))) (okC_mono x7 _ _ (okC_mono x6 _ _ (okC_mono x5 _ _ (okC_mono x4 _ _ (okC_mono x3 _ _ o2))))) (okC_mono x7 _ _ (okC_mono x6 _ _ (okC_mono x5 _ _ (okC_mono x4 _ _ o3)))) (okC_mono x7 _ _ (okC_mono x6 _ _ (okC_mono x5 _ _ o4))) (okC_mono x7 _ _ (okC_mono x6 _ _ o5)) (okC_mono x7 _ _ o6) o7
  refine (law_call (S := seat) (R_sound (S := seat) (E := env) rfl allOk) c7 (vals := #[v0, v1, v2, v3, v4, v5, v6, v7]) (L2.cons (relA.mono e7 (relA.mono e6 (relA.mono e5 (relA.mono e4 (relA.mono e3 (relA.mono e2 (relA.mono e1 a0))))))) (L2.cons (relA.mono e7 (relA.mono e6 (relA.mono e5 (relA.mono e4 (relA.mono e3 (relA.mono e2 a1)))))) (L2.cons (relA.mono e7 (relA.mono e6 (relA.mono e5 (relA.mono e4 (relA.mono e3 a2))))) (L2.cons (relA.mono e7 (relA.mono e6 (relA.mono e5 (relA.mono e4 a3)))) (L2.cons (relA.mono e7 (relA.mono e6 (relA.mono e5 a4))) (L2.cons (relA.mono e7 (relA.mono e6 a5)) (L2.cons (relA.mono e7 a6) (L2.cons a7 L2.nil)))))))) hR).mono fun e W' ⟨he, bel⟩ => ?_
  subst he
  exact ⟨_, rfl, _, _, _, [], _, [], hW', trodAll_mk1 (shut_bool Try.underlying4 _), (trodAll_cons_mk (Below.trod laidOut (by kernel_rfl) (of_decide_eq_true (by kernel_rfl)) h0 bel lt0) (trodAll_cons_mk (Below.trod laidOut (by kernel_rfl) (of_decide_eq_true (by kernel_rfl)) h1 bel lt1) (trodAll_cons_mk (Below.trod laidOut (by kernel_rfl) (of_decide_eq_true (by kernel_rfl)) h2 bel lt2) (trodAll_cons_mk (Below.trod laidOut (by kernel_rfl) (of_decide_eq_true (by kernel_rfl)) h3 bel lt3) (trodAll_cons_mk (Below.trod laidOut (by kernel_rfl) (of_decide_eq_true (by kernel_rfl)) h4 bel lt4) (trodAll_cons_mk (Below.trod laidOut (by kernel_rfl) (of_decide_eq_true (by kernel_rfl)) h5 bel lt5) (trodAll_cons_mk (Below.trod laidOut (by kernel_rfl) (of_decide_eq_true (by kernel_rfl)) h6 bel lt6) (trodAll_cons_mk (Below.trod laidOut (by kernel_rfl) (of_decide_eq_true (by kernel_rfl)) h7 bel lt7) trodAll_mk0)))))))), rfl, bel.frame _, fun h => by cases h⟩

theorem over : Rows.sleepTellsRow.holds Try.pinned (OpenSpec.ofChange Rows.sleepTellsSpec) :=
  OpenClaim.holds_of_wide 4 Try.f4 rfl rfl rfl rfl rfl rfl rfl ⟨rfl, rfl, rfl, rfl, rfl⟩ rfl rfl rfl rfl rfl (by kernel_rfl) Try.func4 (by kernel_rfl)
    (of_decide_eq_true (by kernel_rfl)) (by unfold Func.isWrapper; first | (rw [if_pos (by decide +kernel)]; kernel_rfl) | (rw [if_neg (by decide +kernel)]; exact ⟨rfl, rfl⟩))
    (fun os started H enc _ => lifted os started H enc)

theorem proved : Rows.SleepTellsSaid := over
#print axioms proved

end Go.Proofs.Ythnckbgdkljhfaa.LSleepTells

