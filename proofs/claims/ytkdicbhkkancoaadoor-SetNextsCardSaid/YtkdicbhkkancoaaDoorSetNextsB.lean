/- YtkdicbhkkancoaaDoorSetNextsB: a part of the proof; no conditions of its own. -/
import Derived.Test.YtkdicbhkkancoaaDoorRows
import Derived.WalkKit
import Derived.ProofKit
import Derived.OpenShut
import Derived.ShutString
import Derived.ChangeOld
import Derived.Below
import Derived.Carry
import Derived.Test.YtkdicbhkkancoaaDoorCards
import Derived.Test.YtkdicbhkkancoaaDoorTie
import Derived.SevenTiedAt
import Derived.LaidMore
import Derived.Stop.Joined
import Derived.Lib.LaidTab
import Derived.MakeChecks
import Derived.LaidHandle
import Derived.Test.YtkdicbhkkancoaaDoorSetNextsA
set_option linter.unusedVariables false
set_option linter.unusedSimpArgs false

/- SetNexts: the next word of as many numbers is greater, has as many, and none lies between; walked from the first, they are as many as there are ways to choose. -/
namespace Jq
open Go

theorem pcN_zero : ∀ n, pcN n 0 = 0
  | 0 => rfl
  | n + 1 => by rw [pcN, Nat.zero_div, pcN_zero n]

theorem pcN_pow_le : ∀ n y, 2 ^ pcN n y ≤ y + 1
  | 0, y => by rw [pcN]; omega
  | n + 1, y => by
    have ih := pcN_pow_le n (y / 2)
    rw [pcN]
    rcases Nat.mod_two_eq_zero_or_one y with h | h
    · rw [h, Nat.zero_add]; omega
    · rw [h, Nat.add_comm, Nat.pow_succ]; omega

theorem pcN_pos : ∀ n y, 0 < y → y < 2 ^ n → 0 < pcN n y
  | 0, y, h1, h2 => by omega
  | n + 1, y, h1, h2 => by
    rw [pcN]
    rcases Nat.mod_two_eq_zero_or_one y with h | h
    · have := pcN_pos n (y / 2) (by omega) (by rw [Nat.pow_succ] at h2; omega)
      omega
    · omega

theorem pcN_ones : ∀ n, pcN n (2 ^ n - 1) = n
  | 0 => rfl
  | n + 1 => by
    have hp := Nat.two_pow_pos n
    rw [pcN, Nat.pow_succ, show (2 ^ n * 2 - 1) % 2 = 1 by omega, show (2 ^ n * 2 - 1) / 2 = 2 ^ n - 1 by omega, pcN_ones n]; omega

theorem pcN_cut {c n u w : Nat} (hw : w < 2 ^ c) : pcN (c + n) (2 ^ c * u + w) = pcN c w + pcN n u := by
  rw [pcN_add, ← pcN_mod c, Nat.mul_add_mod, Nat.mod_eq_of_lt hw, Nat.mul_add_div (Nat.two_pow_pos c), Nat.div_eq_of_lt hw, Nat.add_zero]

theorem pcN_ext {m d x : Nat} (hx : x < 2 ^ m) : pcN (m + d) x = pcN m x := by
  rw [pcN_add, Nat.div_eq_of_lt hx, pcN_zero, Nat.add_zero]

theorem odd_form : ∀ k w, w ≤ k → ∃ r v, 2 * w + 1 = 2 ^ (r + 2) * v + (2 ^ (r + 1) - 1)
  | k, w, hk => by
    rcases Nat.mod_two_eq_zero_or_one w with h | h
    · exact ⟨0, w / 2, by omega⟩
    · match k with
      | 0 => omega
      | k + 1 =>
        obtain ⟨r, v, hv⟩ := odd_form k (w / 2) (by omega)
        refine ⟨r + 1, v, ?_⟩
        have hp := Nat.two_pow_pos (r + 1)
        have e1 : 2 ^ (r + 1 + 2) * v = 2 * (2 ^ (r + 2) * v) := by rw [show r + 1 + 2 = (r + 2) + 1 by omega, Nat.pow_succ]; rw [Nat.mul_comm _ 2, Nat.mul_assoc]
        have e2 : 2 ^ (r + 1 + 1) = 2 * 2 ^ (r + 1) := by rw [Nat.pow_succ 2 (r + 1), Nat.mul_comm]
        omega

/-- A word, cut: v above, then one none, then r + 1 of them, then none. -/
theorem word_form {s : Nat} (hs : s < 2 ^ 64) (h0 : s ≠ 0) : ∃ r v, s = 2 ^ (Lib.ctz 64 s + r + 2) * v + (2 ^ (r + 1) - 1) * 2 ^ Lib.ctz 64 s := by
  obtain ⟨m, h1, _⟩ := low_form hs h0
  generalize Lib.ctz 64 s = c at h1
  obtain ⟨r, v, hv⟩ := odd_form m m (Nat.le_refl _)
  refine ⟨r, v, ?_⟩
  have e : s = (2 * m + 1) * 2 ^ c := by rw [h1, Nat.pow_succ, Nat.add_mul, Nat.one_mul, Nat.mul_assoc, Nat.mul_comm (2 ^ c), Nat.mul_assoc, Nat.mul_comm m]
  rw [e, hv, Nat.add_mul]
  congr 1
  rw [show c + r + 2 = (r + 2) + c by omega, Nat.pow_add 2 (r + 2) c, Nat.mul_assoc, Nat.mul_assoc, Nat.mul_comm v]

theorem ones_bit (r c i : Nat) : ((2 ^ r - 1) * 2 ^ c).testBit i = (decide (c ≤ i) && decide (i < c + r)) := by
  rw [Nat.testBit_mul_two_pow, Nat.testBit_two_pow_sub_one]
  by_cases h : c ≤ i
  · rw [Bool.eq_iff_iff]; simp [h]; omega
  · simp [h]

theorem ones_le (r c : Nat) : (2 ^ r - 1) * 2 ^ c + 2 ^ c = 2 ^ (c + r) := by
  have := Nat.two_pow_pos r
  have e : 2 ^ r - 1 + 1 = 2 ^ r := by omega
  rw [← Nat.succ_mul, Nat.succ_eq_add_one, e, Nat.add_comm c r, Nat.pow_add]

/-- The next word, by its parts. -/
theorem next_form {s r v : Nat} (hs : s < 2 ^ 64) (h0 : s ≠ 0) (hf : s = 2 ^ (Lib.ctz 64 s + r + 2) * v + (2 ^ (r + 1) - 1) * 2 ^ Lib.ctz 64 s) (hn : nextN s ≠ 0) :
    Lib.ctz 64 s + r + 2 ≤ 64 ∧ nextN s = 2 ^ (Lib.ctz 64 s + r + 2) * v + (2 ^ (Lib.ctz 64 s + r + 1) + (2 ^ r - 1)) := by
  unfold nextN at *
  rw [if_neg h0] at hn ⊢
  dsimp only at hn ⊢
  generalize Lib.ctz 64 s = c at *
  have ho := ones_le (r + 1) c
  rw [show c + (r + 1) = c + r + 1 by omega] at ho
  have hup : s + 2 ^ c = 2 ^ (c + r + 2) * v + 2 ^ (c + r + 1) := by omega
  have hk : c + r + 2 ≤ 64 := by
    rcases Nat.lt_or_ge 64 (c + r + 2) with hk | hk
    · exfalso
      have hv : v = 0 := by
        rcases Nat.eq_zero_or_pos v with h | h
        · exact h
        · have h1 : 2 ^ (c + r + 2) ≤ 2 ^ (c + r + 2) * v := Nat.le_mul_of_pos_right _ h
          have h2 : 2 ^ 64 ≤ 2 ^ (c + r + 2) := Nat.pow_le_pow_right (by omega) (by omega)
          omega
      rw [hv, Nat.mul_zero, Nat.zero_add] at hup
      have : (s + 2 ^ c) % 2 ^ 64 = 0 := by rw [hup]; exact Nat.mod_eq_zero_of_dvd (Nat.pow_dvd_pow 2 (by omega))
      rw [if_pos this] at hn
      exact hn rfl
    · exact hk
  have hlt : s + 2 ^ c < 2 ^ 64 := by
    have hd : 2 ^ 64 = 2 ^ (c + r + 2) * 2 ^ (64 - (c + r + 2)) := by rw [← Nat.pow_add]; congr 1; omega
    have hv : v < 2 ^ (64 - (c + r + 2)) := by
      apply Nat.lt_of_mul_lt_mul_left (a := 2 ^ (c + r + 2))
      rw [← hd]; omega
    have h3 : 2 ^ (c + r + 2) * (v + 1) ≤ 2 ^ (c + r + 2) * 2 ^ (64 - (c + r + 2)) := Nat.mul_le_mul_left _ hv
    rw [← hd, Nat.mul_add, Nat.mul_one] at h3
    have h4 : 2 ^ (c + r + 2) = 2 * 2 ^ (c + r + 1) := by rw [Nat.pow_succ, Nat.mul_comm]
    have := Nat.two_pow_pos (c + r + 1)
    omega
  refine ⟨hk, ?_⟩
  rw [Nat.mod_eq_of_lt hlt] at hn ⊢
  have hpos : s + 2 ^ c ≠ 0 := by have := Nat.two_pow_pos c; omega
  rw [if_neg hpos]
  have hb1 : 2 ^ (c + r + 1) < 2 ^ (c + r + 2) := Nat.pow_lt_pow_right (by omega) (by omega)
  have hb0 : (2 ^ (r + 1) - 1) * 2 ^ c < 2 ^ (c + r + 2) := by have := Nat.two_pow_pos c; omega
  have hx : s ^^^ (s + 2 ^ c) = (2 ^ (r + 2) - 1) * 2 ^ c := by
    refine Nat.eq_of_testBit_eq fun i => ?_
    rw [Nat.testBit_xor, hup, ones_bit]
    conv => lhs; rw [hf]
    rw [Nat.testBit_two_pow_mul_add _ hb0, Nat.testBit_two_pow_mul_add _ hb1]
    by_cases hi : i < c + r + 2
    · rw [if_pos hi, if_pos hi, ones_bit, Nat.testBit_two_pow, Bool.eq_iff_iff]
      by_cases h1 : c ≤ i
      · by_cases h2 : c + r + 1 = i
        · subst h2; simp; omega
        · have : i < c + (r + 1) := by omega
          simp [h1, h2, this]; omega
      · have : ¬ c + r + 1 = i := by omega
        simp [h1, this]
    · rw [if_neg hi, if_neg hi, Bool.xor_self]
      have : decide (i < c + (r + 2)) = false := by simp; omega
      rw [this, Bool.and_false]
  have hsh : ((2 ^ (r + 2) - 1) * 2 ^ c) >>> 2 >>> c = 2 ^ r - 1 := by
    refine Nat.eq_of_testBit_eq fun i => ?_
    rw [Nat.testBit_shiftRight, Nat.testBit_shiftRight, ones_bit, Nat.testBit_two_pow_sub_one, Bool.eq_iff_iff]
    simp; omega
  rw [hx, hsh, hup]
  have hr1 : 2 ^ r - 1 < 2 ^ (c + r + 1) := by
    have : 2 ^ r ≤ 2 ^ (c + r + 1) := Nat.pow_le_pow_right (by omega) (by omega)
    have := Nat.two_pow_pos r
    omega
  have e1 : 2 ^ (c + r + 2) * v + 2 ^ (c + r + 1) = 2 ^ (c + r + 1) * (2 * v + 1) := by rw [Nat.mul_add, Nat.mul_one, ← Nat.mul_assoc, ← Nat.pow_succ]
  rw [e1, ← Nat.two_pow_add_eq_or_of_lt hr1, ← e1, Nat.add_assoc]

theorem pcN_hi {N K v w : Nat} (hK : K ≤ N) (hw : w < 2 ^ K) : pcN N (2 ^ K * v + w) = pcN K w + pcN (N - K) v := by
  obtain ⟨d, rfl⟩ := Nat.exists_eq_add_of_le hK
  rw [pcN_cut hw, Nat.add_sub_cancel_left]

theorem pcN_run (c r : Nat) : pcN (c + r + 2) ((2 ^ (r + 1) - 1) * 2 ^ c) = r + 1 := by
  have h7 := Nat.two_pow_pos c
  have h8 := Nat.two_pow_pos (r + 1)
  rw [show (2 ^ (r + 1) - 1) * 2 ^ c = 2 ^ c * (2 ^ (r + 1) - 1) + 0 from (Nat.mul_comm _ _).trans (Nat.add_zero _).symm, show c + r + 2 = c + (r + 1 + 1) by omega, pcN_cut (n := r + 1 + 1) h7, pcN_zero, Nat.zero_add, pcN_ext (d := 1) (by omega), pcN_ones]

theorem pcN_top {k y : Nat} (hy : y < 2 ^ k) : pcN (k + 1) (2 ^ k + y) = pcN k y + 1 := by
  rw [show 2 ^ k + y = 2 ^ k * 1 + y by rw [Nat.mul_one], pcN_cut (n := 1) hy, show pcN 1 1 = 1 from rfl]

theorem run_more {c r z : Nat} (h0 : 0 < z) (hz : z < 2 ^ c) : pcN (c + r + 2) ((2 ^ (r + 1) - 1) * 2 ^ c + z) ≠ r + 1 := by
  have h8 := Nat.two_pow_pos (r + 1)
  have hp := pcN_pos c z h0 hz
  rw [Nat.mul_comm, show c + r + 2 = c + (r + 1 + 1) by omega, pcN_cut (n := r + 1 + 1) hz, pcN_ext (d := 1) (by omega), pcN_ones]
  omega

theorem pow_2r (c r : Nat) : 2 ^ r ≤ 2 ^ (c + r + 1) := Nat.pow_le_pow_right (by omega) (by omega)

theorem top_less {c r z : Nat} (hz : z < 2 ^ r - 1) : pcN (c + r + 2) (2 ^ (c + r + 1) + z) ≠ r + 1 := by
  intro he
  have := pow_2r c r
  rw [show c + r + 2 = c + r + 1 + 1 by omega, pcN_top (by omega)] at he
  have h9 := pcN_pow_le (c + r + 1) z
  rw [show pcN (c + r + 1) z = r by omega] at h9
  omega

theorem top_pc (c r : Nat) : pcN (c + r + 2) (2 ^ (c + r + 1) + (2 ^ r - 1)) = r + 1 := by
  have := pow_2r c r
  have h8 := Nat.two_pow_pos r
  rw [show c + r + 2 = c + r + 1 + 1 by omega, pcN_top (by omega), show c + r + 1 = r + (c + 1) by omega, pcN_ext (m := r) (by omega), pcN_ones]

theorem next_lt {s : Nat} (hs : s < 2 ^ 64) : nextN s < 2 ^ 64 := by
  unfold nextN
  split
  · omega
  · dsimp only
    have h1 := Nat.mod_lt (s + 2 ^ Lib.ctz 64 s) (show 2 ^ 64 > 0 by omega)
    generalize (s + 2 ^ Lib.ctz 64 s) % 2 ^ 64 = up at h1
    split
    · omega
    · refine or_lt h1 (Nat.lt_of_le_of_lt ?_ (xor_lt hs h1))
      rw [Nat.shiftRight_eq_div_pow, Nat.shiftRight_eq_div_pow]
      exact Nat.le_trans (Nat.div_le_self _ _) (Nat.div_le_self _ _)

theorem gosper {s : Nat} (hs : s < 2 ^ 64) (hn : nextN s ≠ 0) : s < nextN s ∧ pc (nextN s) = pc s ∧ ∀ t, s < t → t < nextN s → pc t ≠ pc s := by
  have h0 : s ≠ 0 := by intro h; subst h; exact hn rfl
  obtain ⟨r, v, hf⟩ := word_form hs h0
  obtain ⟨hk, hN⟩ := next_form hs h0 hf hn
  generalize nextN s = m at *
  generalize Lib.ctz 64 s = c at *
  have ho := ones_le (r + 1) c
  rw [show c + (r + 1) = c + r + 1 by omega] at ho
  have h4 : 2 ^ (c + r + 2) = 2 * 2 ^ (c + r + 1) := by rw [Nat.pow_succ, Nat.mul_comm]
  have h5 := pow_2r c r
  have h7 := Nat.two_pow_pos c
  have h8 := Nat.two_pow_pos r
  have hsL : (2 ^ (r + 1) - 1) * 2 ^ c < 2 ^ (c + r + 2) := by omega
  have hmL : 2 ^ (c + r + 1) + (2 ^ r - 1) < 2 ^ (c + r + 2) := by omega
  have hpT : ∀ y, y < 2 ^ (c + r + 2) → pc (2 ^ (c + r + 2) * v + y) = pcN (c + r + 2) y + pcN (64 - (c + r + 2)) v := fun y hy => pcN_hi hk hy
  have hpS : pc s = (r + 1) + pcN (64 - (c + r + 2)) v := by rw [hf, hpT _ hsL, pcN_run]
  have run := fun z => run_more (c := c) (r := r) (z := z)
  have top := fun z => top_less (c := c) (r := r) (z := z)
  have hpM := top_pc c r
  rw [hpS, hN]
  clear hpS hN hn h0 hs
  rw [hf]
  clear hf
  refine ⟨?_, by rw [hpT _ hmL, hpM], ?_⟩
  · clear hpT run top hpM
    generalize 2 ^ (c + r + 2) * v = V
    generalize (2 ^ (r + 1) - 1) * 2 ^ c = A at *
    omega
  · intro t h1 h2 he
    obtain ⟨y, rfl⟩ : ∃ y, t = 2 ^ (c + r + 2) * v + y := ⟨t - 2 ^ (c + r + 2) * v, by
      clear hpT run top hpM
      generalize 2 ^ (c + r + 2) * v = V at *
      omega⟩
    have h1 := Nat.lt_of_add_lt_add_left h1
    have h2 := Nat.lt_of_add_lt_add_left h2
    rw [hpT y (by clear hpT run top hpM he; omega)] at he
    have he : pcN (c + r + 2) y = r + 1 := Nat.add_right_cancel he
    rcases Nat.lt_or_ge y (2 ^ (c + r + 1)) with hy | hy
    · obtain ⟨z, rfl⟩ : ∃ z, y = (2 ^ (r + 1) - 1) * 2 ^ c + z := ⟨y - (2 ^ (r + 1) - 1) * 2 ^ c, by clear hpT run top hpM he; omega⟩
      exact run z (by clear hpT run top hpM he; omega) (by clear hpT run top hpM he; omega) he
    · obtain ⟨z, rfl⟩ : ∃ z, y = 2 ^ (c + r + 1) + z := ⟨y - 2 ^ (c + r + 1), by clear hpT run top hpM he; omega⟩
      exact top z (by clear hpT run top hpM he; omega) he

/- As many as there are ways to choose. -/
def bino (n : Nat) : Nat → Nat
  | 0 => 1
  | i + 1 => bino n i * (n - i) / (i + 1)

/-- From one word to the next, counting. -/
def walk (n tot : Nat) : Nat → Nat → Nat → Option Nat
  | 0, _, _ => none
  | fuel + 1, cnt, cur => if (decide (cur < 2 ^ n) && decide (cnt ≤ tot)) = true then (if nextN cur = 0 then some (cnt + 1) else walk n tot fuel (cnt + 1) (nextN cur)) else some cnt

theorem bino_small : ∀ n, n ≤ 10 → ∀ i, i ≤ n → bino n i * (n - i) < 1000000 := by decide +kernel
theorem walk_all : ∀ n, n ≤ 10 → ∀ k, k ≤ n → walk n (bino n k) 260 0 (2 ^ k - 1) = some (bino n k) := by decide +kernel

variable {E : Env}

theorem walk_R (hE : jacquardlaw7_SetNexts_In E) (ht : TabOk E) {n tot : Nat} (hn : n ≤ 10) (h : AHeap) : ∀ fuel cnt cur r, walk n tot fuel cnt cur = some r → cnt + fuel < 2 ^ 62 → cur < 2 ^ 64 →
    Lim (jacquardlaw7_SetNexts_F3 (R E) Lim E.glob) (jacquardlaw7_SetNexts_s3 n tot cnt cur h) = some (.exit 4, jacquardlaw7_SetNexts_x3_5 tot r h)
  | 0, _, _, _, hw, _, _ => by cases hw
  | fuel + 1, cnt, cur, r, hw, hc, hu => by
    rw [walk] at hw
    have e : (decide ((cur : Int) < ((2 ^ n : Nat) : Int)) && decide ((cnt : Int) ≤ (tot : Int))) = (decide (cur < 2 ^ n) && decide (cnt ≤ tot)) := by
      rw [Bool.eq_iff_iff]; simp only [Bool.and_eq_true, decide_eq_true_eq]; omega
    by_cases hb : (decide (cur < 2 ^ n) && decide (cnt ≤ tot)) = true
    · rw [if_pos hb] at hw
      by_cases h0 : nextN cur = 0
      · rw [if_pos h0] at hw
        cases hw
        refine Lim_exit ?_
        rw [jacquardlaw7_SetNexts_r3, if_neg (by omega), g_shl_one (by omega), scK_and, e, if_pos hb, Next_R hE.c60 ht hu, c1_ok, asI_ok, h0, if_pos (by rfl), g_succ (by omega)]
      · rw [if_neg h0] at hw
        refine Lim_next ?_ (walk_R hE ht hn h fuel _ _ r hw (by omega) (next_lt hu))
        rw [jacquardlaw7_SetNexts_r3, if_neg (by omega), g_shl_one (by omega), scK_and, e, if_pos hb, Next_R hE.c60 ht hu, c1_ok, asI_ok, if_neg (by simpa using h0), g_succ (by omega)]
    · rw [if_neg hb] at hw
      cases hw
      refine Lim_exit ?_
      rw [jacquardlaw7_SetNexts_r3, if_neg (by omega), g_shl_one (by omega), scK_and, e, if_neg hb]

theorem count_R (hE : jacquardlaw7_SetNexts_In E) (ht : TabOk E) {n k : Nat} (hn : n ≤ 10) (hk : k ≤ n) (h0 h : AHeap) :
    ((Lim (jacquardlaw7_SetNexts_F2 (R E) Lim E.glob) (jacquardlaw7_SetNexts_s2 n k 1 0 h)).bind fun p => (jacquardlaw7_SetNexts_k5 (R E) Lim E.glob h0) p.1 p.2) = some ([.c (.bool true)], h) := by
  have l2 : Lim (jacquardlaw7_SetNexts_F2 (R E) Lim E.glob) (jacquardlaw7_SetNexts_s2 n k (bino n 0 : Nat) (0 : Nat) h) = some (.exit 2, jacquardlaw7_SetNexts_x2_3 n k (bino n k : Nat) h) := by
    refine Lim_count (fun i => jacquardlaw7_SetNexts_s2 n k (bino n i : Nat) (i : Nat) h) 0 k (by omega) (fun i _ hi => ?_) (Lim_exit ?_)
    · have hb := bino_small n hn i (by omega)
      have e1 : E.glob.wrap .i64 ((n : Int) - (i : Int)) = ((n - i : Nat) : Int) := by rw [g_wrap_i64 (by omega) (by omega)]; omega
      have e2 : E.glob.wrap .i64 (((bino n i : Nat) : Int) * ((n - i : Nat) : Int)) = ((bino n i * (n - i) : Nat) : Int) := by
        rw [← Int.natCast_mul]
        exact g_wrap_i64 (by omega) (by omega)
      have e3 : E.glob.quo .i64 ((bino n i * (n - i) : Nat) : Int) ((i + 1 : Nat) : Int) = ((bino n (i + 1) : Nat) : Int) := by
        have hd := Nat.div_le_self (bino n i * (n - i)) (i + 1)
        have hd2 := Nat.lt_of_le_of_lt hd hb
        rw [g_quo, ← Int.ofNat_tdiv, bino]
        clear hd e1 e2 hb
        generalize bino n i * (n - i) / (i + 1) = q at hd2
        exact wrap_i64 (by omega) (by omega)
      rw [jacquardlaw7_SetNexts_r2, if_pos (by simp; omega), g_succ (by omega), e1, e2]
      dsimp only
      rw [if_neg (by omega), e3]
    · rw [jacquardlaw7_SetNexts_r2, if_neg (by simp)]
  have hw := walk_R hE ht hn h 260 0 (2 ^ k - 1) _ (walk_all n hn k hk) (by omega) (all_lt (by omega))
  rw [show jacquardlaw7_SetNexts_s2 n k 1 0 h = jacquardlaw7_SetNexts_s2 n k (bino n 0 : Nat) (0 : Nat) h from rfl, l2, bind_ok, jacquardlaw7_SetNexts_e2_3, upto_n hE.c61 (by omega), c1_ok, asI_ok, show (0 : Int) = ((0 : Nat) : Int) from rfl, hw, bind_ok, jacquardlaw7_SetNexts_e3_5, beq_self_eq_true, scK_ok, awake7_R hE.c62 ht, c1_ok, asB_ok, bind_ok]

theorem rest_R (hE : jacquardlaw7_SetNexts_In E) (ht : TabOk E) (a1 a2 : Int) (h0 h : AHeap) : (jacquardlaw7_SetNexts_k2 (R E) Lim E.glob h0) .normal (jacquardlaw7_SetNexts_c1 a1 a2 h) = some ([.c (.bool true)], h) := by
  obtain ⟨n, hn, hv⟩ : ∃ n : Nat, n ≤ 10 ∧ E.glob.rem .i64 (E.glob.band .i64 a1 255) 11 = (n : Int) := by
    rw [g_band255, g_rem, Int.tmod_eq_emod_of_nonneg (by omega)]
    exact ⟨(a1 % 256 % 11).toNat, by omega, by omega⟩
  have hs : E.glob.wrap .i64 ((n : Int) + 1) = ((n + 1 : Nat) : Int) := g_succ (by omega)
  obtain ⟨k, hk, hkv⟩ : ∃ k : Nat, k ≤ n ∧ E.glob.rem .i64 (E.glob.band .i64 a2 255) ((n + 1 : Nat) : Int) = (k : Int) := by
    have h1 := Int.emod_lt_of_pos (a2 % 256) (show (0 : Int) < (n + 1 : Nat) by omega)
    have h2 := Int.emod_nonneg (a2 % 256) (show ((n + 1 : Nat) : Int) ≠ 0 by omega)
    rw [g_band255, g_rem, Int.tmod_eq_emod_of_nonneg (show 0 ≤ a2 % 256 by omega)]
    exact ⟨(a2 % 256 % (n + 1 : Nat)).toNat, by omega, by omega⟩
  rw [jacquardlaw7_SetNexts_ec1_n, hv, hs]
  dsimp only
  rw [if_neg (by omega), hkv]
  exact count_R hE ht hn hk h0 h

theorem SetNexts_R (hE : jacquardlaw7_SetNexts_In E) (ht : TabOk E) {s : Nat} (hs : s < 2 ^ 64) (a1 a2 : Int) (h : AHeap) :
    R E 234 [.c (.int .u64 (s : Int)), .c (.int .i64 a1), .c (.int .i64 a2)] h = some ([.c (.bool true)], h) := by
  refine R_intro hE.fn ?_
  have hm := next_lt hs
  rw [jacquardlaw7_SetNexts_eq, Next_R hE.c60 ht hs, c1_ok, asI_ok]
  by_cases h0 : nextN s = 0
  · have e : (((nextN s : Nat) : Int) != 0) = false := by rw [h0]; rfl
    rw [e, scK_ft, if_neg (by simp), scK_ft, if_neg (by simp), bind_ok]
    exact rest_R hE ht a1 a2 h h
  · obtain ⟨g1, g2, g3⟩ := gosper hs h0
    have e : (((nextN s : Nat) : Int) != 0) = true := by rw [bne_iff_ne]; omega
    generalize nextN s = m at *
    have e2 : decide ((m : Int) ≤ (s : Int)) = false := by simp; omega
    rw [e, scK_ok, e2, scK_ok, Len_R hE.c56 hm, c1_ok, asI_ok, Len_R hE.c56 hs, c1_ok, asI_ok, g2, bne_self_eq_false, bind_ok, bind_ok, if_neg (by simp), scK_ok, bind_ok]
    dsimp only
    cases hd : decide (E.glob.wrap .u64 ((m : Int) - (s : Int)) < 5000) with
    | false =>
      rw [if_neg (by simp), bind_ok]
      exact rest_R hE ht a1 a2 h h
    | true =>
      have l1 : Lim (jacquardlaw7_SetNexts_F1 (R E) Lim E.glob) (jacquardlaw7_SetNexts_s1 a1 a2 s m ((s + 1 : Nat) : Int) h) = some (.exit 0, jacquardlaw7_SetNexts_x1_1 a1 a2 h) := by
        refine Lim_count (fun i => jacquardlaw7_SetNexts_s1 a1 a2 s m (i : Nat) h) (s + 1) m (by omega) (fun i h1 hi => ?_) (Lim_exit ?_)
        · have hp := g3 i (by omega) hi
          have hp2 : (((pc i : Nat) : Int) == ((pc s : Nat) : Int)) = false := by rw [beq_eq_false_iff_ne]; omega
          rw [jacquardlaw7_SetNexts_r1, if_pos (by simp; omega), Len_R hE.c56 (by omega), c1_ok, asI_ok, Len_R hE.c56 hs, c1_ok, asI_ok, hp2, if_neg (by simp), show ((i : Int) + 1) = ((i + 1 : Nat) : Int) by omega, g_wrap_u64n (by omega)]
        · rw [jacquardlaw7_SetNexts_r1, if_neg (by simp)]
      rw [if_pos rfl, show ((s : Int) + 1) = ((s + 1 : Nat) : Int) by omega, g_wrap_u64n (by omega), l1, bind_ok, jacquardlaw7_SetNexts_e1_1, bind_ok]
      exact rest_R hE ht a1 a2 h h

theorem SetNexts_law (ht : TabOk E) (hE : jacquardlaw7_SetNexts_In E) {h : AHeap} {c0 c1 c2 : List Cell} (o0 : okC h (.i .u64) c0) (o1 : okC h (.i .i64) c1) (o2 : okC h (.i .i64) c2) :
    ∃ h', R E 234 [av1 (.i .u64) c0, av1 (.i .i64) c1, av1 (.i .i64) c2] h = some ([.c (.bool true)], h') := by
  obtain ⟨s, e0, hs⟩ := arg_u64 o0
  obtain ⟨a1, e1, _⟩ := arg_int o1
  obtain ⟨a2, e2, _⟩ := arg_int o2
  rw [e0, e1, e2]
  exact ⟨h, SetNexts_R hE ht hs a1 a2 h⟩

end Jq

/- SetNexts: whatever the input the call says true, and each argument reads behind it as before. No conditions. -/
namespace Go.Proofs.YtkdicbhkkancoaaDoor.LSetNexts
open Go Jq Go.ChangeShapes Go.WideShapes Go.ChangeAt Go.RowKit
set_option linter.unusedVariables false

theorem own : ownKnob Tryd.prog.godebug = none := by kernel_rfl
theorem laidOut : laidOutB Tryd.prog = true := by kernel_rfl

theorem gN : Tryd.prog.globalNamed "math/bits.deBruijn64tab" = some 0 := by kernel_rfl
theorem met (os : Os) (args : Array Value) : laidMetH Tryd.prog Rows.setNextsRow.laid ((World.doorLaid Tryd.prog 400 os).forCall (fun _ _ => 0) ⟨#[], args, []⟩).memory :=
  laidMetH_of_parts3 (fuel := 8) (laidMet_of_run' 8 (by kernel_rfl) (by kernel_rfl)) (by kernel_rfl) (by kernel_rfl)
theorem of_laid {W : World} (h : laidMetH Tryd.prog Rows.setNextsRow.laid W) : ∀ i, i < deB.length → W.cell? ⟨0, i, none⟩ = some (.int .u8 (deB.getD i 0)) := by
  rw [MakeChecks.laidMetH_plain _ _ _ (by kernel_rfl)] at h
  have hT := Lib.tabIs_of_head (zs := deB) (n := 64) gN (t := 70) (by kernel_rfl) (e := 5) (by kernel_rfl) (by kernel_rfl) (by kernel_rfl) (by kernel_rfl) h
  exact fun i hi => hT.cell gN i hi

set_option maxRecDepth 100000 in
theorem lifted (os : Os) (started : os.Started) (H : Type) (enc : TypeId × Value → H) :
    ReturnsInHanded {} Tryd.checked os 5 .any (fun w args => (Rows.setNextsSpec.pre enc Tryd.prog Tryd.f5 [] false w args ∧ laidMetH Tryd.prog Rows.setNextsRow.laid w) ∧ sizedMet enc Tryd.prog Tryd.f5 (OpenSpec.ofChange Rows.setNextsSpec) false w args) (Rows.setNextsSpec.post enc Tryd.prog Tryd.f5 false true false false) := by
  refine returnsInHanded_of_change_and (C := Tryd.checked) (X := fun w _ => laidMetH Tryd.prog Rows.setNextsRow.laid w) (fun _ _ _ hh h => h.of_heap hh) own started (by kernel_rfl) Tryd.func5
    (ChangeSpec.witness_shaped (enc := enc) (C := Tryd.checked) (os := os) (X := fun w _ => laidMetH Tryd.prog Rows.setNextsRow.laid w) false (World.doorLaid Tryd.prog 400 os) #[.int .u64 0, .int .i64 0, .int .i64 0] 8 rfl (World.shaped_of_RefB (by kernel_rfl) (by kernel_rfl)) (by kernel_rfl) (by kernel_rfl) (by kernel_rfl) (met os _)) ?_
  intro W base args ds gs before hval0 hW _ _ hL _
  have hval : ∀ (j : Nat) t v, Tryd.f5.params[j]? = some t → args[j]? = some v → Value.okWide Tryd.prog W .any base t v := hval0
  have hW' := hW
  obtain ⟨p, q, hA0, hV, rfl, hfz, hnd⟩ := hW
  have hA : DataW.TrodAll enc Tryd.prog W 0 (fun _ => true) true Tryd.f5.params.toList args.toList ds p := hA0
  rw [Tryd.params5] at hA hval
  obtain ⟨v0, vs0, d0, ds0, p0, q0, hargs, rfl, rfl, h0, r0⟩ := trodAll_cons hA
  obtain ⟨v1, vs1, d1, ds1, p1, q1, rfl, rfl, rfl, h1, r1⟩ := trodAll_cons r0
  obtain ⟨v2, vs2, d2, ds2, p2, q2, rfl, rfl, rfl, h2, r2⟩ := trodAll_cons r1
  obtain ⟨rfl, rfl, rfl⟩ := trodAll_nil r2
  obtain rfl : args = #[v0, v1, v2] := by cases args; simp_all
  obtain ⟨rfl, rfl⟩ := trodVars_none hV
  have lt0 : ∀ x ∈ p0, x.block < W.heap.size := by obtain ⟨m, hm⟩ := h0; exact DataW.trod_lt m _ _ _ hm
  have lt1 : ∀ x ∈ p1, x.block < W.heap.size := by obtain ⟨m, hm⟩ := h1; exact DataW.trod_lt m _ _ _ hm
  have lt2 : ∀ x ∈ p2, x.block < W.heap.size := by obtain ⟨m, hm⟩ := h2; exact DataW.trod_lt m _ _ _ hm
  have c := Come.tab1 (S := seat) (W := W) deB (fun _ => rfl) (of_laid hL)
  have k0 : ((.i .u64) : Sh).chk seat.P 23 = true := by kernel_rfl
  obtain ⟨b0, ρ0, cs0, c0, e0, x0, a0, o0⟩ := opens_arg (S := seat) (W := W) (sh := (.i .u64)) k0 h0 (wide_of k0 (hval 0 23 v0 rfl rfl)) ⟨nofun, nofun⟩ c
  have k1 : ((.i .i64) : Sh).chk seat.P 3 = true := by kernel_rfl
  obtain ⟨b1, ρ1, cs1, c1, e1, x1, a1, o1⟩ := opens_arg (S := seat) (W := W) (sh := (.i .i64)) k1 h1 (wide_of k1 (hval 1 3 v1 rfl rfl)) ⟨nofun, nofun⟩ c0
  have k2 : ((.i .i64) : Sh).chk seat.P 3 = true := by kernel_rfl
  obtain ⟨b2, ρ2, cs2, c2, e2, x2, a2, o2⟩ := opens_arg (S := seat) (W := W) (sh := (.i .i64)) k2 h2 (wide_of k2 (hval 2 3 v2 rfl rfl)) ⟨nofun, nofun⟩ c1
  obtain ⟨h', hR⟩ := SetNexts_law (E := env) tabOk in_234 (okC_mono x2 _ _ (okC_mono x1 _ _ o0)) (okC_mono x2 _ _ o1) o2
  refine (law_call (S := seat) (R_sound (S := seat) (E := env) rfl allOk) c2 (vals := #[v0, v1, v2]) (L2.cons (relA.mono e2 (relA.mono e1 a0)) (L2.cons (relA.mono e2 a1) (L2.cons a2 L2.nil))) hR).mono fun e W' ⟨he, bel⟩ => ?_
  subst he
  exact ⟨_, rfl, _, _, _, [], _, [], hW', trodAll_mk1 (shut_bool Tryd.underlying4 _), (trodAll_cons_mk (Below.trod laidOut (by kernel_rfl) (of_decide_eq_true (by kernel_rfl)) h0 bel lt0) (trodAll_cons_mk (Below.trod laidOut (by kernel_rfl) (of_decide_eq_true (by kernel_rfl)) h1 bel lt1) (trodAll_cons_mk (Below.trod laidOut (by kernel_rfl) (of_decide_eq_true (by kernel_rfl)) h2 bel lt2) trodAll_mk0))), rfl, bel.frame _, fun h => by cases h⟩

theorem over : Rows.setNextsRow.holds Tryd.pinned (OpenSpec.ofChange Rows.setNextsSpec) :=
  OpenClaim.holds_of_wide 5 Tryd.f5 rfl rfl rfl rfl rfl rfl rfl ⟨rfl, rfl, rfl, rfl, rfl⟩ rfl rfl rfl rfl rfl (by kernel_rfl) Tryd.func5 (by kernel_rfl)
    (of_decide_eq_true (by kernel_rfl)) (by unfold Func.isWrapper; first | (rw [if_pos (by decide +kernel)]; kernel_rfl) | (rw [if_neg (by decide +kernel)]; exact ⟨rfl, rfl⟩))
    (fun os started H enc _ => lifted os started H enc)

theorem proved : Rows.SetNextsCardSaid :=
  Claim7.holds_tied_plain_at .later [] [.data] true (true, "247157c4400f09dbf37c7c2675cf8478a89aff0d810297ef4dd9ce74afe5d438") false
    over (fun _ h => by cases h) (by kernel_rfl) (fun _ h => by cases h) setNexts_row_tie rfl ⟨rfl, rfl⟩ (by kernel_rfl) rfl
    (fun f fn hf hfn => by
      obtain rfl : f = 5 := Option.some.inj ((show Tryd.prog.funcNamed "jacquard/jacquardlaw7.SetNexts" = some 5 by kernel_rfl).symm.trans hf) |>.symm
      obtain rfl : fn = Tryd.f5 := (Option.some.inj (Tryd.func5.symm.trans hfn)).symm
      exact ⟨by kernel_rfl, fun j t ht => by
        rw [Tryd.params5] at ht
        have hm : t ∈ [23, 3, 3] := by simpa using Array.mem_of_getElem? ht
        have hall : ([23, 3, 3].all fun u => !Tryd.prog.wantsStandIn u) = true := by kernel_rfl
        exact (show Tryd.prog.wantsStandIn t = false by simpa using List.all_eq_true.1 hall t hm)⟩)
    (by kernel_rfl)
#print axioms proved

end Go.Proofs.YtkdicbhkkancoaaDoor.LSetNexts

