/- YtldfafaiappibaaProgEndsC: a part of the proof; no conditions of its own. -/
import Derived.KernelRfl
import Derived.Test.YtldfafaiappibaaRows
import Derived.WalkKit
import Derived.ProofKit
import Derived.OpenShut
import Derived.ShutString
import Derived.ChangeOld
import Derived.Below
import Derived.Carry
import Derived.Test.YtldfafaiappibaaProgEndsB
set_option linter.unusedVariables false
set_option linter.unusedSimpArgs false

/- Tests made of numbers: what instructions they have. -/
namespace Jq
open Go

def opdOk (o : Opd) : Prop := (o.reg = -1 ∧ 0 ≤ o.val ∧ o.val < 3) ∨ ((o.reg = 0 ∨ o.reg = 1) ∧ o.val = 0)

/-- An instruction of a small test, its letter one of L from x on. -/
def SmI (L : Int) (i : Ins) : Prop :=
  (i.kind = 1 ∧ i.reg = 0 ∧ (120 ≤ i.loc ∧ i.loc < 120 + L) ∧ opdOk i.a ∧ i.op = 0 ∧ i.b = ⟨0, 0⟩ ∧ i.n = 0) ∨
  (i.kind = 2 ∧ (i.reg = 0 ∨ i.reg = 1) ∧ (120 ≤ i.loc ∧ i.loc < 120 + L) ∧ i.a = ⟨0, 0⟩ ∧ i.op = 0 ∧ i.b = ⟨0, 0⟩ ∧ i.n = 0) ∨
  (i = ⟨3, 0, 0, ⟨0, 0⟩, 0, ⟨0, 0⟩, 0⟩) ∨
  (i.kind = 4 ∧ (i.reg = 0 ∨ i.reg = 1) ∧ (120 ≤ i.loc ∧ i.loc < 120 + L) ∧ opdOk i.a ∧ i.op = 0 ∧ i.b = ⟨-1, 1⟩ ∧ i.n = 0) ∨
  (i.kind = 5 ∧ (i.reg = 0 ∨ i.reg = 1) ∧ i.loc = 0 ∧ opdOk i.a ∧ i.op = 6 ∧ i.b = ⟨-1, 1⟩ ∧ i.n = 0) ∨
  (i.kind = 6 ∧ i.reg = 0 ∧ i.loc = 0 ∧ opdOk i.a ∧ i.op = 0 ∧ i.b = ⟨-1, 0⟩ ∧ i.n = 1)

/-- How many instructions touch memory (a fence does not count). -/
def memC (c : List Ins) : Nat := c.countP fun i => decide (i.kind = 1 ∨ i.kind = 2 ∨ i.kind = 4)

/-- Instructions one behind the other, a skip ahead of a store. -/
inductive ThrOk (L : Int) : Nat → List Ins → Prop
  | nil : ThrOk L 0 []
  | one {k : Nat} {c : List Ins} {i : Ins} : ThrOk L k c → SmI L i → i.kind ≠ 6 → ThrOk L (k + 1) (c ++ [i])
  | two {k : Nat} {c : List Ins} {i j : Ins} : ThrOk L k c → SmI L i → i.kind = 6 → SmI L j → j.kind = 1 → ThrOk L (k + 1) (c ++ [i, j])

theorem ThrOk.len {L : Int} {k : Nat} {c : List Ins} (t : ThrOk L k c) : c.length ≤ 2 * k := by
  induction t with
  | nil => simp
  | one _ _ _ ih => rw [List.length_append]; simp; omega
  | two _ _ _ _ _ ih => rw [List.length_append]; simp; omega

theorem ThrOk.all {L : Int} {k : Nat} {c : List Ins} (t : ThrOk L k c) : ∀ i ∈ c, SmI L i := by
  induction t with
  | nil => simp
  | one _ h _ ih =>
    intro i hi
    rcases List.mem_append.1 hi with hi | hi
    · exact ih i hi
    · simp at hi; subst hi; exact h
  | two _ h _ h' _ ih =>
    intro i hi
    rcases List.mem_append.1 hi with hi | hi
    · exact ih i hi
    · simp at hi; rcases hi with rfl | rfl
      · exact h
      · exact h'

theorem memC_app (a b : List Ins) : memC (a ++ b) = memC a + memC b := by unfold memC; rw [List.countP_append]

/-- Some more elements at the end. -/
theorem Own.appM {n : Nat} {h : AHeap} {x : Cell} {esz len bytes m : Nat} {cs xs : List Cell} (o : Own n h x esz cs len) (hn : n ≤ h.length) (hx : xs.length = m * esz) (hm : 0 < m) (he : 0 < esz) (h1 : (len + m) * bytes ≤ maxBytes) (h2 : len + m ≤ maxBytes) :
    ∃ x' h', (∀ {α : Type} (f : Cell → AHeap → Option α), appK esz bytes x xs h f = f x' h') ∧ Own n h' x' esz (cs ++ xs) (len + m) ∧ Kp n h h' := by
  have hd : xs.length / esz = m := by rw [hx]; exact Nat.mul_div_cancel _ he
  have hpos : 0 < xs.length := by rw [hx]; exact Nat.mul_pos hm he
  rcases o.2 with ⟨rfl, rfl⟩ | ⟨k, rfl, hk, hb⟩
  · have hcs : cs = [] := List.length_eq_zero_iff.1 (by have := o.1; omega)
    subst hcs
    refine ⟨.sl h.length xs.length 0 m, h ++ [some ⟨true, esz, xs⟩], fun f => ?_, ⟨by simp [hx], .inr ⟨h.length, by simp, hn, by rw [List.nil_append]; exact blk_new _ _⟩⟩, Kp.app _ hn⟩
    unfold appK; simp only; rw [if_neg (by omega), hd, if_pos ⟨by rw [Nat.zero_add] at h1; exact h1, by omega⟩]
  · have hl := o.1
    refine ⟨.sl k (len * esz + xs.length) 0 (len + m), setBlk h k (some ⟨true, esz, cs ++ xs⟩), fun f => ?_, ⟨by simp [hl, hx, Nat.add_mul], .inr ⟨k, by simp [hl], hk, blk_set_self (blk_lt' hb) _⟩⟩, Kp.set hk _⟩
    unfold appK; simp only; rw [hb, Option.bind_some]; dsimp only
    rw [if_pos ⟨rfl, rfl, rfl, by omega, by rw [hd]; exact h1, by rw [hd]; exact h2⟩, if_neg (by omega), if_pos trivial, hd, List.take_of_length_le (by omega)]

section
variable {E : Env}

theorem shr_nn {x k : Int} (hx : 0 ≤ x) : 0 ≤ E.glob.shr .i64 x k := by
  show 0 ≤ x.fdiv (2 ^ min k.toNat 64)
  exact Int.fdiv_nonneg hx (Int.le_of_lt (Int.pow_pos (by omega)))
theorem rem_rng {x m : Int} (hx : 0 ≤ x) (hm : 0 < m) : 0 ≤ E.glob.rem .i64 x m ∧ E.glob.rem .i64 x m < m := by
  rw [g_rem, Int.tmod_eq_emod_of_nonneg hx]
  exact ⟨Int.emod_nonneg _ (by omega), Int.emod_lt_of_pos _ hm⟩
theorem g_band1 {x : Int} : E.glob.band .i64 x 1 = x % 2 := by
  show IntKind.wrap .i64 ((BitVec.ofInt 64 x &&& BitVec.ofInt 64 1).toNat : Nat) = _
  have h1 : (BitVec.ofInt 64 x &&& BitVec.ofInt 64 1).toNat = (BitVec.ofInt 64 x).toNat % 2 := by
    rw [BitVec.toNat_and]
    have : (BitVec.ofInt 64 1).toNat = 2 ^ 1 - 1 := by decide
    rw [this, Nat.and_two_pow_sub_one_eq_mod]
  rw [h1, BitVec.toNat_ofInt]
  have h3 : ((((x % ((2 ^ 64 : Nat) : Int)).toNat % 2 : Nat) : Int)) = x % 2 := by omega
  rw [h3]
  exact wrap_i64 (by omega) (by omega)
theorem band1_rng (x : Int) : E.glob.band .i64 x 1 = 0 ∨ E.glob.band .i64 x 1 = 1 := by rw [g_band1]; omega

theorem g_band16 {x : Int} : 0 ≤ E.glob.band .i64 x 65535 ∧ E.glob.band .i64 x 65535 < 65536 := by
  have h : E.glob.band .i64 x 65535 = x % 65536 := by
    show IntKind.wrap .i64 ((BitVec.ofInt 64 x &&& BitVec.ofInt 64 65535).toNat : Nat) = _
    have h1 : (BitVec.ofInt 64 x &&& BitVec.ofInt 64 65535).toNat = (BitVec.ofInt 64 x).toNat % 65536 := by
      rw [BitVec.toNat_and]
      have : (BitVec.ofInt 64 65535).toNat = 2 ^ 16 - 1 := by decide
      rw [this, Nat.and_two_pow_sub_one_eq_mod]
    rw [h1, BitVec.toNat_ofInt]
    have h3 : ((((x % ((2 ^ 64 : Nat) : Int)).toNat % 65536 : Nat) : Int)) = x % 65536 := by omega
    rw [h3]
    exact wrap_i64 (by omega) (by omega)
  rw [h]; omega

/-- Where the row of numbers and the place in it lie. -/
def VarsAt (h0 : AHeap) (x : Cell) (h : AHeap) (m : Nat) : Prop :=
  blk? h h0.length = some ⟨true, 0, [x]⟩ ∧ blk? h (h0.length + 1) = some ⟨true, 0, [.int .i64 (m : Int)]⟩ ∧ h0.length + 2 ≤ h.length ∧ Kp h0.length h0 h

def nxF (h0 : AHeap) : Cell := .fn 115 [(h0.length + 1, 1, 0), (h0.length, 1, 0)]

theorem VarsAt.keep {h0 h h' : AHeap} {x : Cell} {m : Nat} (v : VarsAt h0 x h m) (hk : Kp (h0.length + 2) h h') : VarsAt h0 x h' m :=
  ⟨by rw [hk.blk (by omega)]; exact v.1, by rw [hk.blk (by omega)]; exact v.2.1, Nat.le_trans v.2.2.1 hk.1, v.2.2.2.trans (hk.mono (by omega))⟩

theorem rd1' {α : Type} {h : AHeap} {k : Nat} {a : Cell} (hk : blk? h k = some ⟨true, 0, [a]⟩) {F : List Cell → Option α} : rdH h k 1 F = F [a] := rdH_ok hk rfl

/-- The next number. -/
theorem next_R (hE : jacquardlaw3_Small_1_In E) {h0 h : AHeap} {x : Cell} {l : List Int} {m : Nat} (hx : SlAt h0 x 1 (intC .i64 l) l.length) (hlow : Low h0.length x) (hl : l.length < 9223372036854775808) (v : VarsAt h0 x h m) (hm : m < 100000) :
    ∃ r : Int, 0 ≤ r ∧ r < 65536 ∧ (∀ {α : Type} (F : AV → AHeap → Option α), (fnK (nxF h0) fun g cs => c1 (R E g ([] ++ cs) h) F) = F (.c (.int .i64 r)) (setBlk h (h0.length + 1) (some ⟨true, 0, [.int .i64 ((m + 1 : Nat) : Int)]⟩))) ∧
      VarsAt h0 x (setBlk h (h0.length + 1) (some ⟨true, 0, [.int .i64 ((m + 1 : Nat) : Int)]⟩)) (m + 1) := by
  obtain ⟨v1, v2, v3, v4⟩ := v
  have b2 : blk? (setBlk h (h0.length + 1) (some ⟨true, 0, [.int .i64 ((m + 1 : Nat) : Int)]⟩)) (h0.length + 1) = some ⟨true, 0, [.int .i64 ((m + 1 : Nat) : Int)]⟩ := blk_set_self (blk_lt' v2) _
  have b1 : blk? (setBlk h (h0.length + 1) (some ⟨true, 0, [.int .i64 ((m + 1 : Nat) : Int)]⟩)) h0.length = some ⟨true, 0, [x]⟩ := by rw [blk_set_ne (by omega)]; exact v1
  have kk : Kp h0.length h0 (setBlk h (h0.length + 1) (some ⟨true, 0, [.int .i64 ((m + 1 : Nat) : Int)]⟩)) := v4.trans (Kp.set (by omega) _)
  have hx' := hx.keep hlow kk
  have hV : VarsAt h0 x (setBlk h (h0.length + 1) (some ⟨true, 0, [.int .i64 ((m + 1 : Nat) : Int)]⟩)) (m + 1) := ⟨b1, b2, by rw [setBlk_len]; exact v3, kk⟩
  have hb : jacquardlaw3_Small_1.body (R E) Lim E.glob [.c (.ptr (h0.length + 1) 1 0), .c (.ptr h0.length 1 0)] h = some ([.c (.int .i64 (if m + 1 > l.length then 0 else E.glob.band .i64 (l.getD m 0) 65535))], setBlk h (h0.length + 1) (some ⟨true, 0, [.int .i64 ((m + 1 : Nat) : Int)]⟩)) := by
    rw [jacquardlaw3_Small_1_eq, rd1' v2, atK_ok (i := 0) (c := .int .i64 (m : Int)) rfl, asI_ok, rd1' v2, if_pos (by simp), g_succ (by omega), putH_ok v2 rfl]
    dsimp only [List.set]
    rw [rd1' b2, atK_ok (i := 0) (c := .int .i64 ((m + 1 : Nat) : Int)) rfl, asI_ok, rd1' b1, atK_ok (i := 0) (c := x) rfl, hx'.len]
    by_cases hgt : m + 1 > l.length
    · rw [if_pos (by simp; omega), if_pos hgt]
    · rw [if_neg (by simp; omega), if_neg hgt, rd1' b1, atK_ok (i := 0) (c := x) rfl, rd1' b2, atK_ok (i := 0) (c := .int .i64 ((m + 1 : Nat) : Int)) rfl, asI_ok, g_wrap_i64 (by omega) (by omega), show ((m + 1 : Nat) : Int) - 1 = (m : Int) by omega, hx'.get1 (show m < l.length by omega) (intC_get (getDI (by omega))), asI_ok]
  refine ⟨if m + 1 > l.length then 0 else E.glob.band .i64 (l.getD m 0) 65535, ?_, ?_, fun F => ?_, hV⟩
  · split
    · omega
    · exact g_band16.1
  · split
    · omega
    · exact g_band16.2
  · show c1 (R E 115 [.c (.ptr (h0.length + 1) 1 0), .c (.ptr h0.length 1 0)] h) F = _
    rw [R_intro hE.fn hb, c1_ok]

end
end Jq

/- Tests made of numbers: one instruction more. -/
namespace Jq
open Go

section
variable {E : Env}

/-- What one round comes to. -/
def OneMore (E : Env) (most : Int) (fnc : Cell) (n L : Int) (mem : Nat) (i : Int) (k : Int) (s0 s1 : List Cell) (N kk : Nat) (c : List Ins) (h : AHeap) (o : Option (Ex × St)) : Prop :=
  ∃ (c2 : List Ins) (mem2 : Nat) (xs2 : Cell) (h2 : AHeap), o = some (.normal, jacquardlaw3_Small_s1 most fnc n L (mem2 : Int) i xs2 (k - 1) s0 s1 h2) ∧ ThrOk L (kk + 1) c2 ∧ memC c2 + mem = memC c + mem2 ∧ mem ≤ mem2 ∧ mem2 ≤ mem + 1 ∧
    Own N h2 xs2 9 (codeC c2) c2.length ∧ Kp N h h2

variable {most : Int} {fnc : Cell} {n L : Int} {mem : Nat} {i : Int} {xs : Cell} {k loc x r m : Int} {s0 s1 : List Cell} {v : Opd} {h : AHeap} {N kk : Nat} {c : List Ins}

theorem one_ins {f : Cell → AHeap → Option (Ex × St)} {mem2 : Nat} {j : Ins} (hxs : Own N h xs 9 (codeC c) c.length) (hN : N ≤ h.length) (hc : c.length ≤ 100) (t : ThrOk L kk c) (hj : SmI L j) (h6 : j.kind ≠ 6)
    (hm2 : mem2 = mem + memC [j]) (hf : ∀ x' h', f x' h' = some (.normal, jacquardlaw3_Small_s1 most fnc n L (mem2 : Int) i x' (k - 1) s0 s1 h')) :
    OneMore E most fnc n L mem i k s0 s1 N kk c h (appK 9 72 xs j.cs h f) := by
  have hm : maxBytes ≥ 200 * 72 := by unfold maxBytes; omega
  obtain ⟨x', h', ha, ho, hk, _⟩ := hxs.app (bytes := 72) (xs := j.cs) hN rfl (by omega) (by omega) (by omega)
  have h1 : memC [j] ≤ 1 := by unfold memC; exact Nat.le_trans (List.countP_le_length) (by simp)
  refine ⟨c ++ [j], mem2, x', h', by rw [ha, hf], t.one hj h6, by rw [memC_app, hm2]; omega, by omega, by omega, ?_, hk⟩
  rw [codeC_snoc, List.length_append, List.length_singleton]; exact ho

theorem memC_yes {j : Ins} (h : j.kind = 1 ∨ j.kind = 2 ∨ j.kind = 4) : memC [j] = 1 := by unfold memC; rw [List.countP_cons, List.countP_nil]; simp [h]
theorem memC_no {j : Ins} (h : ¬ (j.kind = 1 ∨ j.kind = 2 ∨ j.kind = 4)) : memC [j] = 0 := by unfold memC; rw [List.countP_cons, List.countP_nil]; simp [h]

theorem small_st (hxs : Own N h xs 9 (codeC c) c.length) (hN : N ≤ h.length) (hc : c.length ≤ 100) (t : ThrOk L kk c) (hv : opdOk v) (hloc : 120 ≤ loc ∧ loc < 120 + L) (hmem : mem < 1000) (hk : 0 ≤ k ∧ k ≤ 3) {b : Bool} (hb : b = true) :
    OneMore E most fnc n L mem i k s0 s1 N kk c h ((jacquardlaw3_Small_k13 (R E) Lim E.glob) .normal (jacquardlaw3_Small_c3 most fnc n L (mem : Int) i xs k loc r m b s0 s1 v.cs h)) := by
  have e : splice (splice (splice (List.replicate 9 (Cell.int .i64 0)) 0 ([(.int .i64 1)] : List Cell)) 2 ([(.int .i64 loc)] : List Cell)) 3 v.cs = (Ins.mk 1 0 loc v 0 ⟨0, 0⟩ 0).cs := rfl
  rw [jacquardlaw3_Small_ec3_n, if_pos hb, if_pos ⟨rfl, rfl⟩, if_pos ⟨rfl, by simp [splice]⟩, e, if_pos ⟨rfl, by simp⟩, ins_splice, if_pos (ins_len19 _)]
  refine one_ins (mem2 := mem + 1) hxs hN hc t (.inl ⟨rfl, rfl, hloc, hv, rfl, rfl, rfl⟩) (by simp) (by rw [memC_yes (.inl rfl)]) fun x' h' => ?_
  rw [g_succ (by omega), g_wrap_i64 (by omega) (by omega)]

theorem small_ld (hxs : Own N h xs 9 (codeC c) c.length) (hN : N ≤ h.length) (hc : c.length ≤ 100) (t : ThrOk L kk c) (hr : r = 0 ∨ r = 1) (hloc : 120 ≤ loc ∧ loc < 120 + L) (hmem : mem < 1000) (hk : 0 ≤ k ∧ k ≤ 3) {b : Bool} (hb : b = true) {s2 : List Cell} :
    OneMore E most fnc n L mem i k s0 s1 N kk c h ((jacquardlaw3_Small_k14 (R E) Lim E.glob) .normal (jacquardlaw3_Small_c4 most fnc n L (mem : Int) i xs k loc r m b s0 s1 s2 h)) := by
  have e : splice (splice (splice (List.replicate 9 (Cell.int .i64 0)) 0 ([(.int .i64 2)] : List Cell)) 1 ([(.int .i64 r)] : List Cell)) 2 ([(.int .i64 loc)] : List Cell) = (Ins.mk 2 r loc ⟨0, 0⟩ 0 ⟨0, 0⟩ 0).cs := rfl
  rw [jacquardlaw3_Small_ec4_n, if_pos hb, e, if_pos ⟨rfl, by simp⟩, ins_splice, if_pos (ins_len19 _)]
  refine one_ins (mem2 := mem + 1) hxs hN hc t (.inr (.inl ⟨rfl, hr, hloc, rfl, rfl, rfl, rfl⟩)) (by simp) (by rw [memC_yes (.inr (.inl rfl))]) fun x' h' => ?_
  rw [g_succ (by omega), g_wrap_i64 (by omega) (by omega)]

theorem mb2 {k : Nat} (hk : k ≤ 100) : (k + 2) * 72 ≤ maxBytes ∧ k + 2 ≤ maxBytes := by
  have hm : maxBytes ≥ 200 * 72 := by unfold maxBytes; omega
  omega

theorem z18_len2 (a b : Ins) : (codeC [a, b]).length = 2 * 9 := by rw [codeC_len]; rfl

theorem two_ins {f : Cell → AHeap → Option (Ex × St)} {j q : Ins} (hxs : Own N h xs 9 (codeC c) c.length) (hN : N ≤ h.length) (hc : c.length ≤ 100) (t : ThrOk L kk c) (hj : SmI L j) (h6 : j.kind = 6) (hq : SmI L q) (h1 : q.kind = 1)
    (hf : ∀ x' h', f x' h' = some (.normal, jacquardlaw3_Small_s1 most fnc n L ((mem + 1 : Nat) : Int) i x' (k - 1) s0 s1 h')) :
    OneMore E most fnc n L mem i k s0 s1 N kk c h (appK 9 72 xs (codeC [j, q]) h f) := by
  obtain ⟨f1, f2⟩ := mb2 hc
  obtain ⟨x', h', ha, ho, hkp⟩ := hxs.appM hN (z18_len2 j q) Nat.zero_lt_two (Nat.succ_pos 8) f1 f2
  have e4 : codeC (c ++ [j, q]) = codeC c ++ codeC [j, q] := by simp [codeC]
  refine ⟨c ++ [j, q], mem + 1, x', h', by rw [ha, hf], t.two hj h6 hq h1, ?_, by omega, by omega, ?_, hkp⟩
  · rw [memC_app]
    have : memC [j, q] = 1 := by
      show memC ([j] ++ [q]) = 1
      rw [memC_app, memC_no (by omega), memC_yes (.inl h1)]
    omega
  · rw [e4, List.length_append]; exact ho

theorem z18_len : 0 + 9 ≤ (List.replicate 18 (Cell.int .i64 0)).length := by rw [List.length_replicate]; omega
theorem z18_one (a : Ins) : 9 + 9 ≤ (splice (List.replicate 18 (Cell.int .i64 0)) 0 a.cs).length := by
  unfold splice
  rw [List.length_append, List.length_append, List.length_drop, List.length_take, List.length_replicate, Ins.len]; omega
theorem z18_two (a b : Ins) : splice (splice (List.replicate 18 (Cell.int .i64 0)) 0 a.cs) 9 b.cs = codeC [a, b] := rfl

theorem small_other (hxs : Own N h xs 9 (codeC c) c.length) (hN : N ≤ h.length) (hc : c.length ≤ 100) (t : ThrOk L kk c) (hL : 0 < L) (hv : opdOk v) (hr : r = 0 ∨ r = 1) (hloc : 120 ≤ loc ∧ loc < 120 + L) (hmem : mem < 1000) (hk : 0 ≤ k ∧ k ≤ 3) {b : Bool} (hb : b = false) :
    OneMore E most fnc n L mem i k s0 s1 N kk c h ((jacquardlaw3_Small_k14 (R E) Lim E.glob) .normal (jacquardlaw3_Small_c4 most fnc n L (mem : Int) i xs k loc r m b s0 s1 v.cs h)) := by
  have hm : maxBytes ≥ 200 * 72 := by unfold maxBytes; omega
  rw [jacquardlaw3_Small_ec4_n, if_neg (by rw [hb]; simp)]
  by_cases h8 : m = 8
  · have e : splice (List.replicate 9 (Cell.int .i64 0)) 0 ([(.int .i64 3)] : List Cell) = (Ins.mk 3 0 0 ⟨0, 0⟩ 0 ⟨0, 0⟩ 0).cs := rfl
    rw [if_pos (by rw [h8]; rfl), e, if_pos ⟨rfl, by simp⟩, ins_splice, if_pos (ins_len19 _)]
    refine one_ins (mem2 := mem) hxs hN hc t (.inr (.inr (.inl rfl))) (by simp) (by rw [memC_no (by simp)]; rfl) fun x' h' => ?_
    rw [g_wrap_i64 (by omega) (by omega)]
  · rw [if_neg (by rw [beq_iff_eq]; exact h8)]
    by_cases h9 : m = 9
    · have e : splice (splice (splice (splice (splice (List.replicate 9 (Cell.int .i64 0)) 0 ([(.int .i64 4)] : List Cell)) 1 ([(.int .i64 r)] : List Cell)) 2 ([(.int .i64 loc)] : List Cell)) 3 v.cs) 6 (splice (splice [Cell.int .i64 0, Cell.int .i64 0] 0 ([(.int .i64 (-1))] : List Cell)) 1 ([(.int .i64 1)] : List Cell)) = (Ins.mk 4 r loc v 0 ⟨-1, 1⟩ 0).cs := rfl
      rw [if_pos (by rw [h9]; rfl), if_pos ⟨rfl, rfl⟩, if_pos ⟨rfl, by simp [splice]⟩, if_pos ⟨rfl, by simp [splice, Opd.cs]⟩, e, if_pos ⟨rfl, by simp⟩, ins_splice, if_pos (ins_len19 _)]
      refine one_ins (mem2 := mem + 1) hxs hN hc t (.inr (.inr (.inr (.inl ⟨rfl, hr, hloc, hv, rfl, rfl, rfl⟩)))) (by simp) (by rw [memC_yes (.inr (.inr rfl))]) fun x' h' => ?_
      rw [g_succ (by omega), g_wrap_i64 (by omega) (by omega)]
    · rw [if_neg (by rw [beq_iff_eq]; exact h9)]
      by_cases h10 : m = 10
      · have e : splice (splice (splice (splice (splice (List.replicate 9 (Cell.int .i64 0)) 0 ([(.int .i64 5)] : List Cell)) 1 ([(.int .i64 r)] : List Cell)) 3 v.cs) 5 ([(.int .i64 6)] : List Cell)) 6 (splice (splice [Cell.int .i64 0, Cell.int .i64 0] 0 ([(.int .i64 (-1))] : List Cell)) 1 ([(.int .i64 1)] : List Cell)) = (Ins.mk 5 r 0 v 6 ⟨-1, 1⟩ 0).cs := rfl
        rw [if_pos (by rw [h10]; rfl), if_pos ⟨rfl, rfl⟩, if_pos ⟨rfl, by simp [splice]⟩, if_pos ⟨rfl, by simp [splice, Opd.cs]⟩, if_pos ⟨rfl, by simp [splice, Opd.cs]⟩, e, if_pos ⟨rfl, by simp⟩, ins_splice, if_pos (ins_len19 _)]
        refine one_ins (mem2 := mem) hxs hN hc t (.inr (.inr (.inr (.inr (.inl ⟨rfl, hr, rfl, hv, rfl, rfl, rfl⟩))))) (by simp) (by rw [memC_no (by simp)]; rfl) fun x' h' => ?_
        rw [g_wrap_i64 (by omega) (by omega)]
      · have e1 : splice (splice (splice (splice (List.replicate 9 (Cell.int .i64 0)) 0 ([(.int .i64 6)] : List Cell)) 3 v.cs) 6 (splice [Cell.int .i64 0, Cell.int .i64 0] 0 ([(.int .i64 (-1))] : List Cell))) 8 ([(.int .i64 1)] : List Cell) = (Ins.mk 6 0 0 v 0 ⟨-1, 0⟩ 1).cs := rfl
        have e2 : splice (splice (splice (List.replicate 9 (Cell.int .i64 0)) 0 ([(.int .i64 1)] : List Cell)) 2 ([(.int .i64 loc)] : List Cell)) 3 (splice (splice [Cell.int .i64 0, Cell.int .i64 0] 0 ([(.int .i64 (-1))] : List Cell)) 1 ([(.int .i64 2)] : List Cell)) = (Ins.mk 1 0 loc ⟨-1, 2⟩ 0 ⟨0, 0⟩ 0).cs := rfl
        rw [if_neg (by rw [beq_iff_eq]; exact h10), if_pos ⟨rfl, rfl⟩, if_pos ⟨rfl, by simp [splice]⟩, if_pos ⟨rfl, by simp [splice, Opd.cs]⟩, if_pos ⟨rfl, by simp [splice, Opd.cs]⟩, if_pos ⟨rfl, by simp [splice]⟩, e1, e2, if_pos ⟨Ins.len _, z18_len⟩, if_pos ⟨Ins.len _, z18_one _⟩, z18_two, if_pos (z18_len2 _ _)]
        have hL2 : (2 : Int) < 3 ∧ (0 : Int) ≤ 2 := ⟨by decide, by decide⟩
        have hst : SmI L (Ins.mk 1 0 loc ⟨-1, 2⟩ 0 ⟨0, 0⟩ 0) := .inl ⟨rfl, rfl, hloc, .inl ⟨rfl, hL2.2, hL2.1⟩, rfl, rfl, rfl⟩
        have hsk : SmI L (Ins.mk 6 0 0 v 0 ⟨-1, 0⟩ 1) := .inr (.inr (.inr (.inr (.inr ⟨rfl, rfl, rfl, hv, rfl, rfl, rfl⟩))))
        refine two_ins hxs hN hc t hsk rfl hst rfl fun x' h' => ?_
        rw [g_succ (by omega), g_wrap_i64 (by omega) (by omega)]

theorem small_case (hxs : Own N h xs 9 (codeC c) c.length) (hN : N ≤ h.length) (hc : c.length ≤ 100) (t : ThrOk L kk c) (hL : 0 < L) (hv : opdOk v) (hx : 0 ≤ x) (hloc : 120 ≤ loc ∧ loc < 120 + L) (hmem : mem < 1000) (hk : 0 ≤ k ∧ k ≤ 3) :
    OneMore E most fnc n L mem i k s0 s1 N kk c h ((jacquardlaw3_Small_k11 (R E) Lim E.glob) .normal (jacquardlaw3_Small_c2 most fnc n L (mem : Int) i xs k x loc s0 s1 v.cs h)) := by
  have hr := band1_rng (E := E) (E.glob.shr .i64 x 11)
  have hm := rem_rng (E := E) hx (show (0 : Int) < 12 by omega)
  rw [jacquardlaw3_Small_ec2_n]
  generalize E.glob.band .i64 (E.glob.shr .i64 x 11) 1 = r at *
  generalize E.glob.rem .i64 x 12 = m at *
  by_cases h0 : m = 0
  · rw [if_pos (by rw [h0]; rfl), bind_ok]; exact small_st hxs hN hc t hv hloc hmem hk (by rw [h0]; rfl)
  rw [if_neg (by rw [beq_iff_eq]; exact h0)]
  by_cases h1 : m = 1
  · rw [if_pos (by rw [h1]; rfl), bind_ok]; exact small_st hxs hN hc t hv hloc hmem hk (by rw [h1]; rfl)
  rw [if_neg (by rw [beq_iff_eq]; exact h1)]
  by_cases h2 : m = 2
  · rw [if_pos (by rw [h2]; rfl), bind_ok]; exact small_st hxs hN hc t hv hloc hmem hk (by rw [h2]; rfl)
  rw [if_neg (by rw [beq_iff_eq]; exact h2), bind_ok]
  by_cases h3 : m = 3
  · exact small_st hxs hN hc t hv hloc hmem hk (by rw [h3]; rfl)
  rw [jacquardlaw3_Small_ec3_n, if_neg (by rw [beq_iff_eq]; exact h3)]
  by_cases h4 : m = 4
  · rw [if_pos (by rw [h4]; rfl), bind_ok]; exact small_ld hxs hN hc t hr hloc hmem hk (by rw [h4]; rfl)
  rw [if_neg (by rw [beq_iff_eq]; exact h4)]
  by_cases h5 : m = 5
  · rw [if_pos (by rw [h5]; rfl), bind_ok]; exact small_ld hxs hN hc t hr hloc hmem hk (by rw [h5]; rfl)
  rw [if_neg (by rw [beq_iff_eq]; exact h5)]
  by_cases h6 : m = 6
  · rw [if_pos (by rw [h6]; rfl), bind_ok]; exact small_ld hxs hN hc t hr hloc hmem hk (by rw [h6]; rfl)
  rw [if_neg (by rw [beq_iff_eq]; exact h6), bind_ok]
  by_cases h7 : m = 7
  · exact small_ld hxs hN hc t hr hloc hmem hk (by rw [h7]; rfl)
  exact small_other hxs hN hc t hL hv hr hloc hmem hk (by rw [beq_eq_false_iff_ne]; exact h7)

end
end Jq

/- Tests made of numbers: all of them are small, and may be. -/
namespace Jq
open Go

/-- The first so many blocks are as they were, but for one. -/
def KpX (a n : Nat) (h h' : AHeap) : Prop := h.length ≤ h'.length ∧ ∀ k, k < n → k ≠ a → h'[k]? = h[k]?

theorem KpX.refl (a n : Nat) (h : AHeap) : KpX a n h h := ⟨Nat.le_refl _, fun _ _ _ => rfl⟩
theorem KpX.trans {a n : Nat} {h h' h'' : AHeap} (x : KpX a n h h') (y : KpX a n h' h'') : KpX a n h h'' := ⟨Nat.le_trans x.1 y.1, fun k hk ha => (y.2 k hk ha).trans (x.2 k hk ha)⟩
theorem KpX.mono {a n m : Nat} {h h' : AHeap} (x : KpX a n h h') (hm : m ≤ n) : KpX a m h h' := ⟨x.1, fun k hk ha => x.2 k (by omega) ha⟩
theorem Kp.x {a n : Nat} {h h' : AHeap} (x : Kp n h h') : KpX a n h h' := ⟨x.1, fun k hk _ => x.2 k hk⟩
theorem KpX.set (a n : Nat) (h : AHeap) (b : Option Blk) : KpX a n h (setBlk h a b) := ⟨by simp [setBlk], fun j _ ha => by unfold setBlk; rw [List.getElem?_set_ne (fun e => ha e.symm)]⟩
theorem KpX.blk {a n : Nat} {h h' : AHeap} (x : KpX a n h h') {k : Nat} (hk : k < n) (ha : k ≠ a) : blk? h' k = blk? h k := by unfold blk?; rw [x.2 k hk ha]

theorem Own.keepX {a n : Nat} {h h' : AHeap} {x : Cell} {esz len : Nat} {cs : List Cell} (o : Own n h x esz cs len) (ha : a < n) (hk : KpX a h.length h h') : Own n h' x esz cs len := by
  refine ⟨o.1, o.2.imp id ?_⟩
  rintro ⟨k, e, hn, hb⟩
  exact ⟨k, e, hn, by rw [hk.blk (blk_lt' hb) (by omega)]; exact hb⟩
theorem RowsOwn.keepX {α : Type} {esz : Nat} {C : List α → List Cell} {a n : Nat} {h h' : AHeap} {y : Cell} {rows : List (List α)} (r : RowsOwn esz C n h y rows) (ha : a < n) (hk : KpX a h.length h h') : RowsOwn esz C n h' y rows := by
  obtain ⟨ts, h1, h2⟩ := r
  exact ⟨ts, h1.keepX ha hk, fun t r hr => by obtain ⟨x, x1, x2, x3⟩ := h2 t r hr; exact ⟨x, x1, x2.keepX ha hk, x3⟩⟩

structure GoodT (most : Nat) (T : PTest) : Prop where
  n : 2 ≤ T.thr.length ∧ T.thr.length ≤ 3
  code : ∃ L : Int, (L = 2 ∨ L = 3) ∧ ∀ c ∈ T.thr, ∃ k, k ≤ 3 ∧ ThrOk L k c
  mem : (T.thr.map memC).sum ≤ most
  inits : T.inits = [] ∨ ∃ v : Int, 0 ≤ v ∧ v < 3 ∧ T.inits = [(120, v)]
  any : T.any.length ≤ 2 ∧ ∀ row ∈ T.any, row.length ≤ 2 ∧ ∀ a ∈ row, a.loc = 0 ∨ a.loc = 120

section
variable {E : Env}

theorem opd_reg {r : Int} : splice [Cell.int .i64 0, Cell.int .i64 0] 0 ([(.int .i64 r)] : List Cell) = (Opd.mk r 0).cs := rfl
theorem opd_num {v : Int} : splice (splice [Cell.int .i64 0, Cell.int .i64 0] 0 ([(.int .i64 (-1))] : List Cell)) 1 ([(.int .i64 v)] : List Cell) = (Opd.mk (-1) v).cs := rfl

/-- A thread's instructions. -/
theorem small_thr (hE : jacquardlaw3_Small_1_In E) {h0 : AHeap} {x : Cell} {l : List Int} (hx : SlAt h0 x 1 (intC .i64 l) l.length) (hlow : Low h0.length x) (hl : l.length < 9223372036854775808)
    {most : Nat} (hmost : most ≤ 900) {n i L : Int} (hL : L = 2 ∨ L = 3) (s0 s1 : List Cell) (N : Nat) (hN0 : h0.length + 2 ≤ N) : ∀ (k mem m kk : Nat) (c : List Ins) (xs : Cell) (h : AHeap), k ≤ 3 → kk + k ≤ 10 → mem ≤ most → m + k < 1000 →
      VarsAt h0 x h m → N ≤ h.length → Own N h xs 9 (codeC c) c.length → ThrOk L kk c →
      ∃ (mem' m' kk' : Nat) (c' : List Ins) (xs' : Cell) (h' : AHeap), Lim (jacquardlaw3_Small_F1 (R E) Lim E.glob) (jacquardlaw3_Small_s1 (most : Int) (nxF h0) n L (mem : Int) i xs (k : Int) s0 s1 h) = some (.exit 2, jacquardlaw3_Small_x1_3 (most : Int) (nxF h0) n L (mem' : Int) i xs' s0 s1 h') ∧
        ThrOk L kk' c' ∧ kk' ≤ kk + k ∧ memC c' + mem = memC c + mem' ∧ mem' ≤ most ∧ VarsAt h0 x h' m' ∧ m' ≤ m + k ∧ N ≤ h'.length ∧ Own N h' xs' 9 (codeC c') c'.length ∧ KpX (h0.length + 1) N h h' := by
  intro k
  induction k with
  | zero =>
    intro mem m kk c xs h _ _ hmem _ hv hN ho ht
    refine ⟨mem, m, kk, c, xs, h, Lim_exit ?_, ht, by omega, by omega, hmem, hv, by omega, hN, ho, KpX.refl _ _ _⟩
    rw [jacquardlaw3_Small_r1, show decide (((0 : Nat) : Int) > 0) = false from rfl, scK_ft, if_neg (by simp)]
  | succ k ih =>
    intro mem m kk c xs h hk hkk hmem hm hv hN ho ht
    by_cases hmm : mem < most
    · obtain ⟨r, r0, r1, hF, hv2⟩ := next_R hE hx hlow hl hv (by omega)
      have hLp : 0 < L := by omega
      have hset : KpX (h0.length + 1) N h (setBlk h (h0.length + 1) (some ⟨true, 0, [.int .i64 ((m + 1 : Nat) : Int)]⟩)) := KpX.set _ _ _ _
      have ho2 := ho.keepX (show h0.length + 1 < N by omega) (KpX.set (h0.length + 1) h.length h (some ⟨true, 0, [.int .i64 ((m + 1 : Nat) : Int)]⟩))
      have hN2 : N ≤ (setBlk h (h0.length + 1) (some ⟨true, 0, [.int .i64 ((m + 1 : Nat) : Int)]⟩)).length := by rw [setBlk_len]; exact hN
      generalize setBlk h (h0.length + 1) (some ⟨true, 0, [.int .i64 ((m + 1 : Nat) : Int)]⟩) = H at *
      have q4 := rem_rng (E := E) (shr_nn (E := E) (k := 4) r0) hLp
      have q6 := rem_rng (E := E) (shr_nn (E := E) (k := 6) r0) (show (0 : Int) < 3 by omega)
      have hb1 := band1_rng (E := E) (E.glob.shr .i64 r 10)
      have hclen := ht.len
      have hcase : ∀ v : Opd, opdOk v → OneMore E (most : Int) (nxF h0) n L mem i ((k + 1 : Nat) : Int) s0 s1 N kk c H ((jacquardlaw3_Small_k11 (R E) Lim E.glob) .normal (jacquardlaw3_Small_c2 (most : Int) (nxF h0) n L (mem : Int) i xs ((k + 1 : Nat) : Int) r (120 + E.glob.rem .i64 (E.glob.shr .i64 r 4) L) s0 s1 v.cs H)) := by
        intro v hvv
        exact small_case ho2 hN2 (by omega) ht hLp hvv r0 ⟨by omega, by omega⟩ (by omega) ⟨by omega, by omega⟩
      have hround : ∃ v : Opd, opdOk v ∧ jacquardlaw3_Small_F1 (R E) Lim E.glob (jacquardlaw3_Small_s1 (most : Int) (nxF h0) n L (mem : Int) i xs ((k + 1 : Nat) : Int) s0 s1 h) = (jacquardlaw3_Small_k11 (R E) Lim E.glob) .normal (jacquardlaw3_Small_c2 (most : Int) (nxF h0) n L (mem : Int) i xs ((k + 1 : Nat) : Int) r (120 + E.glob.rem .i64 (E.glob.shr .i64 r 4) L) s0 s1 v.cs H) := by
        have hw : E.glob.wrap .i64 (120 + E.glob.rem .i64 (E.glob.shr .i64 r 4) L) = 120 + E.glob.rem .i64 (E.glob.shr .i64 r 4) L := g_wrap_i64 (by omega) (by omega)
        rw [jacquardlaw3_Small_r1, show decide (((k + 1 : Nat) : Int) > 0) = true from decide_eq_true (by omega), scK_ok, bind_ok]
        dsimp only
        rw [if_pos (decide_eq_true (by omega)), hF, asI_ok, if_neg (by omega)]
        rw [hw, opd_num, opd_reg, if_pos ⟨rfl, rfl, rfl⟩]
        by_cases h8 : (E.glob.rem .i64 (E.glob.shr .i64 r 8) 3 == 0) = true
        · refine ⟨⟨E.glob.band .i64 (E.glob.shr .i64 r 10) 1, 0⟩, .inr ⟨hb1, rfl⟩, ?_⟩
          rw [if_pos h8, if_pos ⟨rfl, rfl, rfl⟩, bind_ok]
        · refine ⟨⟨-1, E.glob.rem .i64 (E.glob.shr .i64 r 6) 3⟩, .inl ⟨rfl, q6.1, q6.2⟩, ?_⟩
          rw [if_neg h8, bind_ok]
      obtain ⟨v, hvv, hround⟩ := hround
      obtain ⟨c2, mem2, xs2, h2, g1, g2, g3, g4, g5, g6, g7⟩ := hcase v hvv
      rw [g1, show ((k + 1 : Nat) : Int) - 1 = (k : Int) by omega] at hround
      obtain ⟨mem', m', kk', c', xs', h', f1, f2, f3, f4, f5, f6, f7, f8, f9, f10⟩ := ih mem2 (m + 1) (kk + 1) c2 xs2 h2 (by omega) (by omega) (by omega) (by omega) (hv2.keep (g7.mono hN0)) (Nat.le_trans hN2 g7.1) g6 g2
      exact ⟨mem', m', kk', c', xs', h', Lim_next hround f1, f2, by omega, by omega, f5, f6, by omega, f8, f9, (hset.trans g7.x).trans f10⟩
    · refine ⟨mem, m, kk, c, xs, h, Lim_exit ?_, ht, by omega, by omega, hmem, hv, by omega, hN, ho, KpX.refl _ _ _⟩
      rw [jacquardlaw3_Small_r1, show decide (((k + 1 : Nat) : Int) > 0) = true from decide_eq_true (by omega), scK_ok, bind_ok]
      dsimp only
      rw [if_neg (by simp; omega)]

theorem sum_app_one (l : List (List Ins)) (c : List Ins) : ((l ++ [c]).map memC).sum = (l.map memC).sum + memC c := by
  rw [List.map_append, List.sum_append]; simp

/-- All threads. -/
theorem small_thrs (hE : jacquardlaw3_Small_1_In E) {h0 : AHeap} {x : Cell} {l : List Int} (hx : SlAt h0 x 1 (intC .i64 l) l.length) (hlow : Low h0.length x) (hl : l.length < 9223372036854775808)
    {most : Nat} (hmost : most ≤ 900) {n : Nat} (hn : n ≤ 3) {L : Int} (hL : L = 2 ∨ L = 3) (s0 : List Cell) (a : Cell) {name : ByteArray} {Nb : Nat} (hNb : h0.length + 2 ≤ Nb) : ∀ (q i mem m : Nat) (rows : List (List Ins)) (y : Cell) (h : AHeap), i + q = n → rows.length = i → mem ≤ most → m + 4 * q < 900 →
      (rows.map memC).sum = mem → (∀ c ∈ rows, ∃ k, k ≤ 3 ∧ ThrOk L k c) → VarsAt h0 x h m → Nb ≤ h.length → RowsOwn 9 codeC Nb h y rows →
      ∃ (mem' m' : Nat) (rows' : List (List Ins)) (y' : Cell) (h' : AHeap), Lim (jacquardlaw3_Small_F2 (R E) Lim E.glob) (jacquardlaw3_Small_s2 (most : Int) (nxF h0) (n : Int) L (mem : Int) (i : Int) s0 [.str name, a, y, .int .i64 0, .nils] h) = some (.exit 0, jacquardlaw3_Small_x2_1 (nxF h0) s0 [.str name, a, y', .int .i64 0, .nils] h') ∧
        rows'.length = n ∧ mem' ≤ most ∧ (rows'.map memC).sum = mem' ∧ (∀ c ∈ rows', ∃ k, k ≤ 3 ∧ ThrOk L k c) ∧ VarsAt h0 x h' m' ∧ m' ≤ m + 4 * q ∧ Nb ≤ h'.length ∧ RowsOwn 9 codeC Nb h' y' rows' ∧ KpX (h0.length + 1) Nb h h' := by
  intro q
  induction q with
  | zero =>
    intro i mem m rows y h hi hr hmem _ hs hc hv hN hy
    refine ⟨mem, m, rows, y, h, Lim_exit ?_, by omega, hmem, hs, hc, hv, by omega, hN, hy, KpX.refl _ _ _⟩
    rw [jacquardlaw3_Small_r2, if_neg (by simp; omega)]
  | succ q ih =>
    intro i mem m rows y h hi hr hmem hm hs hc hv hN hy
    obtain ⟨r, r0, r1, hF, hv2⟩ := next_R hE hx hlow hl hv (by omega)
    have hset : KpX (h0.length + 1) Nb h (setBlk h (h0.length + 1) (some ⟨true, 0, [.int .i64 ((m + 1 : Nat) : Int)]⟩)) := KpX.set _ _ _ _
    have hy2 := hy.keepX (show h0.length + 1 < Nb by omega) (KpX.set (h0.length + 1) h.length h (some ⟨true, 0, [.int .i64 ((m + 1 : Nat) : Int)]⟩))
    have hN2 : Nb ≤ (setBlk h (h0.length + 1) (some ⟨true, 0, [.int .i64 ((m + 1 : Nat) : Int)]⟩)).length := by rw [setBlk_len]; exact hN
    generalize setBlk h (h0.length + 1) (some ⟨true, 0, [.int .i64 ((m + 1 : Nat) : Int)]⟩) = H at *
    have q3 := rem_rng (E := E) r0 (show (0 : Int) < 3 by omega)
    obtain ⟨k, hk⟩ : ∃ k : Nat, E.glob.rem .i64 r 3 + 1 = (k : Int) := ⟨(E.glob.rem .i64 r 3 + 1).toNat, by omega⟩
    obtain ⟨mem', m', kk', c', xs', h', f1, f2, f3, f4, f5, f6, f7, f8, f9, f10⟩ := small_thr hE hx hlow hl hmost (n := n) (i := (i : Int)) hL s0 [.str name, a, y, .int .i64 0, .nils] H.length (Nat.le_trans hNb hN2) k mem (m + 1) 0 [] .nils H (by omega) (by omega) hmem (by omega) hv2 (Nat.le_refl _) (Own.nil _ _ _) ThrOk.nil
    have hy3 := hy2.keepX (show h0.length + 1 < Nb by omega) f10
    obtain ⟨y2, h2, hap, hyp, hkp, _⟩ := hy3.push (f9.monoN hN2) (fun j h1 h2 => by have := (f9.blkLt h1).2; have := (hy2.blkLt h2).1; omega) (Nat.le_trans hN2 f8) (by omega)
    have hm0 : memC c' + mem = mem' := by have : memC ([] : List Ins) = 0 := rfl; omega
    have hround : jacquardlaw3_Small_F2 (R E) Lim E.glob (jacquardlaw3_Small_s2 (most : Int) (nxF h0) (n : Int) L (mem : Int) (i : Int) s0 [.str name, a, y, .int .i64 0, .nils] h) = some (.normal, jacquardlaw3_Small_s2 (most : Int) (nxF h0) (n : Int) L (mem' : Int) ((i + 1 : Nat) : Int) s0 [.str name, a, y2, .int .i64 0, .nils] h2) := by
      have hw : E.glob.wrap .i64 (E.glob.rem .i64 r 3 + 1) = (k : Int) := by rw [g_wrap_i64 (by omega) (by omega), hk]
      rw [jacquardlaw3_Small_r2, if_pos (by simp; omega), hF, asI_ok, hw, f1, bind_ok, jacquardlaw3_Small_e1_3, show ∀ {α : Type} (f : Cell → Option α), atK [.str name, a, y, .int .i64 0, .nils] 2 f = f y from fun _ => rfl, if_pos (show (splice [Cell.nils] 0 ([xs'] : List Cell)).length = 1 * 1 from rfl), show splice [Cell.nils] 0 ([xs'] : List Cell) = [xs'] from rfl, hap, if_pos (show 2 < ([.str name, a, y, .int .i64 0, .nils] : List Cell).length by simp), g_succ (by omega)]
      rfl
    obtain ⟨mem3, m3, rows3, y3, h3, g1, g2, g3, g4, g5, g6, g7, g8, g9, g10⟩ := ih (i + 1) mem' m' (rows ++ [c']) y2 h2 (by omega) (by rw [List.length_append, List.length_singleton]; omega) f5 (by omega) (by rw [sum_app_one]; omega)
      (fun c hcm => by
        rcases List.mem_append.1 hcm with hcm | hcm
        · exact hc c hcm
        · simp at hcm; subst hcm; exact ⟨kk', by omega, f2⟩) (f6.keep (hkp.mono hNb)) (Nat.le_trans (Nat.le_trans hN2 f8) hkp.1) hyp
    exact ⟨mem3, m3, rows3, y3, h3, Lim_next hround g1, g2, g3, g4, g5, g6, by omega, g8, g9, ((hset.trans (f10.mono hN2)).trans hkp.x).trans g10⟩

end
end Jq

/- A test made ready by the program. -/
namespace Jq
open Go

theorem plc_get {c : Int} : ∀ (l : List Int) (i : Nat), c ∈ l → ∃ j : Nat, plc l c i = ((i + j : Nat) : Int) ∧ l[j]? = some c
  | [], _, h => by cases h
  | d :: t, i, h => by
    rw [plc]
    by_cases e : d = c
    · exact ⟨0, by rw [if_pos e]; rfl, by rw [e]; rfl⟩
    · rw [if_neg e]
      have hm : c ∈ t := by
        rcases List.mem_cons.1 h with h | h
        · exact absurd h.symm e
        · exact h
      obtain ⟨j, h1, h2⟩ := plc_get t (i + 1) hm
      exact ⟨j + 1, by rw [h1]; congr 1; omega, by simpa using h2⟩

theorem locsF_pw (S : Nat → Bool) : ∀ n, (locsF S n).Pairwise (· < ·)
  | 0 => by simp [locsF]
  | n + 1 => by
    rw [locsF_succ]
    split
    · rw [List.pairwise_append]
      refine ⟨locsF_pw S n, by simp, fun a ha b hb => ?_⟩
      obtain ⟨c, h1, _, rfl⟩ := locsF_mem.1 ha
      rw [List.mem_singleton] at hb
      subst hb; omega
    · exact locsF_pw S n

theorem pw_inj {l : List Int} (h : l.Pairwise (· < ·)) {j k : Nat} {c : Int} (hj : l[j]? = some c) (hk : l[k]? = some c) : j = k := by
  obtain ⟨h1, e1⟩ := List.getElem?_eq_some_iff.1 hj
  obtain ⟨h2, e2⟩ := List.getElem?_eq_some_iff.1 hk
  rw [List.pairwise_iff_getElem] at h
  rcases Nat.lt_trichotomy j k with g | g | g
  · have := h j k h1 h2 g; omega
  · exact g
  · have := h k j h2 h1 g; omega

theorem init_set {locs : List Int} (hp : locs.Pairwise (· < ·)) (l : List (Int × Int)) (p : Int × Int) {j : Nat} (hj : locs[j]? = some p.1) : (locs.map (initV l)).set j p.2 = locs.map (initV (l ++ [p])) := by
  refine List.ext_getElem? fun k => ?_
  by_cases hk : j = k
  · subst hk
    have hjl := getI_lt hj
    rw [List.getElem?_set_self (by rw [List.length_map]; exact hjl), List.getElem?_map, hj, Option.map_some, initV_snoc, if_pos rfl]
  · rw [List.getElem?_set_ne hk, List.getElem?_map, List.getElem?_map]
    cases hc : locs[k]? with
    | none => rfl
    | some c =>
      rw [Option.map_some, Option.map_some, initV_snoc, if_neg (fun e => hk (pw_inj hp (by rw [← e] at hc; exact hj) (by rw [← e] at hc; exact hc)))]

theorem locB_iff {n : Int} : locB n = true ↔ 97 ≤ n ∧ n ≤ 122 := by unfold locB; simp

theorem ins_cs_loc {i : Ins} {k r o n : Int} {a b : Opd} (h : i.cs = (⟨k, r, 0, a, o, b, n⟩ : Ins).cs) : i.loc = 0 := by
  simp only [Ins.cs, List.cons.injEq, Cell.int.injEq, true_and] at h
  exact h.2.2.1

theorem fldB_loc {i : Ins} (h : fldB locB i = true) : ((i.kind = 1 ∨ i.kind = 2 ∨ i.kind = 4) ∧ 97 ≤ i.loc ∧ i.loc ≤ 122) ∨ (¬ (i.kind = 1 ∨ i.kind = 2 ∨ i.kind = 4) ∧ i.loc = 0) := by
  unfold fldB at h
  by_cases h1 : i.kind = 1
  · rw [if_pos h1, Bool.and_eq_true, Bool.and_eq_true] at h; exact .inl ⟨.inl h1, locB_iff.1 h.1.1⟩
  rw [if_neg h1] at h
  by_cases h2 : i.kind = 2
  · rw [if_pos h2, Bool.and_eq_true, Bool.and_eq_true] at h; exact .inl ⟨.inr (.inl h2), locB_iff.1 h.1.1⟩
  rw [if_neg h2] at h
  by_cases h3 : i.kind = 3
  · rw [if_pos h3, decide_eq_true_eq] at h; exact .inr ⟨by omega, ins_cs_loc h⟩
  rw [if_neg h3] at h
  by_cases h4 : i.kind = 4
  · rw [if_pos h4] at h; simp only [Bool.and_eq_true] at h; exact .inl ⟨.inr (.inr h4), locB_iff.1 h.1.1.1.1⟩
  rw [if_neg h4] at h
  by_cases h5 : i.kind = 5
  · rw [if_pos h5, Bool.and_eq_true, decide_eq_true_eq] at h; exact .inr ⟨by omega, ins_cs_loc h.2⟩
  rw [if_neg h5] at h
  by_cases h6 : i.kind = 6
  · rw [if_pos h6, Bool.and_eq_true, decide_eq_true_eq] at h; exact .inr ⟨by omega, ins_cs_loc h.2⟩
  rw [if_neg h6] at h; cases h

theorem okT_ins {T : PTest} (h : okT T = true) {c : List Ins} (hc : c ∈ T.thr) {i : Ins} (hi : i ∈ c) : fldB locB i = true := by
  unfold okT at h
  simp only [Bool.and_eq_true, Bool.not_eq_true', List.any_eq_false, Bool.not_eq_true, Bool.not_eq_false'] at h
  simpa using h.1.2 c hc i hi

theorem atmB_loc {a : Atm} (h : atmB a = true) : a.loc = 0 ∨ (97 ≤ a.loc ∧ a.loc ≤ 122) := by
  unfold atmB at h
  split at h
  · rw [Bool.and_eq_true] at h; exact .inr (locB_iff.1 h.2)
  · simp only [Bool.and_eq_true, beq_iff_eq] at h; exact .inl h.1.2

theorem okT_atm {T : PTest} (h : okT T = true) {c : List Atm} (hc : c ∈ T.any) {a : Atm} (ha : a ∈ c) : atmB a = true := by
  unfold okT condB at h
  rw [Bool.and_eq_true] at h
  have h := h.2
  split at h
  · rw [beq_iff_eq] at h
    have : T.any = [] := List.length_eq_zero_iff.1 h
    rw [this] at hc; cases hc
  · rw [Bool.and_eq_true] at h
    have h := h.2
    rw [Bool.not_eq_true', List.any_eq_false] at h
    have h := h c hc
    unfold rowBad at h
    rw [Bool.not_eq_true, Bool.or_eq_false_iff, List.any_eq_false] at h
    have := h.2 a ha
    simpa using this

theorem any_congr' {α : Type} {l : List α} {f g : α → Bool} (h : ∀ x ∈ l, f x = g x) : l.any f = l.any g := by
  induction l with
  | nil => rfl
  | cons a l ih => rw [List.any_cons, List.any_cons, h a (by simp), ih fun x hx => h x (by simp [hx])]

theorem loc_mod {n : Int} {b : Nat} (hb : 97 ≤ b ∧ b ≤ 122) (h : n = 0 ∨ (97 ≤ n ∧ n ≤ 122)) : (n == (b : Int)) = (n % 256 == (b : Int)) := by
  rw [Bool.eq_iff_iff, beq_iff_eq, beq_iff_eq]; omega

theorem there_eq {T : PTest} (h : okT T = true) {b : Nat} (hb : 97 ≤ b ∧ b ≤ 122) : thereW T b = thereT T b := by
  unfold thereW thereT
  congr 1
  · congr 1
    · exact any_congr' fun p hp => loc_mod hb (.inr (locB_iff.1 (okT_locs h p hp)))
    · refine any_congr' fun c hc => any_congr' fun i hi => loc_mod hb ?_
      rcases fldB_loc (okT_ins h hc hi) with ⟨_, h⟩ | ⟨_, h⟩
      · exact .inr h
      · exact .inl h
  · exact any_congr' fun c hc => any_congr' fun a ha => loc_mod hb (atmB_loc (okT_atm h hc ha))

theorem locsF_congr {S S' : Nat → Bool} (h : ∀ b, 97 ≤ b → b ≤ 122 → S b = S' b) : ∀ n, n ≤ 26 → locsF S n = locsF S' n
  | 0, _ => rfl
  | n + 1, hn => by rw [locsF_succ, locsF_succ, locsF_congr h n (by omega), h (97 + n) (by omega) (by omega)]

theorem locs_eq {T : PTest} (h : okT T = true) : locsW T = locsT T := locsF_congr (fun b h1 h2 => there_eq h ⟨h1, h2⟩) 26 (Nat.le_refl _)

theorem mem_locs_init {T : PTest} (h : okT T = true) {p : Int × Int} (hp : p ∈ T.inits) : p.1 ∈ locsT T := by
  have hr := locB_iff.1 (okT_locs h p hp)
  refine locsF_mem.2 ⟨(p.1 - 97).toNat, by omega, ?_, by omega⟩
  unfold thereT
  rw [Bool.or_eq_true, Bool.or_eq_true, List.any_eq_true]
  exact .inl (.inl ⟨p, hp, by rw [beq_iff_eq]; omega⟩)

section
variable {E : Env}

theorem Index_R (hE : slices_Index_sbyte_byte_In E) {y : Cell} {locs : List Int} {h : AHeap} (ha : SlAt h y 1 (intC .u8 locs) locs.length) (hl : locs.length ≤ 100) (x : Int) :
    R E 134 [.c y, .c (.int .u8 x)] h = some ([.c (.int .i64 (plc locs x 0))], h) := by
  refine R_intro hE.fn ?_
  have key : ∀ (t : List Int) (i : Nat), locs.drop i = t → (Lim (slices_Index_sbyte_byte_F1 (R E) Lim E.glob) (slices_Index_sbyte_byte_s1 y x locs.length (i : Int) h)).bind (fun p => slices_Index_sbyte_byte_k3 (R E) Lim E.glob h p.1 p.2) = some ([.c (.int .i64 (plc t x i))], h) := by
    intro t
    induction t with
    | nil =>
      intro i hd
      have hi : locs.length ≤ i := by
        have := congrArg List.length hd
        simp at this; omega
      have hr : slices_Index_sbyte_byte_F1 (R E) Lim E.glob (slices_Index_sbyte_byte_s1 y x locs.length (i : Int) h) = some (.exit 0, slices_Index_sbyte_byte_x1_1 h) := by
        rw [slices_Index_sbyte_byte_r1, if_neg (by simp; omega)]
      rw [Lim_exit hr, bind_ok, slices_Index_sbyte_byte_e1_1]; rfl
    | cons v t ih =>
      intro i hd
      have hi : i < locs.length := by
        have := congrArg List.length hd
        simp at this; omega
      have hv : locs[i]? = some v := by
        have := congrArg (fun z => z[0]?) hd
        simpa [List.getElem?_drop] using this
      have hd2 : locs.drop (i + 1) = t := by
        have := congrArg (List.drop 1) hd
        simpa [List.drop_drop] using this
      have hr : slices_Index_sbyte_byte_F1 (R E) Lim E.glob (slices_Index_sbyte_byte_s1 y x locs.length (i : Int) h) = if (x == v) = true then some (.ret, slices_Index_sbyte_byte_x1_0 i h) else some (.normal, slices_Index_sbyte_byte_s1 y x locs.length ((i + 1 : Nat) : Int) h) := by
        rw [slices_Index_sbyte_byte_r1, if_pos (by simp; omega), ha.get1 hi (intC_get hv), asI_ok, g_succ (by omega)]
      rw [plc]
      by_cases hvx : v = x
      · rw [if_pos (by rw [hvx]; exact beq_self_eq_true _)] at hr
        rw [Lim_ret hr, bind_ok, slices_Index_sbyte_byte_e1_0, if_pos hvx]
      · rw [if_neg (by rw [beq_iff_eq]; exact fun e => hvx e.symm)] at hr
        rw [if_neg hvx]
        have := ih (i + 1) hd2
        cases hL : Lim (slices_Index_sbyte_byte_F1 (R E) Lim E.glob) (slices_Index_sbyte_byte_s1 y x locs.length ((i + 1 : Nat) : Int) h) with
        | none => rw [hL] at this; cases this
        | some p => rw [Lim_next hr hL]; rw [hL] at this; exact this
  rw [slices_Index_sbyte_byte_eq, ha.len]
  exact key locs 0 rfl

/-- A field of a row of one's own is put. -/
theorem Own.setG {n : Nat} {h : AHeap} {x : Cell} {esz len : Nat} {cs : List Cell} (o : Own n h x esz cs len) {i j : Nat} (hi : i < len) (hj : j < esz) (c : Cell) :
    ∃ k, n ≤ k ∧ k < h.length ∧ isBlk x k ∧ (∀ {α : Type} (f : AHeap → Option α), (idxSK esz x (i : Int) fun k N o => rdH h k N fun l => if o + j < l.length then putH h k (l.set (o + j) c) f else none) = f (setBlk h k (some ⟨true, esz, cs.set (i * esz + j) c⟩))) ∧
      Own n (setBlk h k (some ⟨true, esz, cs.set (i * esz + j) c⟩)) x esz (cs.set (i * esz + j) c) len := by
  rcases o.2 with ⟨_, h0⟩ | ⟨k, rfl, hk, hb⟩
  · omega
  · have hlt := idx_lt hi hj
    refine ⟨k, hk, blk_lt' hb, rfl, fun f => ?_, by rw [List.length_set]; exact o.1, .inr ⟨k, by rw [List.length_set], hk, blk_set_self (blk_lt' hb) _⟩⟩
    unfold idxSK
    simp only
    rw [if_pos ⟨by omega, by omega⟩, rdH_ok hb rfl]
    dsimp only
    rw [Int.toNat_natCast, Nat.zero_add, if_pos (by rw [o.1]; exact hlt), putH_ok hb rfl]

theorem codeC_set : ∀ (l : List Ins) (i : Nat) (q : Ins) (v : Int), l[i]? = some q → (codeC l).set (i * 9 + 2) (.int .i64 v) = codeC (l.set i { q with loc := v })
  | [], _, _, _, h => by simp at h
  | a :: l, 0, q, v, h => by
    simp at h; subst h
    have e : codeC (a :: l) = a.cs ++ codeC l := rfl
    rw [e, List.set_append_left _ _ (by rw [Ins.len]; omega)]
    rfl
  | a :: l, i + 1, q, v, h => by
    have ih := codeC_set l i q v (by simpa using h)
    have e : codeC (a :: l) = a.cs ++ codeC l := rfl
    rw [e, List.set_append_right _ _ (by rw [Ins.len]; omega), show (i + 1) * 9 + 2 - a.cs.length = i * 9 + 2 by rw [Ins.len]; omega, ih]
    rfl

/-- A row of instructions copied. -/
theorem Clone_R (hE : slices_Clone_sIns_Ins_In E) {x : Cell} {l : List Ins} {h : AHeap} (hx : SlAt h x 9 (codeC l) l.length) (hlow : Low h.length x) (hl : l.length ≤ 1000) :
    ∃ x' h', R E 119 [.c x] h = some ([.c x'], h') ∧ Own h.length h' x' 9 (codeC l) l.length ∧ Kp h.length h h' := by
  have hm : maxBytes ≥ 1000 * 72 := by unfold maxBytes; omega
  have hlen := codeC_len l
  rcases hx.2 with ⟨rfl, h0⟩ | ⟨k, N, off, rfl, hb⟩
  · refine ⟨.nils, h, R_intro hE.fn ?_, ⟨hlen, .inl ⟨rfl, h0⟩⟩, Kp.refl _ _⟩
    rw [slices_Clone_sIns_Ins_eq]; rfl
  · have hk1 : Kp h.length h (h ++ [some ⟨true, 9, []⟩]) := Kp.app _ (Nat.le_refl _)
    have hx2 := hx.keep hlow hk1
    have hc : slCells (h ++ [some ⟨true, 9, []⟩]) 9 (.sl k N off l.length) = some (codeC l) := by
      unfold slCells
      dsimp only
      by_cases h0 : l.length = 0
      · have : l = [] := List.length_eq_zero_iff.1 h0
        rw [if_pos h0, this]; rfl
      · rw [if_neg h0]
        rcases hx2.2 with ⟨e, _⟩ | ⟨k', N', off', e, hb⟩
        · cases e
        · cases e
          rcases hb with hb | ⟨b, hb, hN, hle, hat⟩
          · exact absurd hb h0
          · rw [hb]
            simp only
            rw [if_pos ⟨hN, hle⟩]
            congr 1
            refine List.ext_getElem? fun j => ?_
            rw [List.getElem?_take, List.getElem?_drop]
            by_cases hj : j < l.length * 9
            · rw [if_pos hj, hat j hj]
            · rw [if_neg hj, List.getElem?_eq_none (by omega)]
    have hap : ∀ {α : Type} (f : Cell → AHeap → Option α), appK 9 72 (.sl h.length 0 0 0) (codeC l) (h ++ [some ⟨true, 9, []⟩]) f = f (.sl h.length (codeC l).length 0 l.length) (h ++ [some ⟨true, 9, codeC l⟩]) := by
      intro α f
      unfold appK
      simp only
      rw [blk_new, Option.bind_some]
      dsimp only
      have hd : (codeC l).length / 9 = l.length := by rw [hlen]; omega
      rw [if_pos ⟨rfl, rfl, rfl, by simp, by rw [hd]; simp; omega, by rw [hd]; simp; omega⟩, hd]
      by_cases h0 : l.length = 0
      · have : l = [] := List.length_eq_zero_iff.1 h0
        subst this
        rw [if_pos (by simp [codeC]), setBlk_last]; rfl
      · rw [if_neg (by omega), if_pos trivial, setBlk_last]
        simp
    refine ⟨.sl h.length (codeC l).length 0 l.length, h ++ [some ⟨true, 9, codeC l⟩], R_intro hE.fn ?_, ⟨hlen, .inr ⟨h.length, rfl, Nat.le_refl _, blk_new _ _⟩⟩, Kp.app _ (Nat.le_refl _)⟩
    rw [slices_Clone_sIns_Ins_eq, show ∀ {α : Type} (f : Bool → Option α), eqNilK false (.sl k N off l.length) .nils f = f false from fun _ => rfl, if_neg (by simp), if_pos (show ([] : List Cell).length = 0 * 9 from rfl), hc, bind_ok, show ([] : List Cell).length = 0 from rfl, hap]

end
end Jq

/- A test made ready by the program: the whole. -/
namespace Jq
open Go

def mixL {α : Type} (f : α → α) (l : List α) (i : Nat) : List α := (l.take i).map f ++ l.drop i
theorem mixL_zero {α : Type} (f : α → α) (l : List α) : mixL f l 0 = l := by simp [mixL]
theorem mixL_all {α : Type} (f : α → α) (l : List α) : mixL f l l.length = l.map f := by simp [mixL]
theorem mixL_len {α : Type} (f : α → α) (l : List α) (i : Nat) : (mixL f l i).length = l.length := by simp [mixL]; omega
theorem mixL_get {α : Type} (f : α → α) {l : List α} {i : Nat} {q : α} (h : l[i]? = some q) : (mixL f l i)[i]? = some q := by
  have hi := getI_lt h
  unfold mixL
  rw [List.getElem?_append_right (by simp; omega)]
  simp only [List.length_map, List.length_take, List.getElem?_drop]
  rw [show i + (i - min i l.length) = i by omega]; exact h
theorem mixL_set {α : Type} (f : α → α) {l : List α} {i : Nat} {q : α} (h : l[i]? = some q) : (mixL f l i).set i (f q) = mixL f l (i + 1) := by
  have hi := getI_lt h
  have hd : l.drop i = q :: l.drop (i + 1) := by
    rw [List.drop_eq_getElem_cons hi]
    have := List.getElem?_eq_getElem hi
    rw [h] at this
    rw [← Option.some.inj this]
  unfold mixL
  rw [List.set_append_right _ _ (by simp; omega), takeI_succ h, hd]
  simp only [List.length_map, List.length_take, List.map_append, List.map_cons, List.map_nil, List.append_assoc, List.singleton_append]
  rw [show i - min i l.length = 0 by omega]; rfl
theorem mixL_same {α : Type} (f : α → α) {l : List α} {i : Nat} {q : α} (h : l[i]? = some q) (hq : f q = q) : mixL f l i = mixL f l (i + 1) := by
  rw [← mixL_set f h, hq]
  refine List.ext_getElem? fun k => ?_
  by_cases hk : i = k
  · subst hk
    rw [List.getElem?_set_self (by rw [mixL_len]; exact getI_lt h), mixL_get f h]
  · rw [List.getElem?_set_ne hk]

theorem intC_set (k : IntKind) (l : List Int) (i : Nat) (v : Int) : (intC k l).set i (.int k v) = intC k (l.set i v) := by simp [intC, List.map_set]
theorem KpX.kp {a n m : Nat} {h h' : AHeap} (x : KpX a n h h') (h1 : m ≤ n) (h2 : m ≤ a) : Kp m h h' := ⟨x.1, fun k hk => x.2 k (by omega) (by omega)⟩

section
variable {E : Env}

theorem rd3 {α : Type} {h : AHeap} {k : Nat} {a b c : Cell} (hk : blk? h k = some ⟨true, 0, [a, b, c]⟩) {F : List Cell → Option α} : rdH h k 3 F = F [a, b, c] := rdH_ok hk rfl

theorem Own.setG1 {n : Nat} {h : AHeap} {x : Cell} {len : Nat} {cs : List Cell} (o : Own n h x 1 cs len) {i : Nat} (hi : i < len) (c : Cell) :
    ∃ k, n ≤ k ∧ k < h.length ∧ isBlk x k ∧ (∀ {α : Type} (f : AHeap → Option α), (idxSK 1 x (i : Int) fun k N o => rdH h k N fun l => if o < l.length then putH h k (l.set o c) f else none) = f (setBlk h k (some ⟨true, 1, cs.set i c⟩))) ∧
      Own n (setBlk h k (some ⟨true, 1, cs.set i c⟩)) x 1 (cs.set i c) len := by
  obtain ⟨k, h1, h2, h3, h4, h5⟩ := o.setG (j := 0) hi (by omega) c
  rw [show i * 1 + 0 = i by omega] at h4 h5
  exact ⟨k, h1, h2, h3, h4, h5⟩

theorem u8_loc {x : Int} (h : 97 ≤ x ∧ x ≤ 122) : E.glob.wrap .u8 x = x := by
  show IntKind.wrap .u8 _ = _
  simp only [IntKind.wrap, IntKind.signed, IntKind.bits, Bool.false_and, Bool.false_eq_true, if_false]; omega

/-- Where a letter stands, of a program that is being made. -/
theorem place_R (hE : prog_Compile_1_In E) {h : AHeap} {K : Nat} {y b c : Cell} {locs : List Int} (hb : blk? h K = some ⟨true, 0, [y, b, c]⟩) (hy : SlAt h y 1 (intC .u8 locs) locs.length) (hl : locs.length ≤ 100) {x : Int} (hx : 97 ≤ x ∧ x ≤ 122) :
    R E 118 ([.c (.int .i64 x)] ++ [.c (.ptr K 3 0)]) h = some ([.c (.int .i64 (plc locs x 0))], h) := by
  refine R_intro hE.fn ?_
  show prog_Compile_1.body (R E) Lim E.glob [.c (.int .i64 x), .c (.ptr K 3 0)] h = _
  rw [prog_Compile_1_eq, rd3 hb, atK_ok (i := 0 + 0) (c := y) rfl, u8_loc hx, Index_R hE.c134 hy hl, c1_ok, asI_ok]

theorem checkT_ok {T : PTest} (h : checkT T = 0) : okT T = true := by
  unfold checkT at h
  by_cases ho : (!okT T) = true
  · rw [if_pos ho] at h; cases h
  · simpa using ho

theorem Compile_R (hE : prog_Compile_In E) {cs : List Cell} {T : PTest} {h : AHeap} (p : TestAt h cs T) (hs : T.small) (hn : T.name.size < 9223372036854775807) (hk : checkT T = 0) :
    ∃ cs' h', R E 98 [.agg cs] h = some ([.agg cs', .c (.int .i64 0)], h') ∧ ProgAt h' cs' (compT T) ∧ Kp h.length h h' := by
  have hfit := hs.fits hn
  have hok := checkT_ok hk
  obtain ⟨y, h4, rl, ol, kl⟩ := Locs_R hE.c117 p hfit
  rw [locs_eq hok] at ol
  have hck := Check_R hE.c116 p hs hn
  rw [hk] at hck
  have hLl : (locsT T).length ≤ 26 := locsF_len _ 26
  have hpw : (locsT T).Pairwise (· < ·) := locsF_pw _ 26
  have hmb : maxBytes ≥ 100 * 8 := by unfold maxBytes; omega
  have hlen := p.len
  obtain ⟨a, b, c, rfl, ⟨ha, hal⟩, hb, _⟩ := p
  obtain ⟨ts, t1, t2, t3⟩ := hb
  have a1 : ∀ {α : Type} (f : Cell → Option α), atK [.str T.name, a, b, .int .i64 T.ck, c] 1 f = f a := fun _ => rfl
  have a2 : ∀ {α : Type} (f : Cell → Option α), atK [.str T.name, a, b, .int .i64 T.ck, c] 2 f = f b := fun _ => rfl
  generalize hcs : ([.str T.name, a, b, .int .i64 T.ck, c] : List Cell) = cs at *
  generalize hL : locsT T = L at *
  -- the program's own blocks
  have hK : h.length ≤ h4.length := kl.1
  have sp1 : splice [Cell.nils, Cell.nils, Cell.nils] 0 ([y] : List Cell) = [y, .nils, .nils] := rfl
  have l3 : ([Cell.nils, Cell.nils, Cell.nils] : List Cell).length = 3 := rfl
  have hrep : rep (Int.toNat (L.length : Int)) [Cell.int .i64 0] = intC .i64 (L.map (initV [])) := by
    rw [Int.toNat_natCast]
    unfold rep
    have : ∀ n : Nat, (List.replicate n [Cell.int .i64 0]).flatten = List.replicate n (Cell.int .i64 0) := fun n => by
      induction n with
      | zero => rfl
      | succ n ih => rw [List.replicate_succ, List.flatten_cons, ih, List.replicate_succ]; rfl
    rw [this]
    refine List.ext_getElem? fun k => ?_
    unfold intC
    rw [List.getElem?_replicate, List.getElem?_map, List.getElem?_map]
    split
    · rename_i hk
      rw [List.getElem?_eq_getElem hk]; rfl
    · rename_i hk
      rw [List.getElem?_eq_none (by omega)]; rfl
  have n8 : (h4 ++ [some (Blk.mk true 0 [y, .nils, .nils])]).length = h4.length + 1 := by simp
  have b8 : blk? (h4 ++ [some (Blk.mk true 0 [y, .nils, .nils])]) h4.length = some ⟨true, 0, [y, .nils, .nils]⟩ := blk_new _ _
  have k8 : Kp h4.length h4 (h4 ++ [some (Blk.mk true 0 [y, .nils, .nils])]) := Kp.app _ (Nat.le_refl _)
  have hrun : prog_Compile.body (R E) Lim E.glob [.agg cs] h = (Lim (prog_Compile_F1 (R E) Lim E.glob) (prog_Compile_s1 h4.length 3 0 (.fn 118 [(h4.length, 3, 0)]) a T.inits.length 0 cs [.nils, .nils, .nils] (setBlk ((h4 ++ [some (Blk.mk true 0 [y, .nils, .nils])]) ++ [some ⟨true, 1, intC .i64 (L.map (initV []))⟩]) h4.length (some ⟨true, 0, [y, .sl (h4.length + 1) L.length 0 L.length, .nils]⟩)))).bind fun p => prog_Compile_k3 (R E) Lim E.glob h p.1 p.2 := by
    have hil : (intC .i64 (L.map (initV []))).length = L.length := by rw [intC_len, List.length_map]
    rw [prog_Compile_eq, if_pos ⟨rfl, hlen⟩, hck, c1_ok, asI_ok, if_neg (by simp), if_pos ⟨rfl, hlen⟩, rl, c1_ok, asC_ok, l3, sp1, rd3 (blk_new _ _), if_pos ⟨rfl, rfl, rfl⟩, putH_ok (blk_new _ _) rfl, setBlk_last]
    rw [rd3 b8, atK_ok (i := 0) (c := y) rfl, ol.at.len, if_pos ⟨by omega, Int.le_refl _, by rw [Int.toNat_natCast]; omega, by omega⟩, hrep, rd3 (blk_old b8 _), if_pos (show 1 < ([y, Cell.nils, Cell.nils] : List Cell).length by simp), putH_ok (blk_old b8 _) rfl, a1, ha.len, n8, hil, Int.toNat_natCast]
    rfl
  have bN : blk? (setBlk ((h4 ++ [some (Blk.mk true 0 [y, .nils, .nils])]) ++ [some ⟨true, 1, intC .i64 (L.map (initV []))⟩]) h4.length (some ⟨true, 0, [y, .sl (h4.length + 1) L.length 0 L.length, .nils]⟩)) h4.length = some ⟨true, 0, [y, .sl (h4.length + 1) L.length 0 L.length, .nils]⟩ := blk_set_self (by simp) _
  have oN : Own (h4.length + 1) (setBlk ((h4 ++ [some (Blk.mk true 0 [y, .nils, .nils])]) ++ [some ⟨true, 1, intC .i64 (L.map (initV []))⟩]) h4.length (some ⟨true, 0, [y, .sl (h4.length + 1) L.length 0 L.length, .nils]⟩)) (.sl (h4.length + 1) L.length 0 L.length) 1 (intC .i64 (L.map (initV []))) L.length := by
    have hil : (intC .i64 (L.map (initV []))).length = L.length := by rw [intC_len, List.length_map]
    refine ⟨by rw [hil]; omega, .inr ⟨h4.length + 1, by rw [hil], Nat.le_refl _, ?_⟩⟩
    rw [blk_set_ne (by omega), ← n8]; exact blk_new _ _
  have kN : Kp h4.length h4 (setBlk ((h4 ++ [some (Blk.mk true 0 [y, .nils, .nils])]) ++ [some ⟨true, 1, intC .i64 (L.map (initV []))⟩]) h4.length (some ⟨true, 0, [y, .sl (h4.length + 1) L.length 0 L.length, .nils]⟩)) := (k8.trans (Kp.app _ (by rw [n8]; omega))).trans (Kp.set (Nat.le_refl _) _)
  have nN : (setBlk ((h4 ++ [some (Blk.mk true 0 [y, .nils, .nils])]) ++ [some ⟨true, 1, intC .i64 (L.map (initV []))⟩]) h4.length (some ⟨true, 0, [y, .sl (h4.length + 1) L.length 0 L.length, .nils]⟩)).length = h4.length + 2 := by rw [setBlk_len]; simp
  generalize setBlk ((h4 ++ [some (Blk.mk true 0 [y, .nils, .nils])]) ++ [some ⟨true, 1, intC .i64 (L.map (initV []))⟩]) h4.length (some ⟨true, 0, [y, .sl (h4.length + 1) L.length 0 L.length, .nils]⟩) = H at *
  generalize hini : Cell.sl (h4.length + 1) L.length 0 L.length = ini at *
  -- the values at the beginning
  have hnl := hs.inits
  obtain ⟨st, ⟨H1, rfl, b1, o1, k1⟩, hL1⟩ := Lim_inv (F := prog_Compile_F1 (R E) Lim E.glob) (fun i st => ∃ H', st = prog_Compile_s1 h4.length 3 0 (.fn 118 [(h4.length, 3, 0)]) a T.inits.length (i : Int) cs [.nils, .nils, .nils] H' ∧ blk? H' h4.length = some ⟨true, 0, [y, ini, .nils]⟩ ∧ Own (h4.length + 1) H' ini 1 (intC .i64 (L.map (initV (T.inits.take i)))) L.length ∧ Kp h4.length H H') 0 T.inits.length (by omega)
    (fun i st _ hi => by
      rintro ⟨H', rfl, bb, oo, kk⟩
      have hq : T.inits[i]? = some T.inits[i] := List.getElem?_eq_getElem hi
      generalize T.inits[i] = q at hq
      have hqm := List.mem_of_getElem? hq
      have hql := locB_iff.1 (okT_locs hok q hqm)
      have k4 : Kp h4.length h4 H' := kN.trans kk
      obtain ⟨off, cc, g1, g2, g3⟩ := ((ha.keep hal kl).keep (Low_mono hK hal) k4).pairG hq
      have hpl := place_R hE.c118 bb (ol.at.keep ol.low k4) (by omega) hql
      obtain ⟨j, hj1, hj2⟩ := plc_get L 0 (by rw [← hL]; exact mem_locs_init hok hqm)
      rw [Nat.zero_add] at hj1
      rw [hj1] at hpl
      obtain ⟨k, s1, s2, s3, s4, s5⟩ := oo.setG1 (getI_lt hj2) (.int .i64 q.2)
      rw [intC_set, init_set hpw _ _ hj2, ← takeI_succ hq] at s5
      refine ⟨_, ?_, _, rfl, ?_, s5, kk.trans (Kp.set (by omega) _)⟩
      · have hfn : ∀ {α : Type} (F : AV → AHeap → Option α), (fnK (.fn 118 [(h4.length, 3, 0)]) fun g cs => c1 (qh H' (R E g ([.c (.int .i64 q.1)] ++ cs) H')) F) = F (.c (.int .i64 (j : Int))) H' := fun F => by
          show c1 (qh H' (R E 118 ([.c (.int .i64 q.1)] ++ [.c (.ptr h4.length 3 0)]) H')) F = _
          rw [hpl, qh_ok, c1_ok]
        rw [prog_Compile_r1, if_pos (by simp; omega), g1, if_pos g2, g3, if_pos ⟨rfl, rfl, rfl⟩, rd3 bb, atK_ok (i := 0 + 1) (c := ini) rfl, show ∀ {α : Type} (f : Cell → Option α), atK (pairCs q) 0 f = f (.int .i64 q.1) from fun _ => rfl, asI_ok, hfn, asI_ok, show ∀ {α : Type} (f : Cell → Option α), atK (pairCs q) 1 f = f (.int .i64 q.2) from fun _ => rfl, asI_ok, s4, g_succ (by omega), intC_set, init_set hpw _ _ hj2, ← takeI_succ hq]
      · rw [intC_set, init_set hpw _ _ hj2, ← takeI_succ hq, blk_set_ne (by omega)] at *
        exact bb) (st := prog_Compile_s1 h4.length 3 0 (.fn 118 [(h4.length, 3, 0)]) a T.inits.length ((0 : Nat) : Int) cs [.nils, .nils, .nils] H) ⟨H, rfl, bN, by rw [List.take_zero]; exact oN, Kp.refl _ _⟩
  have e1 : prog_Compile_F1 (R E) Lim E.glob (prog_Compile_s1 h4.length 3 0 (.fn 118 [(h4.length, 3, 0)]) a T.inits.length (T.inits.length : Int) cs [.nils, .nils, .nils] H1) = some (.exit 0, prog_Compile_x1_1 h4.length 3 0 (.fn 118 [(h4.length, 3, 0)]) cs [.nils, .nils, .nils] H1) := by
    rw [prog_Compile_r1, if_neg (by simp)]
  have hr1 := hL1 _ (Lim_exit e1)
  rw [show ((0 : Nat) : Int) = 0 from rfl] at hr1
  rw [List.take_of_length_le (Nat.le_refl _)] at o1
  have k41 : Kp h4.length h4 H1 := kN.trans k1
  have hKlt : h4.length < H1.length := blk_lt' b1
  have nH1 : h4.length + 2 ≤ H1.length := by have := k1.1; omega
  have y1 := ol.at.keep ol.low k41
  have low1 := ol.low
  have kh1 : Kp h.length h H1 := kl.trans (k41.mono hK)
  -- one thread's instructions
  have inner : ∀ (t : Nat) (code : List Ins) (x' th : Cell) (H' H'' : AHeap), code ∈ T.thr → KpX h4.length H1.length H1 H' → blk? H' h4.length = some ⟨true, 0, [y, ini, th]⟩ → Own H'.length H'' x' 9 (codeC code) code.length → Kp H'.length H' H'' →
      ∃ G, Lim (prog_Compile_F2 (R E) Lim E.glob) (prog_Compile_s2 h4.length 3 0 (.fn 118 [(h4.length, 3, 0)]) x' b T.thr.length (t : Int) x' code.length ((0 : Nat) : Int) [.nils, .nils, .nils] H'') = some (.exit 4, prog_Compile_x2_5 h4.length 3 0 (.fn 118 [(h4.length, 3, 0)]) x' b T.thr.length (t : Int) [.nils, .nils, .nils] G) ∧
        Own H'.length G x' 9 (codeC (code.map (compI L))) code.length ∧ Kp H'.length H' G := by
    intro t code x' th H' H'' hm kx bb ox kc
    have hcl := hs.code code hm
    have hKH : h4.length < H'.length := blk_lt' bb
    obtain ⟨st, ⟨G, rfl, og, kg⟩, hLm⟩ := Lim_inv (F := prog_Compile_F2 (R E) Lim E.glob) (fun i st => ∃ G, st = prog_Compile_s2 h4.length 3 0 (.fn 118 [(h4.length, 3, 0)]) x' b T.thr.length (t : Int) x' code.length (i : Int) [.nils, .nils, .nils] G ∧ Own H'.length G x' 9 (codeC (mixL (compI L) code i)) code.length ∧ Kp H'.length H' G) 0 code.length (by omega)
      (fun i st _ hi => by
        rintro ⟨G, rfl, og, kg⟩
        have hq : code[i]? = some code[i] := List.getElem?_eq_getElem hi
        generalize code[i] = q at hq
        have hqf := okT_ins hok hm (List.mem_of_getElem? hq)
        have og' := og.at
        rw [← mixL_len (compI L) code i] at og'
        obtain ⟨off, cc, g1, g2, g3⟩ := og'.insG (mixL_get (compI L) hq)
        rcases fldB_loc hqf with ⟨hkd, hloc⟩ | ⟨hkd, hloc⟩
        · have bG : blk? G h4.length = some ⟨true, 0, [y, ini, th]⟩ := by rw [kg.blk hKH]; exact bb
          have hyG := (y1.keep low1 (kx.kp (Nat.le_of_lt hKlt) (Nat.le_refl _))).keep low1 (kg.mono (Nat.le_of_lt hKH))
          have hpl := place_R hE.c118 bG hyG (by omega) hloc
          have hcq : compI L q = { q with loc := plc L q.loc 0 } := by unfold compI; rw [if_pos (by omega)]
          obtain ⟨k, s1, s2, s3, s4, s5⟩ := og.setG (j := 2) hi (by omega) (.int .i64 (plc L q.loc 0))
          rw [codeC_set _ _ _ _ (mixL_get (compI L) hq), ← hcq, mixL_set _ hq] at s5
          refine ⟨_, ?_, _, rfl, s5, kg.trans (Kp.set s1 _)⟩
          have hfn : ∀ {α : Type} (F : AV → AHeap → Option α), (fnK (.fn 118 [(h4.length, 3, 0)]) fun g cs => c1 (R E g ([.c (.int .i64 q.loc)] ++ cs) G) F) = F (.c (.int .i64 (plc L q.loc 0))) G := fun F => by
            show c1 (R E 118 ([.c (.int .i64 q.loc)] ++ [.c (.ptr h4.length 3 0)]) G) F = _
            rw [hpl, c1_ok]
          have hkb : ((q.kind == 1 || q.kind == 2) || q.kind == 4) = true := by
            rcases hkd with h | h | h <;> simp [h]
          rw [prog_Compile_r2, if_pos (by simp; omega), g1, if_pos g2, g3, if_pos ⟨rfl, rfl, rfl⟩, ins_kind, asI_ok, ins_kind, asI_ok, scK_or, ins_kind, asI_ok, scK_or, hkb, if_pos rfl, ins_loc, asI_ok, hfn, asI_ok, s4, g_succ (by omega), codeC_set _ _ _ _ (mixL_get (compI L) hq), ← hcq, mixL_set _ hq]
        · have hcq : compI L q = q := by unfold compI; rw [if_neg (by omega)]
          have hkb : ((q.kind == 1 || q.kind == 2) || q.kind == 4) = false := by
            rw [Bool.or_eq_false_iff, Bool.or_eq_false_iff]
            simp only [beq_eq_false_iff_ne]
            omega
          refine ⟨_, ?_, G, rfl, by rw [← mixL_same _ hq hcq]; exact og, kg⟩
          rw [prog_Compile_r2, if_pos (by simp; omega), g1, if_pos g2, g3, if_pos ⟨rfl, rfl, rfl⟩, ins_kind, asI_ok, ins_kind, asI_ok, scK_or, ins_kind, asI_ok, scK_or, hkb, if_neg (by simp), g_succ (by omega)]) (st := prog_Compile_s2 h4.length 3 0 (.fn 118 [(h4.length, 3, 0)]) x' b T.thr.length (t : Int) x' code.length ((0 : Nat) : Int) [.nils, .nils, .nils] H'') ⟨H'', rfl, by rw [mixL_zero]; exact ox, kc⟩
    rw [mixL_all] at og
    refine ⟨G, hLm _ (Lim_exit ?_), og, kg⟩
    rw [prog_Compile_r2, if_neg (by simp)]
  have hthl := hs.thr
  obtain ⟨st3, ⟨th, H3, rfl, b3, r3, k3⟩, hL3⟩ := Lim_inv (F := prog_Compile_F3 (R E) Lim E.glob) (fun t st => ∃ th H', st = prog_Compile_s3 h4.length 3 0 (.fn 118 [(h4.length, 3, 0)]) b T.thr.length (t : Int) [.nils, .nils, .nils] H' ∧ blk? H' h4.length = some ⟨true, 0, [y, ini, th]⟩ ∧ RowsOwn 9 codeC H1.length H' th ((T.thr.map fun c => c.map (compI L)).take t) ∧ KpX h4.length H1.length H1 H') 0 T.thr.length (by omega)
    (fun t st _ ht => by
      rintro ⟨th, H', rfl, bb, rr, kx⟩
      have hq : T.thr[t]? = some T.thr[t] := List.getElem?_eq_getElem ht
      generalize T.thr[t] = code at hq
      have hm := List.mem_of_getElem? hq
      have hcl := hs.code code hm
      obtain ⟨x, x1, x2, x3⟩ := t3 t code hq
      have kh' : Kp h.length h H' := kh1.trans (kx.kp (by have := kh1.1; exact this) hK)
      obtain ⟨x', H'', c1', c2', c3'⟩ := Clone_R hE.c119 (x2.keep x3 kh') (Low_mono kh'.1 x3) hcl
      obtain ⟨G, f1, f2, f3⟩ := inner t code x' th H' H'' hm kx bb c2' c3'
      have hKH : h4.length < H'.length := blk_lt' bb
      have bG : blk? G h4.length = some ⟨true, 0, [y, ini, th]⟩ := by rw [f3.blk hKH]; exact bb
      have rG := rr.keep f3
      have hcl2 : (code.map (compI L)).length = code.length := List.length_map _
      have f2' := f2
      rw [← hcl2] at f2'
      obtain ⟨th2, G2, ap, r2, k2, fr⟩ := rG.push (f2'.monoN kx.1) (fun k h1 h2 => by have := (f2'.blkLt h1).2; have := (rr.blkLt h2).1; omega) (Nat.le_trans kx.1 f3.1) (by rw [List.length_take]; omega)
      have bG2 : blk? G2 h4.length = some ⟨true, 0, [y, ini, th]⟩ := by rw [k2.blk hKlt]; exact bG
      have hsn : (T.thr.map fun c => c.map (compI L))[t]? = some (code.map (compI L)) := by rw [List.getElem?_map, hq]; rfl
      refine ⟨_, ?_, th2, setBlk G2 h4.length (some ⟨true, 0, [y, ini, th2]⟩), rfl, blk_set_self (blk_lt' bG2) _, ?_, ?_⟩
      · rw [prog_Compile_r3, if_pos (by simp; omega), (t1.keep t2 kh').get1 ht x1, c1', c1_ok, asC_ok, c2'.at.len]
        rw [show (0 : Int) = ((0 : Nat) : Int) from rfl, f1, bind_ok, prog_Compile_e2_5, rd3 bG, atK_ok (i := 0 + 2) (c := th) rfl, if_pos (show (splice [Cell.nils] 0 ([x'] : List Cell)).length = 1 * 1 from rfl), show splice [Cell.nils] 0 ([x'] : List Cell) = [x'] from rfl, ap, rd3 bG2, if_pos (show 0 + 2 < ([y, ini, th] : List Cell).length by simp), putH_ok bG2 rfl, g_succ (by omega)]
        rfl
      · rw [takeI_succ hsn]
        exact r2.keepX hKlt (KpX.set _ _ _ _)
      · exact kx.trans (((f3.mono kx.1).x.trans k2.x).trans (KpX.set _ _ _ _))) (st := prog_Compile_s3 h4.length 3 0 (.fn 118 [(h4.length, 3, 0)]) b T.thr.length ((0 : Nat) : Int) [.nils, .nils, .nils] H1) ⟨.nils, H1, rfl, b1, by rw [List.take_zero]; exact RowsOwn.nil _, KpX.refl _ _ _⟩
  have e3 : prog_Compile_F3 (R E) Lim E.glob (prog_Compile_s3 h4.length 3 0 (.fn 118 [(h4.length, 3, 0)]) b T.thr.length (T.thr.length : Int) [.nils, .nils, .nils] H3) = some (.exit 2, prog_Compile_x3_3 h4.length 3 0 [.nils, .nils, .nils] H3) := by
    rw [prog_Compile_r3, if_neg (by simp)]
  have hr3 := hL3 _ (Lim_exit e3)
  rw [show ((0 : Nat) : Int) = 0 from rfl] at hr3
  rw [List.take_of_length_le (by rw [List.length_map]; exact Nat.le_refl _)] at r3
  have hkf : Kp h4.length H1 H3 := k3.kp (Nat.le_of_lt hKlt) (Nat.le_refl _)
  obtain ⟨us, u1, u2, u3⟩ := r3.of
  have hthr : (compT T).thr = T.thr.map fun c => c.map (compI L) := by rw [← hL]; rfl
  refine ⟨[y, ini, th], H3, R_intro hE.fn ?_, ⟨y, ini, th, us, rfl, ⟨?_, Low_mono (Nat.le_trans k41.1 hkf.1) low1⟩, ⟨?_, ?_⟩, ⟨by rw [hthr]; exact u1, u2⟩, by rw [hthr]; exact u3⟩, kh1.trans (hkf.mono hK)⟩
  · rw [hrun, hr1, bind_ok, prog_Compile_e1_1, a2, t1.len, hr3, bind_ok, prog_Compile_e3_3, rd3 b3, if_pos ⟨rfl, rfl⟩, if_pos ⟨rfl, rfl, rfl⟩, if_pos ⟨rfl, rfl⟩]
  · rw [show (compT T).locs = L from hL]; exact y1.keep low1 hkf
  · have ho := (o1.keepX (Nat.lt_succ_self _) k3).at
    have e : (compT T).init = L.map (initV T.inits) := by show (locsT T).map _ = _; rw [hL]
    rw [e, List.length_map]; exact ho
  · exact (o1.keepX (Nat.lt_succ_self _) k3).low

end
end Jq

namespace Jq
open Go

/- jacquard/jacquardlaw6.Of: 76 -/
set_option maxRecDepth 100000 in
theorem jacquardlaw6_Of_eq (C : CallF) (L : LoopF) (G : Glo) (x0 : Cell) (a1 : Int) (h0 : AHeap) :
    jacquardlaw6_Of.body C L G [(.c x0), (.c (.int .i64 a1))] h0 =
    c1 (C 97 [(.c x0), (.c (.int .i64 a1))] h0) fun y_2 h_1 => asA y_2 fun l_3 => c1 (C 101 [(.agg l_3)] h_1) fun y_5 h_4 => asA y_5 fun l_6 => if 0 = 0 ∧ [Cell.nils, Cell.nils, Cell.nils].length = 3 ∧ l_6.length = 3 then if 0 = 0 ∧ l_6.length = 3 then some ([(.agg l_6)], h_4) else none else none := by kernel_rfl

/- jacquard/jacquardlaw6.awake: 95 -/
set_option maxRecDepth 100000 in
theorem jacquardlaw6_awake_eq (C : CallF) (L : LoopF) (G : Glo)  (h0 : AHeap) :
    jacquardlaw6_awake.body C L G [] h0 =
    if (splice (splice [Cell.int .i64 0, Cell.int .i64 0] 0 ([(.int .i64 (-1))] : List Cell)) 1 ([(.int .i64 1)] : List Cell)).length = 2 ∧ 3 + 2 ≤ (splice (List.replicate 9 (Cell.int .i64 0)) 0 ([(.int .i64 5)] : List Cell)).length then if (splice [Cell.int .i64 0, Cell.int .i64 0] 0 ([(.int .i64 (-1))] : List Cell)).length = 2 ∧ 6 + 2 ≤ (splice (splice (List.replicate 9 (Cell.int .i64 0)) 0 ([(.int .i64 5)] : List Cell)) 3 (splice (splice [Cell.int .i64 0, Cell.int .i64 0] 0 ([(.int .i64 (-1))] : List Cell)) 1 ([(.int .i64 1)] : List Cell))).length then if [Cell.int .i64 0, Cell.int .i64 0].length = 2 ∧ 3 + 2 ≤ (splice (splice (List.replicate 9 (Cell.int .i64 0)) 0 ([(.int .i64 1)] : List Cell)) 2 ([(.int .i64 120)] : List Cell)).length then if (splice (splice (splice (List.replicate 9 (Cell.int .i64 0)) 0 ([(.int .i64 5)] : List Cell)) 3 (splice (splice [Cell.int .i64 0, Cell.int .i64 0] 0 ([(.int .i64 (-1))] : List Cell)) 1 ([(.int .i64 1)] : List Cell))) 6 (splice [Cell.int .i64 0, Cell.int .i64 0] 0 ([(.int .i64 (-1))] : List Cell))).length = 9 ∧ 0 + 9 ≤ (List.replicate 18 (Cell.int .i64 0)).length then if (splice (splice (splice (List.replicate 9 (Cell.int .i64 0)) 0 ([(.int .i64 1)] : List Cell)) 2 ([(.int .i64 120)] : List Cell)) 3 [Cell.int .i64 0, Cell.int .i64 0]).length = 9 ∧ 9 + 9 ≤ (splice (List.replicate 18 (Cell.int .i64 0)) 0 (splice (splice (splice (List.replicate 9 (Cell.int .i64 0)) 0 ([(.int .i64 5)] : List Cell)) 3 (splice (splice [Cell.int .i64 0, Cell.int .i64 0] 0 ([(.int .i64 (-1))] : List Cell)) 1 ([(.int .i64 1)] : List Cell))) 6 (splice [Cell.int .i64 0, Cell.int .i64 0] 0 ([(.int .i64 (-1))] : List Cell)))).length then if (splice (splice (List.replicate 18 (Cell.int .i64 0)) 0 (splice (splice (splice (List.replicate 9 (Cell.int .i64 0)) 0 ([(.int .i64 5)] : List Cell)) 3 (splice (splice [Cell.int .i64 0, Cell.int .i64 0] 0 ([(.int .i64 (-1))] : List Cell)) 1 ([(.int .i64 1)] : List Cell))) 6 (splice [Cell.int .i64 0, Cell.int .i64 0] 0 ([(.int .i64 (-1))] : List Cell)))) 9 (splice (splice (splice (List.replicate 9 (Cell.int .i64 0)) 0 ([(.int .i64 1)] : List Cell)) 2 ([(.int .i64 120)] : List Cell)) 3 [Cell.int .i64 0, Cell.int .i64 0])).length = 2 * 9 then if (splice [Cell.nils] 0 ([(.sl h0.length ((splice (splice (List.replicate 18 (Cell.int .i64 0)) 0 (splice (splice (splice (List.replicate 9 (Cell.int .i64 0)) 0 ([(.int .i64 5)] : List Cell)) 3 (splice (splice [Cell.int .i64 0, Cell.int .i64 0] 0 ([(.int .i64 (-1))] : List Cell)) 1 ([(.int .i64 1)] : List Cell))) 6 (splice [Cell.int .i64 0, Cell.int .i64 0] 0 ([(.int .i64 (-1))] : List Cell)))) 9 (splice (splice (splice (List.replicate 9 (Cell.int .i64 0)) 0 ([(.int .i64 1)] : List Cell)) 2 ([(.int .i64 120)] : List Cell)) 3 [Cell.int .i64 0, Cell.int .i64 0])).length) 0 2)] : List Cell)).length = 1 * 1 then if 0 = 0 ∧ [Cell.str (ByteArray.mk #[]), Cell.nils, Cell.nils, Cell.int .i64 0, Cell.nils].length = 5 ∧ (splice (splice [Cell.str (ByteArray.mk #[]), Cell.nils, Cell.nils, Cell.int .i64 0, Cell.nils] 0 ([(.str (ByteArray.mk #[97]))] : List Cell)) 2 ([(.sl ((h0 ++ [some (Blk.mk true 9 (splice (splice (List.replicate 18 (Cell.int .i64 0)) 0 (splice (splice (splice (List.replicate 9 (Cell.int .i64 0)) 0 ([(.int .i64 5)] : List Cell)) 3 (splice (splice [Cell.int .i64 0, Cell.int .i64 0] 0 ([(.int .i64 (-1))] : List Cell)) 1 ([(.int .i64 1)] : List Cell))) 6 (splice [Cell.int .i64 0, Cell.int .i64 0] 0 ([(.int .i64 (-1))] : List Cell)))) 9 (splice (splice (splice (List.replicate 9 (Cell.int .i64 0)) 0 ([(.int .i64 1)] : List Cell)) 2 ([(.int .i64 120)] : List Cell)) 3 [Cell.int .i64 0, Cell.int .i64 0])))]).length) ((splice [Cell.nils] 0 ([(.sl h0.length ((splice (splice (List.replicate 18 (Cell.int .i64 0)) 0 (splice (splice (splice (List.replicate 9 (Cell.int .i64 0)) 0 ([(.int .i64 5)] : List Cell)) 3 (splice (splice [Cell.int .i64 0, Cell.int .i64 0] 0 ([(.int .i64 (-1))] : List Cell)) 1 ([(.int .i64 1)] : List Cell))) 6 (splice [Cell.int .i64 0, Cell.int .i64 0] 0 ([(.int .i64 (-1))] : List Cell)))) 9 (splice (splice (splice (List.replicate 9 (Cell.int .i64 0)) 0 ([(.int .i64 1)] : List Cell)) 2 ([(.int .i64 120)] : List Cell)) 3 [Cell.int .i64 0, Cell.int .i64 0])).length) 0 2)] : List Cell)).length) 0 1)] : List Cell)).length = 5 then if 0 = 0 ∧ (splice (splice [Cell.str (ByteArray.mk #[]), Cell.nils, Cell.nils, Cell.int .i64 0, Cell.nils] 0 ([(.str (ByteArray.mk #[97]))] : List Cell)) 2 ([(.sl ((h0 ++ [some (Blk.mk true 9 (splice (splice (List.replicate 18 (Cell.int .i64 0)) 0 (splice (splice (splice (List.replicate 9 (Cell.int .i64 0)) 0 ([(.int .i64 5)] : List Cell)) 3 (splice (splice [Cell.int .i64 0, Cell.int .i64 0] 0 ([(.int .i64 (-1))] : List Cell)) 1 ([(.int .i64 1)] : List Cell))) 6 (splice [Cell.int .i64 0, Cell.int .i64 0] 0 ([(.int .i64 (-1))] : List Cell)))) 9 (splice (splice (splice (List.replicate 9 (Cell.int .i64 0)) 0 ([(.int .i64 1)] : List Cell)) 2 ([(.int .i64 120)] : List Cell)) 3 [Cell.int .i64 0, Cell.int .i64 0])))]).length) ((splice [Cell.nils] 0 ([(.sl h0.length ((splice (splice (List.replicate 18 (Cell.int .i64 0)) 0 (splice (splice (splice (List.replicate 9 (Cell.int .i64 0)) 0 ([(.int .i64 5)] : List Cell)) 3 (splice (splice [Cell.int .i64 0, Cell.int .i64 0] 0 ([(.int .i64 (-1))] : List Cell)) 1 ([(.int .i64 1)] : List Cell))) 6 (splice [Cell.int .i64 0, Cell.int .i64 0] 0 ([(.int .i64 (-1))] : List Cell)))) 9 (splice (splice (splice (List.replicate 9 (Cell.int .i64 0)) 0 ([(.int .i64 1)] : List Cell)) 2 ([(.int .i64 120)] : List Cell)) 3 [Cell.int .i64 0, Cell.int .i64 0])).length) 0 2)] : List Cell)).length) 0 1)] : List Cell)).length = 5 then c2 (C 98 [(.agg (splice (splice [Cell.str (ByteArray.mk #[]), Cell.nils, Cell.nils, Cell.int .i64 0, Cell.nils] 0 ([(.str (ByteArray.mk #[97]))] : List Cell)) 2 ([(.sl ((h0 ++ [some (Blk.mk true 9 (splice (splice (List.replicate 18 (Cell.int .i64 0)) 0 (splice (splice (splice (List.replicate 9 (Cell.int .i64 0)) 0 ([(.int .i64 5)] : List Cell)) 3 (splice (splice [Cell.int .i64 0, Cell.int .i64 0] 0 ([(.int .i64 (-1))] : List Cell)) 1 ([(.int .i64 1)] : List Cell))) 6 (splice [Cell.int .i64 0, Cell.int .i64 0] 0 ([(.int .i64 (-1))] : List Cell)))) 9 (splice (splice (splice (List.replicate 9 (Cell.int .i64 0)) 0 ([(.int .i64 1)] : List Cell)) 2 ([(.int .i64 120)] : List Cell)) 3 [Cell.int .i64 0, Cell.int .i64 0])))]).length) ((splice [Cell.nils] 0 ([(.sl h0.length ((splice (splice (List.replicate 18 (Cell.int .i64 0)) 0 (splice (splice (splice (List.replicate 9 (Cell.int .i64 0)) 0 ([(.int .i64 5)] : List Cell)) 3 (splice (splice [Cell.int .i64 0, Cell.int .i64 0] 0 ([(.int .i64 (-1))] : List Cell)) 1 ([(.int .i64 1)] : List Cell))) 6 (splice [Cell.int .i64 0, Cell.int .i64 0] 0 ([(.int .i64 (-1))] : List Cell)))) 9 (splice (splice (splice (List.replicate 9 (Cell.int .i64 0)) 0 ([(.int .i64 1)] : List Cell)) 2 ([(.int .i64 120)] : List Cell)) 3 [Cell.int .i64 0, Cell.int .i64 0])).length) 0 2)] : List Cell)).length) 0 1)] : List Cell)))] ((h0 ++ [some (Blk.mk true 9 (splice (splice (List.replicate 18 (Cell.int .i64 0)) 0 (splice (splice (splice (List.replicate 9 (Cell.int .i64 0)) 0 ([(.int .i64 5)] : List Cell)) 3 (splice (splice [Cell.int .i64 0, Cell.int .i64 0] 0 ([(.int .i64 (-1))] : List Cell)) 1 ([(.int .i64 1)] : List Cell))) 6 (splice [Cell.int .i64 0, Cell.int .i64 0] 0 ([(.int .i64 (-1))] : List Cell)))) 9 (splice (splice (splice (List.replicate 9 (Cell.int .i64 0)) 0 ([(.int .i64 1)] : List Cell)) 2 ([(.int .i64 120)] : List Cell)) 3 [Cell.int .i64 0, Cell.int .i64 0])))]) ++ [some (Blk.mk true 1 (splice [Cell.nils] 0 ([(.sl h0.length ((splice (splice (List.replicate 18 (Cell.int .i64 0)) 0 (splice (splice (splice (List.replicate 9 (Cell.int .i64 0)) 0 ([(.int .i64 5)] : List Cell)) 3 (splice (splice [Cell.int .i64 0, Cell.int .i64 0] 0 ([(.int .i64 (-1))] : List Cell)) 1 ([(.int .i64 1)] : List Cell))) 6 (splice [Cell.int .i64 0, Cell.int .i64 0] 0 ([(.int .i64 (-1))] : List Cell)))) 9 (splice (splice (splice (List.replicate 9 (Cell.int .i64 0)) 0 ([(.int .i64 1)] : List Cell)) 2 ([(.int .i64 120)] : List Cell)) 3 [Cell.int .i64 0, Cell.int .i64 0])).length) 0 2)] : List Cell)))])) fun y_2 y_3 h_1 => asA y_2 fun l_4 => asI .i64 y_3 fun n_5 => if 0 = 0 ∧ [Cell.nils, Cell.nils, Cell.nils].length = 3 ∧ l_4.length = 3 then if 0 = 0 ∧ l_4.length = 3 then c1 (C 94 [(.agg l_4), (.c (.int .i64 0))] h_1) fun y_7 h_6 => asA y_7 fun l_8 => if 0 = 0 ∧ [Cell.int .i64 0, Cell.int .i64 0, Cell.int .i64 0, Cell.int .i64 0, Cell.int .i64 0].length = 5 ∧ l_8.length = 5 then if 0 = 0 ∧ l_4.length = 3 then if 0 = 0 ∧ l_8.length = 5 then c2 (C 105 [(.agg l_4), (.c (.int .i64 0)), (.agg l_8)] h_6) fun y_10 y_11 h_9 => asA y_10 fun l_12 => asB y_11 fun b_13 => if 0 = 0 ∧ (List.replicate 9 (Cell.int .i64 0)).length = 9 ∧ l_12.length = 9 then scK (n_5 == 0) true (atK l_8 0 fun q_14 => asI .i64 (.c q_14) fun n_15 => some ((n_15 == 1), h_9)) false h_9 fun b_16 h_17 => scK b_16 true (atK l_8 1 fun q_18 => asI .i64 (.c q_18) fun n_19 => some ((n_19 == 1), h_17)) false h_17 fun b_20 h_21 => scK b_20 true (some (b_13, h_21)) false h_21 fun b_22 h_23 => scK b_22 true (atK l_12 0 fun q_24 => asI .i64 (.c q_24) fun n_25 => some ((n_25 == 1), h_23)) false h_23 fun b_26 h_27 => scK b_26 true (if 0 = 0 ∧ l_4.length = 3 then c1 (C 102 [(.agg l_4)] h_27) fun y_29 h_28 => asI .i64 y_29 fun n_30 => some ((n_30 == 2), h_28) else none) false h_27 fun b_31 h_32 => finish true h0 [(.c (.bool b_31))] h_32 else none else none else none else none else none else none else none else none else none else none else none else none else none else none else none := by kernel_rfl

/- jacquard/jacquardlaw6.ProgEnds: 233 -/
def jacquardlaw6_ProgEnds_k2 (C : CallF) (L : LoopF) (G : Glo) (h0 : AHeap) : Ex → St → Option (List AV × AHeap) :=
  kSeq (fun st => jacquardlaw6_ProgEnds_p1.exec C L G st (jacquardlaw6_ProgEnds.fin G h0)) (jacquardlaw6_ProgEnds.fin G h0)
def jacquardlaw6_ProgEnds_k3 (C : CallF) (L : LoopF) (G : Glo) (h0 : AHeap) : Ex → St → Option (List AV × AHeap) :=
  kBlk 0 (jacquardlaw6_ProgEnds_k2 C L G h0)
def jacquardlaw6_ProgEnds_s2 (x1 : Cell) (a6 : Int) (s0 : List Cell) (h : AHeap) : St := ⟨[.top, .v (.c x1), .top, .top, .top, .loc 0 0, .v (.c (.int .i64 a6)), .top, .top, .top, .top, .top, .top, .top, .top, .top, .top, .top, .top, .top, .top, .top, .top, .top, .top, .top, .top, .top, .top, .top, .top, .top, .top, .top, .top, .top, .top, .top, .top, .top, .top, .top, .top, .top, .top, .top, .top, .top, .top, .top, .top, .top, .top, .top, .top, .top, .top, .top, .top, .top, .top, .top, .top, .top, .top, .top, .top, .top, .top, .top, .top, .top, .top, .top, .top, .top, .top, .top, .top, .top, .top, .top, .top, .top, .top, .top, .top, .top, .top, .top, .top, .top, .top], [some s0, none, none, none], h⟩
def jacquardlaw6_ProgEnds_F2 (C : CallF) (L : LoopF) (G : Glo) : St → Option (Ex × St) :=
  roundF (fun st f => jacquardlaw6_ProgEnds_b2.exec C L G st f) [1, 5, 6] [0] [(0, [4], []), (1, [], [])]
def jacquardlaw6_ProgEnds_k4 (C : CallF) (L : LoopF) (G : Glo) : Ex → St → Option (Ex × St) :=
  kSeq (fun st => jacquardlaw6_ProgEnds_p2.exec C L G st (kLoop [1, 5, 6] [0] [(0, [4], []), (1, [], [])])) (kLoop [1, 5, 6] [0] [(0, [4], []), (1, [], [])])
def jacquardlaw6_ProgEnds_k5 (C : CallF) (L : LoopF) (G : Glo) : Ex → St → Option (Ex × St) :=
  kBlk 1 (jacquardlaw6_ProgEnds_k4 C L G)
def jacquardlaw6_ProgEnds_k6 (C : CallF) (L : LoopF) (G : Glo) : Ex → St → Option (Ex × St) :=
  kSeq (fun st => jacquardlaw6_ProgEnds_p3.exec C L G st (jacquardlaw6_ProgEnds_k5 C L G)) (jacquardlaw6_ProgEnds_k5 C L G)
def jacquardlaw6_ProgEnds_k7 (C : CallF) (L : LoopF) (G : Glo) : Ex → St → Option (Ex × St) :=
  kBlk 2 (jacquardlaw6_ProgEnds_k6 C L G)
def jacquardlaw6_ProgEnds_s1 (x1 : Cell) (a6 : Int) (a8 : Int) (s0 : List Cell) (s1 : List Cell) (h : AHeap) : St := ⟨[.top, .v (.c x1), .top, .top, .top, .loc 0 0, .v (.c (.int .i64 a6)), .loc 1 0, .v (.c (.int .i64 a8)), .top, .top, .top, .top, .top, .top, .top, .top, .top, .top, .top, .top, .top, .top, .top, .top, .top, .top, .top, .top, .top, .top, .top, .top, .top, .top, .top, .top, .top, .top, .top, .top, .top, .top, .top, .top, .top, .top, .top, .top, .top, .top, .top, .top, .top, .top, .top, .top, .top, .top, .top, .top, .top, .top, .top, .top, .top, .top, .top, .top, .top, .top, .top, .top, .top, .top, .top, .top, .top, .top, .top, .top, .top, .top, .top, .top, .top, .top, .top, .top, .top, .top, .top, .top], [some s0, some s1, none, none], h⟩
def jacquardlaw6_ProgEnds_F1 (C : CallF) (L : LoopF) (G : Glo) : St → Option (Ex × St) :=
  roundF (fun st f => jacquardlaw6_ProgEnds_b1.exec C L G st f) [1, 5, 6, 7, 8] [0, 1] [(0, [4], []), (3, [1, 5, 6, 7], [0, 1])]
def jacquardlaw6_ProgEnds_x1_3 (x1 : Cell) (a6 : Int) (s0 : List Cell) (s1 : List Cell) (h : AHeap) : St := ⟨[.top, .v (.c x1), .top, .top, .top, .loc 0 0, .v (.c (.int .i64 a6)), .loc 1 0, .top, .top, .top, .top, .top, .top, .top, .top, .top, .top, .top, .top, .top, .top, .top, .top, .top, .top, .top, .top, .top, .top, .top, .top, .top, .top, .top, .top, .top, .top, .top, .top, .top, .top, .top, .top, .top, .top, .top, .top, .top, .top, .top, .top, .top, .top, .top, .top, .top, .top, .top, .top, .top, .top, .top, .top, .top, .top, .top, .top, .top, .top, .top, .top, .top, .top, .top, .top, .top, .top, .top, .top, .top, .top, .top, .top, .top, .top, .top, .top, .top, .top, .top, .top, .top], [some s0, some s1, none, none], h⟩
def jacquardlaw6_ProgEnds_x1_0 (b4 : Bool) (h : AHeap) : St := ⟨[.top, .top, .top, .top, .v (.c (.bool b4)), .top, .top, .top, .top, .top, .top, .top, .top, .top, .top, .top, .top, .top, .top, .top, .top, .top, .top, .top, .top, .top, .top, .top, .top, .top, .top, .top, .top, .top, .top, .top, .top, .top, .top, .top, .top, .top, .top, .top, .top, .top, .top, .top, .top, .top, .top, .top, .top, .top, .top, .top, .top, .top, .top, .top, .top, .top, .top, .top, .top, .top, .top, .top, .top, .top, .top, .top, .top, .top, .top, .top, .top, .top, .top, .top, .top, .top, .top, .top, .top, .top, .top, .top, .top, .top, .top, .top, .top], [none, none, none, none], h⟩
def jacquardlaw6_ProgEnds_x2_0 (b4 : Bool) (h : AHeap) : St := ⟨[.top, .top, .top, .top, .v (.c (.bool b4)), .top, .top, .top, .top, .top, .top, .top, .top, .top, .top, .top, .top, .top, .top, .top, .top, .top, .top, .top, .top, .top, .top, .top, .top, .top, .top, .top, .top, .top, .top, .top, .top, .top, .top, .top, .top, .top, .top, .top, .top, .top, .top, .top, .top, .top, .top, .top, .top, .top, .top, .top, .top, .top, .top, .top, .top, .top, .top, .top, .top, .top, .top, .top, .top, .top, .top, .top, .top, .top, .top, .top, .top, .top, .top, .top, .top, .top, .top, .top, .top, .top, .top, .top, .top, .top, .top, .top, .top], [none, none, none, none], h⟩
def jacquardlaw6_ProgEnds_x2_1 (h : AHeap) : St := ⟨[.top, .top, .top, .top, .top, .top, .top, .top, .top, .top, .top, .top, .top, .top, .top, .top, .top, .top, .top, .top, .top, .top, .top, .top, .top, .top, .top, .top, .top, .top, .top, .top, .top, .top, .top, .top, .top, .top, .top, .top, .top, .top, .top, .top, .top, .top, .top, .top, .top, .top, .top, .top, .top, .top, .top, .top, .top, .top, .top, .top, .top, .top, .top, .top, .top, .top, .top, .top, .top, .top, .top, .top, .top, .top, .top, .top, .top, .top, .top, .top, .top, .top, .top, .top, .top, .top, .top, .top, .top, .top, .top, .top, .top], [none, none, none, none], h⟩
theorem jacquardlaw6_ProgEnds_r1 (C : CallF) (L : LoopF) (G : Glo) (x1 : Cell) (a6 : Int) (a8 : Int) (s0 : List Cell) (s1 : List Cell) (h : AHeap) :
    jacquardlaw6_ProgEnds_F1 C L G (jacquardlaw6_ProgEnds_s1 x1 a6 a8 s0 s1 h) =
    if 0 = 0 ∧ s0.length = 3 then if 0 = 0 ∧ s1.length = 5 then c2 (C 105 [(.agg s0), (.c (.int .i64 a6)), (.agg s1)] h) fun y_10 y_11 h_9 => asA y_10 fun l_12 => asB y_11 fun b_13 => if 0 = 0 ∧ (List.replicate 9 (Cell.int .i64 0)).length = 9 ∧ l_12.length = 9 then if (!b_13) = true then some ((.exit 2), (jacquardlaw6_ProgEnds_x1_3 x1 a6 s0 s1 h_9)) else atK l_12 0 fun q_14 => asI .i64 (.c q_14) fun n_15 => scK (n_15 == 5) false (atK l_12 0 fun q_16 => asI .i64 (.c q_16) fun n_17 => some ((n_17 == 6), h_9)) true h_9 fun b_18 h_19 => scK b_18 false (atK s0 2 fun q_20 => idxSK 1 q_20 a6 fun k_21 N_22 o_23 => rdH h_19 k_21 N_22 fun l_24 => atK l_24 o_23 fun q_25 => lenK q_25 fun n_26 => some ((decide (a8 ≥ n_26)), h_19)) true h_19 fun b_27 h_28 => if b_27 = true then some (.ret, (jacquardlaw6_ProgEnds_x1_0 false h_28)) else lenK x1 fun n_29 => if (decide (n_29 > 0)) = true then lenK x1 fun n_30 => if n_30 = 0 then none else idxSK 1 x1 (G.rem .i64 a8 n_30) fun k_31 N_32 o_33 => rdH h_28 k_31 N_32 fun l_34 => atK l_34 o_33 fun q_35 => asI .i64 (.c q_35) fun n_36 => if 0 = 0 ∧ s0.length = 3 then if 0 = 0 ∧ s1.length = 5 then c1 (C 106 [(.agg s0), (.c (.int .i64 a6)), (.agg s1), (.c (.int .i64 n_36))] h_28) fun y_38 h_37 => asA y_38 fun l_39 => if 0 = 0 ∧ [Cell.int .i64 0, Cell.int .i64 0, Cell.int .i64 0, Cell.int .i64 0, Cell.int .i64 0].length = 5 ∧ l_39.length = 5 then atK l_39 0 fun q_40 => asI .i64 (.c q_40) fun n_41 => atK s1 0 fun q_42 => asI .i64 (.c q_42) fun n_43 => if (decide (n_41 ≤ n_43)) = true then some (.ret, (jacquardlaw6_ProgEnds_x1_0 false h_37)) else if 0 = 0 ∧ l_39.length = 5 then if 0 = 0 ∧ s1.length = 5 ∧ l_39.length = 5 then some (.normal, (jacquardlaw6_ProgEnds_s1 x1 a6 (G.wrap .i64 (a8 + 1)) s0 l_39 h_37)) else none else none else none else none else none else if 0 = 0 ∧ s0.length = 3 then if 0 = 0 ∧ s1.length = 5 then c1 (C 106 [(.agg s0), (.c (.int .i64 a6)), (.agg s1), (.c (.int .i64 0))] h_28) fun y_45 h_44 => asA y_45 fun l_46 => if 0 = 0 ∧ [Cell.int .i64 0, Cell.int .i64 0, Cell.int .i64 0, Cell.int .i64 0, Cell.int .i64 0].length = 5 ∧ l_46.length = 5 then atK l_46 0 fun q_47 => asI .i64 (.c q_47) fun n_48 => atK s1 0 fun q_49 => asI .i64 (.c q_49) fun n_50 => if (decide (n_48 ≤ n_50)) = true then some (.ret, (jacquardlaw6_ProgEnds_x1_0 false h_44)) else if 0 = 0 ∧ l_46.length = 5 then if 0 = 0 ∧ s1.length = 5 ∧ l_46.length = 5 then some (.normal, (jacquardlaw6_ProgEnds_s1 x1 a6 (G.wrap .i64 (a8 + 1)) s0 l_46 h_44)) else none else none else none else none else none else none else none else none := by kernel_rfl
theorem jacquardlaw6_ProgEnds_e1_0 (C : CallF) (L : LoopF) (G : Glo) (b4 : Bool) (h : AHeap) :
    (jacquardlaw6_ProgEnds_k7 C L G) .ret (jacquardlaw6_ProgEnds_x1_0 b4 h) =
    some (.ret, (jacquardlaw6_ProgEnds_x2_0 b4 h)) := by kernel_rfl
theorem jacquardlaw6_ProgEnds_e1_3 (C : CallF) (L : LoopF) (G : Glo) (x1 : Cell) (a6 : Int) (s0 : List Cell) (s1 : List Cell) (h : AHeap) :
    (jacquardlaw6_ProgEnds_k7 C L G) (.exit 2) (jacquardlaw6_ProgEnds_x1_3 x1 a6 s0 s1 h) =
    atK s1 0 fun q_51 => asI .i64 (.c q_51) fun n_52 => atK s0 2 fun q_53 => idxSK 1 q_53 a6 fun k_54 N_55 o_56 => rdH h k_54 N_55 fun l_57 => atK l_57 o_56 fun q_58 => lenK q_58 fun n_59 => scK (n_52 != n_59) false (if 0 = 0 ∧ s0.length = 3 then if 0 = 0 ∧ s1.length = 5 then c1 (qh h (C 106 [(.agg s0), (.c (.int .i64 a6)), (.agg s1), (.c (.int .i64 5))] h)) fun y_61 h_60 => asA y_61 fun l_62 => if 0 = 0 ∧ s1.length = 5 then if alike l_62 ([Cell.int .i64 0, Cell.int .i64 0, Cell.int .i64 0, Cell.int .i64 0, Cell.int .i64 0]) = true ∧ alike s1 ([Cell.int .i64 0, Cell.int .i64 0, Cell.int .i64 0, Cell.int .i64 0, Cell.int .i64 0]) = true then some ((!(decide (l_62 = s1))), h) else none else none else none else none) true h fun b_63 h_64 => if b_63 = true then some (.ret, (jacquardlaw6_ProgEnds_x2_0 false h_64)) else some (.normal, (jacquardlaw6_ProgEnds_s2 x1 (G.wrap .i64 (a6 + 1)) s0 h_64)) := by kernel_rfl
theorem jacquardlaw6_ProgEnds_r2 (C : CallF) (L : LoopF) (G : Glo) (x1 : Cell) (a6 : Int) (s0 : List Cell) (h : AHeap) :
    jacquardlaw6_ProgEnds_F2 C L G (jacquardlaw6_ProgEnds_s2 x1 a6 s0 h) =
    atK s0 2 fun q_4 => lenK q_4 fun n_5 => if (decide (a6 < n_5)) = true then if 0 = 0 ∧ s0.length = 3 then c1 (C 94 [(.agg s0), (.c (.int .i64 a6))] h) fun y_7 h_6 => asA y_7 fun l_8 => if 0 = 0 ∧ [Cell.int .i64 0, Cell.int .i64 0, Cell.int .i64 0, Cell.int .i64 0, Cell.int .i64 0].length = 5 ∧ l_8.length = 5 then (L (jacquardlaw6_ProgEnds_F1 C L G) (jacquardlaw6_ProgEnds_s1 x1 a6 0 s0 l_8 h_6)).bind fun p_65 => (jacquardlaw6_ProgEnds_k7 C L G) p_65.1 p_65.2 else none else none else some ((.exit 0), (jacquardlaw6_ProgEnds_x2_1 h)) := by kernel_rfl
theorem jacquardlaw6_ProgEnds_e2_0 (C : CallF) (L : LoopF) (G : Glo) (h0 : AHeap) (b4 : Bool) (h : AHeap) :
    (jacquardlaw6_ProgEnds_k3 C L G h0) .ret (jacquardlaw6_ProgEnds_x2_0 b4 h) =
    some ([(.c (.bool b4))], h) := by kernel_rfl
theorem jacquardlaw6_ProgEnds_e2_1 (C : CallF) (L : LoopF) (G : Glo) (h0 : AHeap) (h : AHeap) :
    (jacquardlaw6_ProgEnds_k3 C L G h0) (.exit 0) (jacquardlaw6_ProgEnds_x2_1 h) =
    c1 (C 95 [] h) fun y_67 h_66 => asB y_67 fun b_68 => some ([(.c (.bool b_68))], h_66) := by kernel_rfl
set_option maxRecDepth 100000 in
theorem jacquardlaw6_ProgEnds_eq (C : CallF) (L : LoopF) (G : Glo) (x0 : Cell) (x1 : Cell) (h0 : AHeap) :
    jacquardlaw6_ProgEnds.body C L G [(.c x0), (.c x1)] h0 =
    c1 (C 76 [(.c x0), (.c (.int .i64 12))] h0) fun y_2 h_1 => asA y_2 fun l_3 => if 0 = 0 ∧ [Cell.nils, Cell.nils, Cell.nils].length = 3 ∧ l_3.length = 3 then (L (jacquardlaw6_ProgEnds_F2 C L G) (jacquardlaw6_ProgEnds_s2 x1 0 l_3 h_1)).bind fun p_69 => (jacquardlaw6_ProgEnds_k3 C L G h0) p_69.1 p_69.2 else none := by kernel_rfl


end Jq

/- Tests made of numbers, and their programs. -/
namespace Jq
open Go

section
variable {E : Env}

def tName : ByteArray := ByteArray.mk #[116]

theorem small_end (hE : jacquardlaw3_Small_1_In E) {h0 h hb : AHeap} {x : Cell} {l : List Int} (hx : SlAt h0 x 1 (intC .i64 l) l.length) (hlow : Low h0.length x) (hl : l.length < 9223372036854775808) {m : Nat} (hv : VarsAt h0 x h m) (hm : m < 1000)
    {most : Nat} {rows : List (List Ins)} {a y : Cell} {inits : List (Int × Int)} {Nb : Nat} (hNb : h0.length + 2 ≤ Nb) (hN : Nb ≤ h.length) (hy : RowsOwn 9 codeC Nb h y rows) (ha : SlAt h a 2 (pairC inits) inits.length ∧ Low h.length a ∧ ∀ k, isBlk a k → k ≠ h0.length + 1)
    (hi : inits = [] ∨ ∃ v : Int, 0 ≤ v ∧ v < 3 ∧ inits = [(120, v)]) (hn : 2 ≤ rows.length ∧ rows.length ≤ 3) (hmem : (rows.map memC).sum ≤ most) (hc : ∃ L : Int, (L = 2 ∨ L = 3) ∧ ∀ c ∈ rows, ∃ k, k ≤ 3 ∧ ThrOk L k c) {s0 : List Cell} (hs0 : s0.length = 5) :
    ∃ (cs : List Cell) (h' : AHeap) (T : PTest), (jacquardlaw3_Small_k4 (R E) Lim E.glob hb) (.exit 0) (jacquardlaw3_Small_x2_1 (nxF h0) s0 [.str tName, a, y, .int .i64 0, .nils] h) = some ([.agg cs], h') ∧ TestAt h' cs T ∧ GoodT most T ∧ Kp h0.length h0 h' := by
  obtain ⟨r, r0, r1, hF, hv2⟩ := next_R hE hx hlow hl hv (by omega)
  have hset := KpX.set (h0.length + 1) h.length h (some ⟨true, 0, [.int .i64 ((m + 1 : Nat) : Int)]⟩)
  have hy2 := hy.keepX (show h0.length + 1 < Nb by omega) hset
  have ha2 : SlAt (setBlk h (h0.length + 1) (some ⟨true, 0, [.int .i64 ((m + 1 : Nat) : Int)]⟩)) a 2 (pairC inits) inits.length := by
    refine ⟨ha.1.1, ha.1.2.imp id ?_⟩
    rintro ⟨k, N, off, e, hh | ⟨b, hb, hN, hle, hat⟩⟩
    · exact ⟨k, N, off, e, .inl hh⟩
    · have hk := ha.2.2 k (by rw [e]; rfl)
      exact ⟨k, N, off, e, .inr ⟨b, by rw [blk_set_ne (fun q => hk q.symm)]; exact hb, hN, hle, hat⟩⟩
  have hal2 : Low (setBlk h (h0.length + 1) (some ⟨true, 0, [.int .i64 ((m + 1 : Nat) : Int)]⟩)).length a := by rw [setBlk_len]; exact ha.2.1
  rw [jacquardlaw3_Small_e2_1, hF, asI_ok]
  generalize setBlk h (h0.length + 1) (some ⟨true, 0, [.int .i64 ((m + 1 : Nat) : Int)]⟩) = H at *
  have q5 := rem_rng (E := E) (shr_nn (E := E) (k := 5) r0) (show (0 : Int) < 3 by omega)
  by_cases h3 : (E.glob.rem .i64 r 3 == 0) = true
  · rw [if_pos h3]
    dsimp only
    generalize E.glob.band .i64 (E.glob.shr .i64 r 3) 1 = b3
    generalize E.glob.band .i64 (E.glob.shr .i64 r 4) 1 = b4
    generalize E.glob.rem .i64 (E.glob.shr .i64 r 5) 3 = v5
    generalize E.glob.band .i64 (E.glob.shr .i64 r 7) 1 = b7
    generalize E.glob.wrap .i64 (E.glob.rem .i64 (E.glob.quo .i64 r 3) 2 + 1) = ck
    have e1 : splice (splice (splice [Cell.int .i64 0, Cell.int .i64 0, Cell.int .i64 0, Cell.int .i64 0] 0 ([(.int .i64 0)] : List Cell)) 1 ([(.int .i64 b3)] : List Cell)) 3 ([(.int .i64 b4)] : List Cell) = (Atm.mk 0 b3 0 b4).cs := rfl
    have e2 : splice (splice (splice [Cell.int .i64 0, Cell.int .i64 0, Cell.int .i64 0, Cell.int .i64 0] 0 ([(.int .i64 (-1))] : List Cell)) 2 ([(.int .i64 120)] : List Cell)) 3 ([(.int .i64 v5)] : List Cell) = (Atm.mk (-1) 0 120 v5).cs := rfl
    have e3 : splice (splice (splice [Cell.int .i64 0, Cell.int .i64 0, Cell.int .i64 0, Cell.int .i64 0] 0 ([(.int .i64 1)] : List Cell)) 1 ([(.int .i64 0)] : List Cell)) 3 ([(.int .i64 b7)] : List Cell) = (Atm.mk 1 0 0 b7).cs := rfl
    have e4 : ∀ a : Atm, splice [Cell.int .i64 0, Cell.int .i64 0, Cell.int .i64 0, Cell.int .i64 0] 0 a.cs = atmC [a] := fun _ => rfl
    have e5 : ∀ a b : Atm, splice (splice (List.replicate 8 (Cell.int .i64 0)) 0 a.cs) 4 b.cs = atmC [a, b] := fun _ _ => rfl
    have e6 : ∀ a b : Cell, splice (splice [Cell.nils, Cell.nils] 0 ([a] : List Cell)) 1 ([b] : List Cell) = [a, b] := fun _ _ => rfl
    have e7 : ∀ a b : Cell, splice (splice [Cell.int .i64 0, Cell.nils] 0 ([a] : List Cell)) 1 ([b] : List Cell) = [a, b] := fun _ _ => rfl
    have l1 : ∀ a : Atm, (atmC [a]).length = 4 := fun _ => rfl
    have l2 : ∀ a b : Atm, (atmC [a, b]).length = 8 := fun _ _ => rfl
    simp only [e1, e2, e3, e4, e5, e6, e7, l1, l2]
    rw [if_pos ⟨rfl, by simp⟩, if_pos trivial, if_pos ⟨rfl, by simp⟩, if_pos ⟨rfl, by simp [splice, Atm.cs]⟩, if_pos trivial, if_pos (by simp), if_pos (by simp), if_pos (by simp [splice]), if_pos (by simp [splice, hs0]), if_pos (by simp [splice])]
    have k1 : Kp H.length H (H ++ [some ⟨true, 4, atmC [⟨0, b3, 0, b4⟩]⟩]) := Kp.app _ (Nat.le_refl _)
    have n1 : (H ++ [some (Blk.mk true 4 (atmC [⟨0, b3, 0, b4⟩]))]).length = H.length + 1 := by simp
    have c1' : blk? (H ++ [some ⟨true, 4, atmC [⟨0, b3, 0, b4⟩]⟩]) H.length = some ⟨true, 4, atmC [⟨0, b3, 0, b4⟩]⟩ := blk_new _ _
    generalize H ++ [some (Blk.mk true 4 (atmC [⟨0, b3, 0, b4⟩]))] = H1 at *
    have k2 : Kp H.length H (H1 ++ [some ⟨true, 4, atmC [⟨-1, 0, 120, v5⟩, ⟨1, 0, 0, b7⟩]⟩]) := k1.trans (Kp.app _ (by omega))
    have n2 : (H1 ++ [some (Blk.mk true 4 (atmC [⟨-1, 0, 120, v5⟩, ⟨1, 0, 0, b7⟩]))]).length = H1.length + 1 := by simp
    have c2' : blk? (H1 ++ [some ⟨true, 4, atmC [⟨-1, 0, 120, v5⟩, ⟨1, 0, 0, b7⟩]⟩]) H1.length = some ⟨true, 4, atmC [⟨-1, 0, 120, v5⟩, ⟨1, 0, 0, b7⟩]⟩ := blk_new _ _
    have c1'' : blk? (H1 ++ [some ⟨true, 4, atmC [⟨-1, 0, 120, v5⟩, ⟨1, 0, 0, b7⟩]⟩]) H.length = some ⟨true, 4, atmC [⟨0, b3, 0, b4⟩]⟩ := blk_old c1' _
    generalize H1 ++ [some (Blk.mk true 4 (atmC [⟨-1, 0, 120, v5⟩, ⟨1, 0, 0, b7⟩]))] = H2 at *
    have k3 : Kp H.length H (H2 ++ [some ⟨true, 1, [Cell.sl H.length 4 0 1, Cell.sl H1.length 8 0 2]⟩]) := k2.trans (Kp.app _ (by omega))
    have c3' : blk? (H2 ++ [some ⟨true, 1, [Cell.sl H.length 4 0 1, Cell.sl H1.length 8 0 2]⟩]) H2.length = some ⟨true, 1, [Cell.sl H.length 4 0 1, Cell.sl H1.length 8 0 2]⟩ := blk_new _ _
    have c2'' : blk? (H2 ++ [some ⟨true, 1, [Cell.sl H.length 4 0 1, Cell.sl H1.length 8 0 2]⟩]) H1.length = some ⟨true, 4, atmC [⟨-1, 0, 120, v5⟩, ⟨1, 0, 0, b7⟩]⟩ := blk_old c2' _
    have c1''' : blk? (H2 ++ [some ⟨true, 1, [Cell.sl H.length 4 0 1, Cell.sl H1.length 8 0 2]⟩]) H.length = some ⟨true, 4, atmC [⟨0, b3, 0, b4⟩]⟩ := blk_old c1'' _
    have n3 : (H2 ++ [some (Blk.mk true 1 [Cell.sl H.length 4 0 1, Cell.sl H1.length 8 0 2])]).length = H2.length + 1 := by simp
    refine ⟨_, _, ⟨tName, inits, rows, ck, [[⟨0, b3, 0, b4⟩], [⟨-1, 0, 120, v5⟩, ⟨1, 0, 0, b7⟩]]⟩, rfl, ?_, ⟨hn, hc, hmem, hi, by simp, ?_⟩, hv2.2.2.2.trans (k3.mono (by have := hv2.2.2.1; omega))⟩
    · refine ⟨a, y, .sl H2.length 2 0 2, by simp [splice], ⟨ha2.keep hal2 k3, Low_mono k3.1 hal2⟩, hy2.of.keep k3, ⟨[Cell.sl H.length 4 0 1, Cell.sl H1.length 8 0 2], ⟨rfl, .inr ⟨_, _, 0, rfl, .inr ⟨_, c3', rfl, by simp, fun j _ => by simp⟩⟩⟩, .inr (by omega), fun t r ht => ?_⟩⟩
      match t, ht with
      | 0, ht =>
        cases ht
        exact ⟨_, rfl, ⟨rfl, .inr ⟨_, _, 0, rfl, .inr ⟨_, c1''', rfl, by simp, fun j _ => by simp⟩⟩⟩, .inr (by omega)⟩
      | 1, ht =>
        cases ht
        exact ⟨_, rfl, ⟨rfl, .inr ⟨_, _, 0, rfl, .inr ⟨_, c2'', rfl, by simp, fun j _ => by simp⟩⟩⟩, .inr (by omega)⟩
      | t + 2, ht => simp at ht
    · intro row hr
      simp only [List.mem_cons, List.not_mem_nil, or_false] at hr
      rcases hr with rfl | rfl
      · exact ⟨by simp, fun a ha => by simp at ha; subst ha; exact .inl rfl⟩
      · refine ⟨by simp, fun a ha => ?_⟩
        simp at ha
        rcases ha with rfl | rfl
        · exact .inr rfl
        · exact .inl rfl
  · rw [if_neg h3, if_pos ⟨rfl, rfl⟩, if_pos ⟨rfl, hs0, rfl⟩, if_pos ⟨rfl, rfl⟩]
    refine ⟨_, _, ⟨tName, inits, rows, 0, []⟩, rfl, ⟨a, y, .nils, rfl, ⟨ha2, hal2⟩, hy2.of, ⟨[], ⟨rfl, .inl ⟨rfl, rfl⟩⟩, trivial, fun t r ht => by simp at ht⟩⟩, ⟨hn, hc, hmem, hi, by simp, by simp⟩, hv2.2.2.2⟩

theorem Small_R (hE : jacquardlaw3_Small_In E) {h : AHeap} {x : Cell} {l : List Int} (hx : SlAt h x 1 (intC .i64 l) l.length) (hlow : Low h.length x) (hl : l.length < 9223372036854775808) {most : Nat} (hmost : most ≤ 900) :
    ∃ (cs : List Cell) (h' : AHeap) (T : PTest), R E 97 [.c x, .c (.int .i64 (most : Int))] h = some ([.agg cs], h') ∧ TestAt h' cs T ∧ GoodT most T ∧ Kp h.length h h' := by
  suffices hs : ∃ (cs : List Cell) (h' : AHeap) (T : PTest), jacquardlaw3_Small.body (R E) Lim E.glob [.c x, .c (.int .i64 (most : Int))] h = some ([.agg cs], h') ∧ TestAt h' cs T ∧ GoodT most T ∧ Kp h.length h h' by
    obtain ⟨cs, h', T, h1, h2⟩ := hs; exact ⟨cs, h', T, R_intro hE.fn h1, h2⟩
  have hc : AV.cells (.c x) = [x] := rfl
  have hl1 : ([x] : List Cell).length = 1 := rfl
  have hl0 : ([Cell.int .i64 0] : List Cell).length = 1 := rfl
  have hln : (h ++ [some (Blk.mk true 0 [x])]).length = h.length + 1 := by simp
  have hnm : splice [Cell.str (ByteArray.mk #[]), Cell.nils, Cell.nils, Cell.int .i64 0, Cell.nils] 0 ([(.str (ByteArray.mk #[116]))] : List Cell) = [.str tName, .nils, .nils, .int .i64 0, .nils] := rfl
  rw [jacquardlaw3_Small_eq, hc, hl1, hl0, hnm, if_pos ⟨rfl, rfl, rfl⟩, rd1' (blk_new _ _), if_pos (by simp), putH_ok (blk_new _ _) rfl, setBlk_last]
  dsimp only [List.set]
  rw [hln]
  have hv0 : VarsAt h x (h ++ [some ⟨true, 0, [x]⟩] ++ [some ⟨true, 0, [Cell.int .i64 0]⟩]) 0 := by
    refine ⟨blk_old (blk_new _ _) _, ?_, by simp, ?_⟩
    · have := blk_new (h ++ [some (Blk.mk true 0 [x])]) ⟨true, 0, [Cell.int .i64 0]⟩
      rw [hln] at this; exact this
    · rw [List.append_assoc]; exact Kp.app _ (Nat.le_refl _)
  have hlen0 : (h ++ [some (Blk.mk true 0 [x])] ++ [some (Blk.mk true 0 [Cell.int .i64 0])]).length = h.length + 2 := by simp
  generalize h ++ [some (Blk.mk true 0 [x])] ++ [some (Blk.mk true 0 [Cell.int .i64 0])] = H0 at *
  rw [show (Cell.fn 115 [(h.length + 1, 1, 0), (h.length, 1, 0)]) = nxF h from rfl]
  obtain ⟨a0, a0p, _, hF1, hv1⟩ := next_R hE.c115 hx hlow hl hv0 (by omega)
  rw [hF1, asI_ok]
  have hlen1 : (setBlk H0 (h.length + 1) (some ⟨true, 0, [.int .i64 ((0 + 1 : Nat) : Int)]⟩)).length = h.length + 2 := by rw [setBlk_len, hlen0]
  generalize setBlk H0 (h.length + 1) (some ⟨true, 0, [.int .i64 ((0 + 1 : Nat) : Int)]⟩) = H1 at *
  obtain ⟨a1, a1p, _, hF2, hv2⟩ := next_R hE.c115 hx hlow hl hv1 (by omega)
  rw [hF2, asI_ok]
  have hlen2 : (setBlk H1 (h.length + 1) (some ⟨true, 0, [.int .i64 ((0 + 1 + 1 : Nat) : Int)]⟩)).length = h.length + 2 := by rw [setBlk_len, hlen1]
  generalize setBlk H1 (h.length + 1) (some ⟨true, 0, [.int .i64 ((0 + 1 + 1 : Nat) : Int)]⟩) = H2 at *
  obtain ⟨a2, a2p, _, hF3, hv3⟩ := next_R hE.c115 hx hlow hl hv2 (by omega)
  rw [hF3, asI_ok]
  have hlen3 : (setBlk H2 (h.length + 1) (some ⟨true, 0, [.int .i64 ((0 + 1 + 1 + 1 : Nat) : Int)]⟩)).length = h.length + 2 := by rw [setBlk_len, hlen2]
  generalize setBlk H2 (h.length + 1) (some ⟨true, 0, [.int .i64 ((0 + 1 + 1 + 1 : Nat) : Int)]⟩) = H3 at *
  have n2 := rem_rng (E := E) a0p (show (0 : Int) < 2 by omega)
  have n3 := rem_rng (E := E) a1p (show (0 : Int) < 2 by omega)
  have w2 : E.glob.wrap .i64 (E.glob.rem .i64 a0 2 + 2) = E.glob.rem .i64 a0 2 + 2 := g_wrap_i64 (by omega) (by omega)
  have w3 : E.glob.wrap .i64 (E.glob.rem .i64 a1 2 + 2) = E.glob.rem .i64 a1 2 + 2 := g_wrap_i64 (by omega) (by omega)
  rw [w2, w3]
  obtain ⟨n, hn⟩ : ∃ n : Nat, E.glob.rem .i64 a0 2 + 2 = (n : Int) := ⟨(E.glob.rem .i64 a0 2 + 2).toNat, by omega⟩
  generalize hLL : E.glob.rem .i64 a1 2 + 2 = L at *
  rw [hn]
  -- what is there from the loops on
  have rest : ∀ (m : Nat) (H : AHeap) (a : Cell) (inits : List (Int × Int)), m ≤ 4 → VarsAt h x H m → SlAt H a 2 (pairC inits) inits.length → Low H.length a → (∀ k, isBlk a k → k ≠ h.length + 1) → (inits = [] ∨ ∃ v : Int, 0 ≤ v ∧ v < 3 ∧ inits = [(120, v)]) →
      ∃ (cs : List Cell) (h' : AHeap) (T : PTest), (jacquardlaw3_Small_k2 (R E) Lim E.glob h) .normal (jacquardlaw3_Small_c1 (most : Int) (nxF h) (n : Int) L [Cell.str (ByteArray.mk #[]), Cell.nils, Cell.nils, Cell.int .i64 0, Cell.nils] [.str tName, a, .nils, .int .i64 0, .nils] H) = some ([.agg cs], h') ∧ TestAt h' cs T ∧ GoodT most T ∧ Kp h.length h h' := by
    intro m H a inits hm hv ha hal had hi
    obtain ⟨mem', m', rows', y', H', f1, f2, f3, f4, f5, f6, f7, f8, f9, f10⟩ := small_thrs hE.c115 hx hlow hl hmost (n := n) (by omega) (L := L) (by omega) [Cell.str (ByteArray.mk #[]), Cell.nils, Cell.nils, Cell.int .i64 0, Cell.nils] a (name := tName) (Nb := H.length) hv.2.2.1 n 0 0 m [] .nils H (by omega) rfl (by omega) (by omega) rfl (by simp) hv (Nat.le_refl _) (RowsOwn.nil _)
    have ha' : SlAt H' a 2 (pairC inits) inits.length := by
      refine ⟨ha.1, ha.2.imp id ?_⟩
      rintro ⟨k, N, off, e, hh | ⟨b, hb, hN, hle, hat⟩⟩
      · exact ⟨k, N, off, e, .inl hh⟩
      · exact ⟨k, N, off, e, .inr ⟨b, by rw [f10.blk (blk_lt' hb) (had k (by rw [e]; rfl))]; exact hb, hN, hle, hat⟩⟩
    obtain ⟨cs, h', T, g1, g2, g3, g4⟩ := small_end hE.c115 (hb := h) hx hlow hl f6 (by omega) (most := most) (rows := rows') (a := a) (y := y') (inits := inits) (Nb := H.length) hv.2.2.1 f8 f9 ⟨ha', Low_mono f10.1 hal, had⟩ hi (by omega) (by omega) ⟨L, by omega, f5⟩ (s0 := [Cell.str (ByteArray.mk #[]), Cell.nils, Cell.nils, Cell.int .i64 0, Cell.nils]) rfl
    refine ⟨cs, h', T, ?_, g2, g3, g4⟩
    rw [jacquardlaw3_Small_ec1_n]
    have e0 : jacquardlaw3_Small_s2 (most : Int) (nxF h) (n : Int) L 0 0 [Cell.str (ByteArray.mk #[]), Cell.nils, Cell.nils, Cell.int .i64 0, Cell.nils] [.str tName, a, .nils, .int .i64 0, .nils] H = jacquardlaw3_Small_s2 (most : Int) (nxF h) (n : Int) L ((0 : Nat) : Int) ((0 : Nat) : Int) [Cell.str (ByteArray.mk #[]), Cell.nils, Cell.nils, Cell.int .i64 0, Cell.nils] [.str tName, a, .nils, .int .i64 0, .nils] H := rfl
    rw [e0, f1, bind_ok, g1]
  by_cases h4 : (E.glob.rem .i64 a2 4 == 0) = true
  · obtain ⟨a3, a3p, _, hF4, hv4⟩ := next_R hE.c115 hx hlow hl hv3 (by omega)
    have q3 := rem_rng (E := E) a3p (show (0 : Int) < 3 by omega)
    rw [if_pos h4, show ∀ {α : Type} (f : Cell → Option α), atK [Cell.str tName, .nils, .nils, .int .i64 0, .nils] 1 f = f .nils from fun _ => rfl, hF4, asI_ok]
    have hlen4 : (setBlk H3 (h.length + 1) (some ⟨true, 0, [.int .i64 ((0 + 1 + 1 + 1 + 1 : Nat) : Int)]⟩)).length = h.length + 2 := by rw [setBlk_len, hlen3]
    generalize setBlk H3 (h.length + 1) (some ⟨true, 0, [.int .i64 ((0 + 1 + 1 + 1 + 1 : Nat) : Int)]⟩) = H4 at *
    generalize E.glob.rem .i64 a3 3 = v at *
    have e1 : splice (splice [Cell.int .i64 0, Cell.int .i64 0] 0 ([(.int .i64 120)] : List Cell)) 1 ([(.int .i64 v)] : List Cell) = pairC [(120, v)] := rfl
    have e2 : splice [Cell.int .i64 0, Cell.int .i64 0] 0 (pairC [(120, v)]) = pairC [(120, v)] := rfl
    have hm : maxBytes ≥ 100 := by unfold maxBytes; omega
    have hap : ∀ {α : Type} (f : Cell → AHeap → Option α), appK 2 16 .nils (pairC [(120, v)]) H4 f = f (.sl H4.length 2 0 1) (H4 ++ [some ⟨true, 2, pairC [(120, v)]⟩]) := by
      intro α f
      unfold appK
      simp only
      rw [if_neg (by simp [pairC]), if_pos ⟨by simp [pairC]; omega, by simp [pairC]; omega⟩]
      simp [pairC]
    rw [e1, if_pos ⟨rfl, by simp⟩, e2, if_pos (show (pairC [(120, v)]).length = 1 * 2 from rfl), hap, if_pos (by simp), bind_ok]
    have hv5 : VarsAt h x (H4 ++ [some ⟨true, 2, pairC [(120, v)]⟩]) (0 + 1 + 1 + 1 + 1) := hv4.keep (Kp.app _ (by omega))
    exact rest (0 + 1 + 1 + 1 + 1) _ (.sl H4.length 2 0 1) [(120, v)] (by omega) hv5 ⟨rfl, .inr ⟨_, _, 0, rfl, .inr ⟨_, blk_new _ _, rfl, by simp, fun j _ => by simp⟩⟩⟩ (.inr (by simp)) (fun k hk => by have : H4.length = k := hk; omega) (.inr ⟨v, q3.1, q3.2, rfl⟩)
  · rw [if_neg h4, bind_ok]
    exact rest (0 + 1 + 1 + 1) _ .nils [] (by omega) hv3 ⟨rfl, .inl ⟨rfl, rfl⟩⟩ trivial (fun k hk => by cases hk) (.inl rfl)

end
end Jq

/- Laws of events: kinds, orders. -/
namespace Jq
open Go

section
variable {E : Env}

end
end Jq

/- Laws of events: kinds, orders. -/
namespace Jq
open Go

section
variable {E : Env}

/-- A row of a block of its own. -/
theorem SlAt.whole {h : AHeap} {k len esz : Nat} {cs : List Cell} {o : Bool} {e : Nat} (hb : blk? h k = some ⟨o, e, cs⟩) (hl : cs.length = len * esz) : SlAt h (.sl k cs.length 0 len) esz cs len :=
  ⟨hl, .inr ⟨k, _, 0, rfl, .inr ⟨_, hb, rfl, by omega, fun j _ => by simp⟩⟩⟩

end
end Jq

/- Programs made of numbers; what a thread's events are. -/
namespace Jq
open Go

/-- Skips lead to where they may. -/
def SkipOk (code : List Ins) : Prop := ∀ (j : Nat) (i : Ins), code[j]? = some i → i.kind = 6 → 0 ≤ i.n ∧ (j : Int) + 1 + i.n ≤ code.length

structure GoodP (most : Nat) (P : PProg) : Prop where
  small : P.small
  good : P.good
  n : 2 ≤ P.thr.length ∧ P.thr.length ≤ 3
  init : P.init.length ≤ 3
  locs : P.locs.length = P.init.length
  code : ∀ c ∈ P.thr, c.length ≤ 6
  skip : ∀ c ∈ P.thr, SkipOk c

theorem SmI.good {L : Int} {i : Ins} (s : SmI L i) {n : Nat} (hn : 1 ≤ n) : GoodI n i := by
  rcases s with ⟨h1, h2, _⟩ | ⟨h1, h2, _⟩ | rfl | ⟨h1, h2, _⟩ | ⟨h1, h2, _, _, h3, _⟩ | ⟨h1, h2, _, _, h3, _, h4⟩
  all_goals refine ⟨?_, ?_, ?_, ?_⟩ <;> (try simp only) <;> omega

theorem SmI.skip {L : Int} {i : Ins} (s : SmI L i) (h : i.kind = 6) : i.n = 1 := by
  rcases s with ⟨h1, _⟩ | ⟨h1, _⟩ | rfl | ⟨h1, _⟩ | ⟨h1, _⟩ | ⟨h1, h2, _, _, h3, _, h4⟩
  · omega
  · omega
  · simp at h
  · omega
  · omega
  · exact h4

theorem ThrOk.skip {L : Int} {k : Nat} {c : List Ins} (t : ThrOk L k c) : SkipOk c := by
  induction t with
  | nil => intro j i h; simp at h
  | @one k c q t hq h6 ih =>
    intro j i h hk
    rcases Nat.lt_or_ge j c.length with hj | hj
    · rw [List.getElem?_append_left hj] at h
      have := ih j i h hk
      rw [List.length_append]; simp; omega
    · rw [List.getElem?_append_right hj] at h
      have := List.mem_of_getElem? h
      rw [List.mem_singleton] at this
      subst this; exact absurd hk h6
  | @two k c q r t hq h6 hr hr1 ih =>
    intro j i h hk
    rcases Nat.lt_or_ge j c.length with hj | hj
    · rw [List.getElem?_append_left hj] at h
      have := ih j i h hk
      rw [List.length_append]; simp; omega
    · rw [List.getElem?_append_right hj] at h
      have h2 := getI_lt h
      simp only [List.length_cons, List.length_nil] at h2
      rcases (show j - c.length = 0 ∨ j - c.length = 1 by omega) with e | e
      · rw [e] at h
        cases h
        have := hq.skip hk
        rw [List.length_append]; simp; omega
      · rw [e] at h
        cases h
        omega

theorem compI_kn {locs : List Int} {i : Ins} : (compI locs i).kind = i.kind ∧ (compI locs i).n = i.n := by
  unfold compI; split <;> exact ⟨rfl, rfl⟩

theorem SkipOk.map {locs : List Int} {c : List Ins} (s : SkipOk c) : SkipOk (c.map (compI locs)) := by
  intro j i h hk
  rw [List.getElem?_map] at h
  cases hc : c[j]? with
  | none => rw [hc] at h; cases h
  | some q =>
    rw [hc] at h
    cases h
    rw [compI_kn.1] at hk
    rw [compI_kn.2, List.length_map]
    exact s j q hc hk

theorem compI_good {locs : List Int} {i : Ins} {n : Nat} (g : GoodI n i) : GoodI n (compI locs i) := by
  unfold compI
  split
  · exact ⟨g.1, g.2, g.3, g.4⟩
  · exact g

theorem SmI.loc {L : Int} {i : Ins} (s : SmI L i) : i.loc = 0 ∨ (120 ≤ i.loc ∧ i.loc < 120 + L) := by
  rcases s with ⟨h1, h2, h3, _⟩ | ⟨h1, h2, h3, _⟩ | rfl | ⟨h1, h2, h3, _⟩ | ⟨h1, h2, h3, _, _⟩ | ⟨h1, h2, h3, _, _, _⟩
  · exact .inr h3
  · exact .inr h3
  · exact .inl rfl
  · exact .inr h3
  · exact .inl h3
  · exact .inl h3

theorem locsF_few (S : Nat → Bool) (hS : ∀ b, 97 ≤ b → b < 120 → S b = false) : ∀ n, n ≤ 26 → (locsF S n).length ≤ n - 23
  | 0, _ => by simp [locsF]
  | n + 1, h => by
    have ih := locsF_few S hS n (by omega)
    rw [locsF_succ]
    split
    · rename_i hs
      have : ¬ 97 + n < 120 := fun hlt => by rw [hS _ (by omega) hlt] at hs; cases hs
      rw [List.length_append, List.length_singleton]; omega
    · omega

theorem GoodT.small {most : Nat} {T : PTest} (g : GoodT most T) : T.small := by
  obtain ⟨L, hL, hc⟩ := g.code
  refine ⟨?_, by have := g.n; omega, fun c hcm => ?_, by have := g.any.1; omega, fun c hcm => by have := (g.any.2 c hcm).1; omega⟩
  · rcases g.inits with h | ⟨v, _, _, h⟩ <;> rw [h] <;> simp
  · obtain ⟨k, hk, ht⟩ := hc c hcm
    have := ht.len; omega

theorem GoodT.few {most : Nat} {T : PTest} (g : GoodT most T) : (locsT T).length ≤ 3 := by
  obtain ⟨L, hL, hc⟩ := g.code
  refine Nat.le_trans (locsF_few (thereT T) (fun b h1 h2 => ?_) 26 (Nat.le_refl _)) (by omega)
  unfold thereT
  rw [Bool.or_eq_false_iff, Bool.or_eq_false_iff]
  refine ⟨⟨?_, ?_⟩, ?_⟩
  · rw [List.any_eq_false]
    intro p hp
    rcases g.inits with h | ⟨v, _, _, h⟩
    · rw [h] at hp; cases hp
    · rw [h] at hp
      rw [List.mem_singleton] at hp
      subst hp
      rw [beq_iff_eq]; simp only; omega
  · rw [List.any_eq_false]
    intro c hcm
    rw [Bool.not_eq_true, List.any_eq_false]
    intro i hi
    obtain ⟨k, hk, ht⟩ := hc c hcm
    rw [beq_iff_eq]
    have := (ht.all i hi).loc
    omega
  · rw [List.any_eq_false]
    intro c hcm
    rw [Bool.not_eq_true, List.any_eq_false]
    intro i hi
    rw [beq_iff_eq]
    have := (g.any.2 c hcm).2 i hi
    omega

theorem GoodT.goodP {most : Nat} {T : PTest} (g : GoodT most T) : GoodP most (compT T) := by
  obtain ⟨L, hL, hc⟩ := g.code
  have hlen : ∀ c ∈ T.thr, c.length ≤ 6 := fun c hcm => by
    obtain ⟨k, hk, ht⟩ := hc c hcm
    have := ht.len; omega
  have hcode : ∀ c ∈ (compT T).thr, c.length ≤ 6 := fun c hcm => by
    obtain ⟨d, hd, rfl⟩ := List.mem_map.1 hcm
    rw [List.length_map]; exact hlen d hd
  have hn : (compT T).thr.length = T.thr.length := List.length_map _
  have hi : (compT T).init.length = (locsT T).length := List.length_map _
  have hfew := g.few
  have hgn := g.n
  refine ⟨⟨by omega, fun c hcm => by have := hcode c hcm; omega⟩, ⟨⟨by omega, fun c hcm => by have := hcode c hcm; omega⟩, fun c hcm => ?_⟩, by omega, by omega, hi.symm, hcode, fun c hcm => by
    obtain ⟨d, hd, rfl⟩ := List.mem_map.1 hcm
    obtain ⟨k, hk, ht⟩ := hc d hd
    exact ht.skip.map⟩
  obtain ⟨d, hd, rfl⟩ := List.mem_map.1 hcm
  intro i him
  obtain ⟨j, hj, rfl⟩ := List.mem_map.1 him
  rw [List.length_map]
  obtain ⟨k, hk, ht⟩ := hc d hd
  exact compI_good ((ht.all j hj).good (List.length_pos_of_mem hj))

section
variable {E : Env}

/-- A program made of numbers. -/
theorem Of6_R (hE : jacquardlaw6_Of_In E) {h : AHeap} {x : Cell} {l : List Int} (hx : SlAt h x 1 (intC .i64 l) l.length) (hlow : Low h.length x) (hl : l.length < 9223372036854775808) {most : Nat} (hmost : most ≤ 900) :
    ∃ (cs : List Cell) (h' : AHeap) (P : PProg), R E 76 [.c x, .c (.int .i64 (most : Int))] h = some ([.agg cs], h') ∧ ProgAt h' cs P ∧ GoodP most P ∧ Kp h.length h h' := by
  obtain ⟨cs, h1, T, s1, s2, s3, s4⟩ := Small_R hE.c97 hx hlow hl hmost
  obtain ⟨cs2, h2, t1, t2, t3⟩ := refCompile_R hE.c101 s2 s3.small
  refine ⟨cs2, h2, compT T, R_intro hE.fn ?_, t2, s3.goodP, s4.trans (t3.mono s4.1)⟩
  rw [jacquardlaw6_Of_eq, s1, c1_ok, asA_ok, t1, c1_ok, asA_ok, if_pos ⟨rfl, rfl, t2.len⟩, if_pos ⟨rfl, t2.len⟩]

end

/-- How many events read. -/
def rdc (l : List Evt) : Nat := l.countP evRd
def EvOk (t : Int) (all : List Int) (j n : Nat) (e : Evt) : Prop :=
  e.t = t ∧ e.i = (j : Int) ∧ 1 ≤ e.kind ∧ e.kind ≤ 5 ∧ (evWr e = false → e.w = 0) ∧ (evRd e = true → all[n]? = some e.r) ∧ (evRd e = false → e.r = 0)
def OutOk (t : Int) (all : List Int) (out : List Evt) : Prop := ∀ (j : Nat) (e : Evt), out[j]? = some e → EvOk t all j (rdc (out.take j)) e

theorem OutOk.nil (t : Int) (all : List Int) : OutOk t all [] := fun j e h => by simp at h
end Jq

/- Laws of threads step by step. -/
namespace Jq
open Go

section
variable {E : Env}

theorem Size_R (hE : prog_Size_In E) {cs : List Cell} {P : PProg} {h : AHeap} (p : ProgAt h cs P) (hs : P.small) : R E 102 [.agg cs] h = some ([.c (.int .i64 (sumL P.thr))], h) := by
  obtain ⟨a, b, c, ts, rfl, _, _, ⟨hc, _⟩, hx⟩ := p
  refine R_intro hE.fn ?_
  have a2 : ∀ {α : Type} (f : Cell → Option α), atK [a, b, c] 2 f = f c := fun _ => rfl
  have n2 := hs.1
  have loop := Lim_count (F := prog_Size_F1 (R E) Lim E.glob) (fun i => prog_Size_s1 (sumL (P.thr.take i)) c P.thr.length (i : Int) h) 0 P.thr.length (by omega) (p := (.exit 0, prog_Size_x1_1 (sumL (P.thr.take P.thr.length)) h))
    (fun i _ hi => by
      have hq : P.thr[i]? = some P.thr[i] := List.getElem?_eq_getElem hi
      generalize P.thr[i] = q at hq
      obtain ⟨y, y1, y2, y3⟩ := hx i q hq
      have hsum := sumT_le (P.thr.take i) fun c hc => hs.2 c (List.mem_of_mem_take hc)
      rw [List.length_take] at hsum
      have hql := hs.2 q (List.mem_of_getElem? hq)
      have hw : E.glob.wrap .i64 (sumL (P.thr.take i) + (q.length : Int)) = sumL (P.thr.take (i + 1)) := by
        rw [takeI_succ hq, sumL_snoc]
        unfold sumL
        exact g_wrap_i64 (by omega) (by omega)
      rw [prog_Size_r1, if_pos (by simp; omega), hc.get1 hi y1, y2.len, hw, g_succ (by omega)])
    (Lim_exit (by rw [prog_Size_r1, if_neg (by simp)]))
  rw [List.take_of_length_le (Nat.le_refl _), show sumL (P.thr.take 0) = 0 from rfl, show ((0 : Nat) : Int) = 0 from rfl] at loop
  rw [prog_Size_eq, a2, hc.len, loop, bind_ok, prog_Size_e1_1]

def T6 : PTest := ⟨ByteArray.mk #[97], [], [[⟨5, 0, 0, ⟨-1, 1⟩, 0, ⟨-1, 0⟩, 0⟩, ⟨1, 0, 120, ⟨0, 0⟩, 0, ⟨0, 0⟩, 0⟩]], 0, []⟩

theorem T6_small : T6.small := ⟨by decide, by decide, by decide, by decide, by decide⟩
theorem T6_check : checkT T6 = 0 := by decide +kernel

theorem awake6_R (hE : jacquardlaw6_awake_In E) (h : AHeap) : R E 95 [] h = some ([.c (.bool true)], h) := by
  refine R_intro hE.fn ?_
  rw [jacquardlaw6_awake_eq, if_pos (by exact ⟨rfl, Nat.le_of_ble_eq_true rfl⟩), if_pos (by exact ⟨rfl, Nat.le_of_ble_eq_true rfl⟩), if_pos (by exact ⟨rfl, Nat.le_of_ble_eq_true rfl⟩), if_pos (by exact ⟨rfl, Nat.le_of_ble_eq_true rfl⟩), if_pos (by exact ⟨rfl, Nat.le_of_ble_eq_true rfl⟩), if_pos (by exact rfl), if_pos (by exact rfl), if_pos (by exact ⟨rfl, rfl, rfl⟩), if_pos (by exact ⟨rfl, rfl⟩)]
  have p : TestAt ((h ++ [some (Blk.mk true 9 (codeC [⟨5, 0, 0, ⟨-1, 1⟩, 0, ⟨-1, 0⟩, 0⟩, ⟨1, 0, 120, ⟨0, 0⟩, 0, ⟨0, 0⟩, 0⟩]))]) ++ [some (Blk.mk true 1 [.sl h.length 18 0 2])]) [.str (ByteArray.mk #[97]), .nils, .sl (h ++ [some (Blk.mk true 9 (codeC [⟨5, 0, 0, ⟨-1, 1⟩, 0, ⟨-1, 0⟩, 0⟩, ⟨1, 0, 120, ⟨0, 0⟩, 0, ⟨0, 0⟩, 0⟩]))]).length 1 0 1, .int .i64 0, .nils] T6 := by
    refine ⟨.nils, _, .nils, rfl, ⟨⟨rfl, .inl ⟨rfl, rfl⟩⟩, trivial⟩, ⟨[.sl h.length 18 0 2], SlAt.whole (blk_new _ _) rfl, .inr (by simp), fun t r hr => ?_⟩, ⟨[], ⟨rfl, .inl ⟨rfl, rfl⟩⟩, trivial, fun t r hr => by simp [T6] at hr⟩⟩
    cases t with
    | zero =>
      cases hr
      exact ⟨_, rfl, SlAt.whole (blk_old (blk_new _ _) _) rfl, .inr (by simp)⟩
    | succ t => simp [T6] at hr
  have k0 : Kp h.length h ((h ++ [some (Blk.mk true 9 (codeC [⟨5, 0, 0, ⟨-1, 1⟩, 0, ⟨-1, 0⟩, 0⟩, ⟨1, 0, 120, ⟨0, 0⟩, 0, ⟨0, 0⟩, 0⟩]))]) ++ [some (Blk.mk true 1 [.sl h.length 18 0 2])]) := (Kp.app _ (Nat.le_refl _)).trans (Kp.app _ (by simp))
  obtain ⟨cs, h', r1, r2, r3⟩ := Compile_R hE.c98 p T6_small (by decide) T6_check
  have hsm : (compT T6).small := ⟨by decide +kernel, by decide +kernel⟩
  have hst := PStart_R hE.c94 hsm.fits r2 0
  have hnx := PNext_R hE.c105 r2 (t := 0) (l := startL (compT T6) 0)
  have hsz := Size_R hE.c102 r2 hsm
  have v1 : (startL (compT T6) 0).pc = 1 := by decide +kernel
  have v2 : (startL (compT T6) 0).r0 = 1 := by decide +kernel
  have v3 : (nextI ((compT T6).code 0) (startL (compT T6) 0)).isSome = true := by decide +kernel
  have v4 : ((nextI ((compT T6).code 0) (startL (compT T6) 0)).getD Ins.zero).kind = 1 := by decide +kernel
  have v5 : sumL (compT T6).thr = 2 := by decide +kernel
  rw [v5] at hsz
  rw [v3] at hnx
  have q0 : ∀ {α : Type} (f : Cell → Option α), atK (startL (compT T6) 0).cs 0 f = f (.int .i64 1) := fun f => by rw [← v1]; rfl
  have q1 : ∀ {α : Type} (f : Cell → Option α), atK (startL (compT T6) 0).cs 1 f = f (.int .i64 1) := fun f => by rw [← v2]; rfl
  refine Eq.trans (congrArg (fun z => c2 z _) r1) ?_
  rw [c2_ok, asA_ok, asI_ok, if_pos ⟨rfl, rfl, r2.len⟩, if_pos ⟨rfl, r2.len⟩, hst, c1_ok, asA_ok, if_pos ⟨rfl, rfl, rfl⟩, if_pos ⟨rfl, r2.len⟩, if_pos ⟨rfl, rfl⟩, hnx, c2_ok, asA_ok, asB_ok, if_pos ⟨rfl, rfl, rfl⟩]
  rw [show ((0 : Int) == 0) = true from rfl, scK_ok, q0, asI_ok, bind_ok]
  dsimp only
  rw [show ((1 : Int) == 1) = true from rfl, scK_ok, q1, asI_ok, bind_ok]
  dsimp only
  rw [show ((1 : Int) == 1) = true from rfl, scK_ok, bind_ok]
  dsimp only
  rw [scK_ok, ins_kind, asI_ok, v4, bind_ok]
  dsimp only
  rw [show ((1 : Int) == 1) = true from rfl, scK_ok, if_pos ⟨rfl, r2.len⟩, hsz, c1_ok, asI_ok, bind_ok]
  dsimp only
  exact finish_gc (k0.trans (r3.mono k0.1)) (by simp [avOk, AV.cells, idOk])

end
end Jq

/- Each thread comes to its end. -/
namespace Jq
open Go

theorem stepI_le {code : List Ins} (hs : SkipOk code) {l l' : Lcl} (h : stepI code l = some l') : l'.pc ≤ code.length := by
  obtain ⟨h0, h1, _⟩ := stepI_pc h
  unfold stepI at h
  rw [if_pos h0] at h
  cases hi : code[l.pc.toNat]? with
  | none => rw [hi] at h; cases h
  | some i =>
    rw [hi] at h
    dsimp only at h
    by_cases h5 : i.kind = 5
    · rw [if_pos h5] at h
      cases h
      show (Lcl.setR _ _ _).pc + 1 ≤ _
      rw [Lcl.setR_pc]; omega
    · rw [if_neg h5] at h
      by_cases h6 : i.kind = 6
      · rw [if_pos h6] at h
        have := hs _ _ hi h6
        split at h
        · cases h
          show l.pc + min (max i.n 0) code.length + 1 ≤ _
          omega
        · cases h
          show l.pc + 1 ≤ _
          omega
      · rw [if_neg h6] at h; cases h

theorem nrm_le {code : List Ins} (hs : SkipOk code) : ∀ (k : Nat) (l : Lcl), l.pc ≤ code.length → (nrm code k l).pc ≤ code.length
  | 0, l, h => h
  | k + 1, l, h => by
    rw [nrm]
    cases hl : stepI code l with
    | none => exact h
    | some l' => exact nrm_le hs k l' (stepI_le hs hl)

theorem afterL_le {code : List Ins} (hs : SkipOk code) {l : Lcl} {i : Ins} (hn : nextI code l = some i) (v : Int) : (afterL code l v).pc ≤ code.length ∧ stepI code (afterL code l v) = none := by
  have hk := nextI_kind hn
  unfold afterL
  rw [hn]
  refine ⟨nrm_le hs _ _ ?_, normL_done _ _⟩
  show l.pc + 1 ≤ _
  omega

theorem end_pc {code : List Ins} (hg : GoodC code) {l : Lcl} (h0 : 0 ≤ l.pc) (h1 : l.pc ≤ code.length) (hs : stepI code l = none) (hn : nextI code l = none) : l.pc = code.length := by
  rcases Nat.lt_or_ge l.pc.toNat code.length with h | h
  · exfalso
    have hi : code[l.pc.toNat]? = some code[l.pc.toNat] := List.getElem?_eq_getElem h
    generalize code[l.pc.toNat] = i at hi
    have hk := (hg i (List.mem_of_getElem? hi)).kind
    unfold nextI at hn
    unfold stepI at hs
    rw [if_pos h0, hi] at hn hs
    dsimp only at hn hs
    by_cases h4 : 1 ≤ i.kind ∧ i.kind ≤ 4
    · rw [if_pos h4] at hn; cases hn
    · by_cases h5 : i.kind = 5
      · rw [if_pos h5] at hs; cases hs
      · rw [if_neg h5, if_pos (by omega)] at hs
        split at hs <;> cases hs
  · omega

section
variable {E : Env}

theorem ends_inner (hE : jacquardlaw6_ProgEnds_In E) {pa pb pc : Cell} {P : PProg} {h : AHeap} (p : ProgAt h [pa, pb, pc] P) (hsm : P.small) {t : Nat} {code : List Ins} (ht : P.thr[t]? = some code) (hsk : SkipOk code) (hg : GoodC code) {v : Cell} {vals : List Int} (hv : SlAt h v 1 (intC .i64 vals) vals.length) :
    ∀ (d : Nat) (x : Lcl) (n : Nat), (code.length : Int) - x.pc ≤ d → stepI code x = none → 0 ≤ x.pc → x.pc ≤ code.length → (n : Int) ≤ x.pc →
      ∃ x' : Lcl, Lim (jacquardlaw6_ProgEnds_F1 (R E) Lim E.glob) (jacquardlaw6_ProgEnds_s1 v (t : Int) (n : Int) [pa, pb, pc] x.cs h) = some (.exit 2, jacquardlaw6_ProgEnds_x1_3 v (t : Int) [pa, pb, pc] x'.cs h) ∧ nextI code x' = none ∧ x'.pc = code.length := by
  have hcode : P.code (t : Int) = code := by unfold PProg.code; rw [if_pos (by omega), List.getD_eq_getElem?_getD, Int.toNat_natCast, ht]; rfl
  have hlen := hsm.2 code (List.mem_of_getElem? ht)
  have a2 : ∀ {α : Type} (f : Cell → Option α), atK [pa, pb, pc] 2 f = f pc := fun _ => rfl
  have p' := p
  obtain ⟨_, _, _, ts, e, _, _, ⟨hc, hcl⟩, hts⟩ := p'
  cases e
  obtain ⟨w, y1, y2, y3⟩ := hts t code ht
  have htl := getI_lt ht
  intro d
  induction d with
  | zero =>
    intro x n hd hs h0 h1 hn
    have hnx : nextI code x = none := by
      cases hq : nextI code x with
      | none => rfl
      | some i => have := nextI_kind hq; omega
    refine ⟨x, Lim_exit ?_, hnx, by omega⟩
    rw [jacquardlaw6_ProgEnds_r1, if_pos ⟨rfl, rfl⟩, if_pos ⟨rfl, rfl⟩, PNext_R hE.c105 p, hcode, hnx, c2_ok, asA_ok, asB_ok, if_pos ⟨rfl, rfl, rfl⟩]
    rfl
  | succ d ih =>
    intro x n hd hs h0 h1 hn
    cases hq : nextI code x with
    | none =>
      refine ⟨x, Lim_exit ?_, hq, end_pc hg h0 h1 hs hq⟩
      rw [jacquardlaw6_ProgEnds_r1, if_pos ⟨rfl, rfl⟩, if_pos ⟨rfl, rfl⟩, PNext_R hE.c105 p, hcode, hq, c2_ok, asA_ok, asB_ok, if_pos ⟨rfl, rfl, rfl⟩]
      rfl
    | some i =>
      have hk := nextI_kind hq
      have b5 : (i.kind == 5) = false := by rw [beq_eq_false_iff_ne]; omega
      have b6 : (i.kind == 6) = false := by rw [beq_eq_false_iff_ne]; omega
      have bn : decide ((n : Int) ≥ (code.length : Int)) = false := decide_eq_false (by omega)
      have step : ∀ u : Int, ∃ x' : Lcl, Lim (jacquardlaw6_ProgEnds_F1 (R E) Lim E.glob) (jacquardlaw6_ProgEnds_s1 v (t : Int) ((n + 1 : Nat) : Int) [pa, pb, pc] (afterL code x u).cs h) = some (.exit 2, jacquardlaw6_ProgEnds_x1_3 v (t : Int) [pa, pb, pc] x'.cs h) ∧ nextI code x' = none ∧ x'.pc = code.length := fun u => by
        have q1 := afterL_pc hq u
        obtain ⟨q2, q3⟩ := afterL_le hsk hq u
        exact ih (afterL code x u) (n + 1) (by omega) q3 (by omega) q2 (by omega)
      have l0 : ∀ {α : Type} (y : Lcl) (f : Cell → Option α), atK y.cs 0 f = f (.int .i64 y.pc) := fun _ _ => rfl
      have ble : ∀ u : Int, decide ((afterL code x u).pc ≤ x.pc) = false := fun u => decide_eq_false (by have := afterL_pc hq u; omega)
      have hP := fun u => PAfter_R hE.c106 hsm.fits p (t : Int) x u
      rw [hcode] at hP
      by_cases hvl : vals.length = 0
      · obtain ⟨x', s1, s2, s3⟩ := step 0
        refine ⟨x', Lim_next ?_ s1, s2, s3⟩
        rw [jacquardlaw6_ProgEnds_r1, if_pos ⟨rfl, rfl⟩, if_pos ⟨rfl, rfl⟩, PNext_R hE.c105 p, hcode, hq, c2_ok, asA_ok, asB_ok, if_pos ⟨rfl, rfl, rfl⟩, if_neg (show ¬ (!(some i : Option Ins).isSome) = true by simp), show (some i : Option Ins).getD Ins.zero = i from rfl, ins_kind, asI_ok, ins_kind, asI_ok, scK_or, b5, b6, a2, hc.get1 htl y1, y2.len, scK_or, bn, if_neg (by simp), hv.len, if_neg (show ¬ decide ((vals.length : Int) > 0) = true by rw [decide_eq_true_eq]; omega), if_pos ⟨rfl, rfl⟩, if_pos ⟨rfl, rfl⟩, hP, c1_ok, asA_ok, if_pos ⟨rfl, rfl, rfl⟩, l0, asI_ok, l0, asI_ok, ble, if_neg (by simp), if_pos ⟨rfl, rfl⟩, if_pos ⟨rfl, rfl, rfl⟩, g_succ (by omega)]
      · have hrem : E.glob.rem .i64 (n : Int) (vals.length : Int) = ((n % vals.length : Nat) : Int) := by
          rw [g_rem, Int.tmod_eq_emod_of_nonneg (by omega)]; rfl
        have hml : n % vals.length < vals.length := Nat.mod_lt _ (by omega)
        have hgv := getDI hml
        obtain ⟨x', s1, s2, s3⟩ := step (vals.getD (n % vals.length) 0)
        refine ⟨x', Lim_next ?_ s1, s2, s3⟩
        rw [jacquardlaw6_ProgEnds_r1, if_pos ⟨rfl, rfl⟩, if_pos ⟨rfl, rfl⟩, PNext_R hE.c105 p, hcode, hq, c2_ok, asA_ok, asB_ok, if_pos ⟨rfl, rfl, rfl⟩, if_neg (show ¬ (!(some i : Option Ins).isSome) = true by simp), show (some i : Option Ins).getD Ins.zero = i from rfl, ins_kind, asI_ok, ins_kind, asI_ok, scK_or, b5, b6, a2, hc.get1 htl y1, y2.len, scK_or, bn, if_neg (by simp), hv.len, if_pos (show decide ((vals.length : Int) > 0) = true from decide_eq_true (by omega)), hv.len, if_neg (show ¬ ((vals.length : Int) = 0) by omega), hrem, hv.get1 hml (intC_get hgv), asI_ok, if_pos ⟨rfl, rfl⟩, if_pos ⟨rfl, rfl⟩, hP, c1_ok, asA_ok, if_pos ⟨rfl, rfl, rfl⟩, l0, asI_ok, l0, asI_ok, ble, if_neg (by simp), if_pos ⟨rfl, rfl⟩, if_pos ⟨rfl, rfl, rfl⟩, g_succ (by omega)]

theorem ProgEnds_law (hE : jacquardlaw6_ProgEnds_In E) {h : AHeap} {c0 c1 : List Cell} (o0 : okC h (.sl (.i .i64)) c0) (o1 : okC h (.sl (.i .i64)) c1) :
    ∃ h', R E 233 [av1 (.sl (.i .i64)) c0, av1 (.sl (.i .i64)) c1] h = some ([.c (.bool true)], h') := by
  obtain ⟨x, l, e0, hx, hlow, _, hm⟩ := arg_ints o0
  obtain ⟨v, vals, e1, hv, hlv, _, hmv⟩ := arg_ints o1
  rw [e0, e1]
  suffices hh : ∃ h', jacquardlaw6_ProgEnds.body (R E) Lim E.glob [.c x, .c v] h = some ([.c (.bool true)], h') by
    obtain ⟨h', hh⟩ := hh; exact ⟨h', R_intro hE.fn hh⟩
  obtain ⟨cs, h1, P, f1, p, g, k1⟩ := Of6_R hE.c76 hx hlow (by unfold maxLen at hm; omega) (most := 12) (by omega)
  have hn := g.n
  have p' := p
  obtain ⟨pa, pb, pc, ts, rfl, _, _, ⟨hc, hcl⟩, hts⟩ := p'
  have a2 : ∀ {α : Type} (f : Cell → Option α), atK [pa, pb, pc] 2 f = f pc := fun _ => rfl
  rw [show ((12 : Nat) : Int) = 12 from rfl] at f1
  have hv1 := hv.keep hlv k1
  have hloop : Lim (jacquardlaw6_ProgEnds_F2 (R E) Lim E.glob) (jacquardlaw6_ProgEnds_s2 v ((0 : Nat) : Int) [pa, pb, pc] h1) = some (.exit 0, jacquardlaw6_ProgEnds_x2_1 h1) := by
    refine Lim_count (fun i => jacquardlaw6_ProgEnds_s2 v (i : Int) [pa, pb, pc] h1) 0 P.thr.length (by omega) (fun t _ ht => ?_) (Lim_exit ?_)
    · have hq : P.thr[t]? = some P.thr[t] := List.getElem?_eq_getElem ht
      generalize P.thr[t] = code at hq
      have hcm := List.mem_of_getElem? hq
      have hcode : P.code (t : Int) = code := by unfold PProg.code; rw [if_pos (by omega), List.getD_eq_getElem?_getD, Int.toNat_natCast, hq]; rfl
      obtain ⟨w, y1, y2, y3⟩ := hts t code hq
      have hst : startL P (t : Int) = normL code Lcl.zero := by unfold startL; rw [hcode]
      have hs0 : 0 ≤ (normL code Lcl.zero).pc := normL_pc code Lcl.zero
      have hs1 : (normL code Lcl.zero).pc ≤ code.length := nrm_le (g.skip code hcm) _ _ (by show (0 : Int) ≤ _; omega)
      obtain ⟨x', z1, z2, z3⟩ := ends_inner hE p g.small hq (g.skip code hcm) (g.good.2 code hcm) hv1 code.length (normL code Lcl.zero) 0 (by omega) (normL_done _ _) hs0 hs1 hs0
      have hA := PAfter_R hE.c106 g.small.fits p (t : Int) x' 5
      have haf : afterL (P.code (t : Int)) x' 5 = x' := by unfold afterL; rw [hcode, z2]
      rw [haf] at hA
      have l0 : ∀ {α : Type} (y : Lcl) (f : Cell → Option α), atK y.cs 0 f = f (.int .i64 y.pc) := fun _ _ => rfl
      have hal : alike x'.cs [Cell.int .i64 0, Cell.int .i64 0, Cell.int .i64 0, Cell.int .i64 0, Cell.int .i64 0] = true := rfl
      rw [show ((0 : Nat) : Int) = 0 from rfl] at z1
      rw [jacquardlaw6_ProgEnds_r2, a2, hc.len, if_pos (by simp; omega), if_pos ⟨rfl, rfl⟩, PStart_R hE.c94 g.small.fits p, hst, c1_ok, asA_ok, if_pos ⟨rfl, rfl, rfl⟩, z1, bind_ok, jacquardlaw6_ProgEnds_e1_3, l0, asI_ok, a2, hc.get1 ht y1, y2.len, z3, bne_self_eq_false, scK_ok, if_pos ⟨rfl, rfl⟩, if_pos ⟨rfl, rfl⟩, hA, qh_ok, c1_ok, asA_ok, if_pos ⟨rfl, rfl⟩, if_pos ⟨hal, hal⟩, bind_ok]
      dsimp only
      rw [show (!(decide (x'.cs = x'.cs))) = false by simp, if_neg (by simp), g_succ (by omega)]
    · rw [jacquardlaw6_ProgEnds_r2, a2, hc.len, if_neg (by simp)]
  rw [show ((0 : Nat) : Int) = 0 from rfl] at hloop
  rw [jacquardlaw6_ProgEnds_eq, f1, c1_ok, asA_ok, if_pos ⟨rfl, rfl, rfl⟩, hloop, bind_ok, jacquardlaw6_ProgEnds_e2_1, awake6_R hE.c95, c1_ok, asB_ok]
  exact ⟨_, rfl⟩

end
end Jq

/- ProgEnds: whatever the input the call says true, and each argument reads behind it as before. No conditions. -/
namespace Go.Proofs.Ytldfafaiappibaa.LProgEnds
open Go Jq Go.ChangeShapes Go.WideShapes Go.ChangeAt Go.RowKit
set_option linter.unusedVariables false

theorem own : ownKnob Try.prog.godebug = none := by kernel_rfl
theorem laidOut : laidOutB Try.prog = true := by kernel_rfl

set_option maxRecDepth 100000 in
theorem lifted (os : Os) (started : os.Started) (H : Type) (enc : TypeId × Value → H) :
    ReturnsInHanded {} Try.checked os 12 .any (Rows.progEndsSpec.pre6 enc Try.prog Try.f12 Rows.progEndsRow.domain false) (Rows.progEndsSpec.post enc Try.prog Try.f12 false true false false) := by
  refine returnsInHanded_of_change (C := Try.checked) own started (by kernel_rfl) Try.func12
    (ChangeSpec.witness6 (enc := enc) (C := Try.checked) false ⟨#[], #[.slice none 0 0, .slice none 0 0], []⟩ 8 (by kernel_rfl) (by kernel_rfl) (by kernel_rfl) (by kernel_rfl)) ?_
  intro W base args ds gs before hval0 hW hcnd _
  have hval : ∀ (j : Nat) t v, Try.f12.params[j]? = some t → args[j]? = some v → Value.okWide Try.prog W .any base t v := hval0
  have hW' := hW
  obtain ⟨p, q, hA0, hV, rfl, hfz, hnd⟩ := hW
  have hA : DataW.TrodAll enc Try.prog W 0 (fun _ => true) true Try.f12.params.toList args.toList ds p := hA0
  rw [Try.params12] at hA hval
  obtain ⟨v0, vs0, d0, ds0, p0, q0, hargs, rfl, rfl, h0, r0⟩ := trodAll_cons hA
  obtain ⟨v1, vs1, d1, ds1, p1, q1, rfl, rfl, rfl, h1, r1⟩ := trodAll_cons r0
  obtain ⟨rfl, rfl, rfl⟩ := trodAll_nil r1
  obtain rfl : args = #[v0, v1] := by cases args; simp_all
  obtain ⟨rfl, rfl⟩ := trodVars_none hV
  have lt0 : ∀ x ∈ p0, x.block < W.heap.size := by obtain ⟨m, hm⟩ := h0; exact DataW.trod_lt m _ _ _ hm
  have lt1 : ∀ x ∈ p1, x.block < W.heap.size := by obtain ⟨m, hm⟩ := h1; exact DataW.trod_lt m _ _ _ hm
  have c := Come.nil (S := seat) (W := W) (fun _ => rfl)
  have k0 : ((.sl (.i .i64)) : Sh).chk seat.P 22 = true := by kernel_rfl
  obtain ⟨b0, ρ0, cs0, c0, e0, x0, a0, o0⟩ := opens_arg (S := seat) (W := W) (sh := (.sl (.i .i64))) k0 h0 (wide_of k0 (hval 0 22 v0 rfl rfl)) ⟨nofun, nofun⟩ c
  have k1 : ((.sl (.i .i64)) : Sh).chk seat.P 23 = true := by kernel_rfl
  obtain ⟨b1, ρ1, cs1, c1, e1, x1, a1, o1⟩ := opens_arg (S := seat) (W := W) (sh := (.sl (.i .i64))) k1 h1 (wide_of k1 (hval 1 23 v1 rfl rfl)) ⟨nofun, nofun⟩ c0
  obtain ⟨h', hR⟩ := ProgEnds_law (E := env) in_233 (okC_mono x1 _ _ o0) o1
  refine (law_call (S := seat) (R_sound (S := seat) (E := env) rfl allOk) c1 (vals := #[v0, v1]) (L2.cons (relA.mono e1 a0) (L2.cons a1 L2.nil)) hR).mono fun e W' ⟨he, bel⟩ => ?_
  subst he
  exact ⟨_, rfl, _, _, _, [], _, [], hW', trodAll_mk1 (shut_bool Try.underlying4 _), (trodAll_cons_mk (Below.trod laidOut (by kernel_rfl) (of_decide_eq_true (by kernel_rfl)) h0 bel lt0) (trodAll_cons_mk (Below.trod laidOut (by kernel_rfl) (of_decide_eq_true (by kernel_rfl)) h1 bel lt1) trodAll_mk0)), rfl, bel.frame _, fun h => by cases h⟩

theorem over : Rows.progEndsRow.holds Try.pinned (OpenSpec.ofChange Rows.progEndsSpec) :=
  OpenClaim.holds_of_wide 12 Try.f12 rfl rfl rfl rfl rfl rfl rfl ⟨rfl, rfl, rfl, rfl, rfl⟩ rfl rfl rfl rfl rfl (by kernel_rfl) Try.func12 (by kernel_rfl)
    (of_decide_eq_true (by kernel_rfl)) (by unfold Func.isWrapper; first | (rw [if_pos (by decide +kernel)]; kernel_rfl) | (rw [if_neg (by decide +kernel)]; exact ⟨rfl, rfl⟩))
    (fun os started H enc _ => lifted os started H enc)

theorem proved : Rows.ProgEndsSaid := over
#print axioms proved

end Go.Proofs.Ytldfafaiappibaa.LProgEnds

