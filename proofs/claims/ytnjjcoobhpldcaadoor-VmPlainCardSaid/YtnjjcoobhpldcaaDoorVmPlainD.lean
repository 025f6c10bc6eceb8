/- YtnjjcoobhpldcaaDoorVmPlainD: a part of the proof; no conditions of its own. -/
import Derived.Test.YtnjjcoobhpldcaaDoorRows
import Derived.WalkKit
import Derived.ProofKit
import Derived.OpenShut
import Derived.ShutString
import Derived.ChangeOld
import Derived.Below
import Derived.Carry
import Derived.Test.YtnjjcoobhpldcaaDoorCards
import Derived.Test.YtnjjcoobhpldcaaDoorTie
import Derived.SevenTiedAt
import Derived.LaidMore
import Derived.Stop.Joined
import Derived.Lib.LaidTab
import Derived.MakeChecks
import Derived.LaidHandle
import Derived.Stop.LaidErr
import Derived.Test.YtnjjcoobhpldcaaDoorVmPlainC
set_option linter.unusedVariables false
set_option linter.unusedSimpArgs false

/- Machines: how long one goes on. -/
namespace Jq
open Go

def MV.sumB (V : MV) : Int := (V.b 0).length + (V.b 1).length + (V.b 2).length + (V.b 3).length
def MV.sumP (V : MV) : Int := (V.l 0).pc + (V.l 1).pc + (V.l 2).pc + (V.l 3).pc
def isSt (m : Int) (s : Stp) : Bool := s.kind == 2 && m != 1
def isFl (s : Stp) : Bool := s.kind == 6
def MV.skips (V : MV) : Prop := ∀ c ∈ V.P.thr, SkipOk c

structure MV.Inv2 (V : MV) : Prop where
  le : ∀ t, t < 4 → (V.l t).pc ≤ (V.P.code t).length
  ms : (V.st.length : Int) + V.sumB ≤ 2 * V.sumP
  m1 : V.m = 1 → ∀ t, V.b t = []
  bal : (V.st.countP (isSt V.m) : Int) = V.st.countP isFl + V.sumB

theorem sum4 {f g : Nat → Int} {i : Nat} {d : Int} (hi : i < 4) (h : ∀ t, g t = if t = i then f i + d else f t) : g 0 + g 1 + g 2 + g 3 = f 0 + f 1 + f 2 + f 3 + d := by
  match i with
  | 0 => have h0 := h 0; have h1 := h 1; have h2 := h 2; have h3 := h 3; simp at h0 h1 h2 h3; omega
  | 1 => have h0 := h 0; have h1 := h 1; have h2 := h 2; have h3 := h 3; simp at h0 h1 h2 h3; omega
  | 2 => have h0 := h 0; have h1 := h 1; have h2 := h 2; have h3 := h 3; simp at h0 h1 h2 h3; omega
  | 3 => have h0 := h 0; have h1 := h 1; have h2 := h 2; have h3 := h 3; simp at h0 h1 h2 h3; omega
  | i + 4 => omega

theorem code_skip {P : PProg} (h : ∀ c ∈ P.thr, SkipOk c) (t : Int) : SkipOk (P.code t) := by
  unfold PProg.code
  split
  · rw [List.getD_eq_getElem?_getD]
    cases hq : P.thr[t.toNat]? with
    | none => intro j i hi; simp at hi
    | some c => exact h c (List.mem_of_getElem? hq)
  · intro j i hi; simp at hi

theorem startL_le {P : PProg} (h : ∀ c ∈ P.thr, SkipOk c) (t : Int) : (startL P t).pc ≤ (P.code t).length := by
  unfold startL normL
  exact nrm_le (code_skip h t) _ _ (by show (0 : Int) ≤ _; omega)

/-- All of a program's instructions. -/
theorem sum_codes {P : PProg} (h4 : P.thr.length ≤ 4) : ((P.code 0).length : Int) + (P.code 1).length + (P.code 2).length + (P.code 3).length = sumL P.thr := by
  have hc : ∀ t : Nat, P.code (t : Int) = P.thr.getD t [] := fun t => by unfold PProg.code; rw [if_pos (by omega), Int.toNat_natCast]
  have e0 := hc 0; have e1 := hc 1; have e2 := hc 2; have e3 := hc 3
  rw [show ((0 : Nat) : Int) = 0 from rfl] at e0
  rw [show ((1 : Nat) : Int) = 1 from rfl] at e1
  rw [show ((2 : Nat) : Int) = 2 from rfl] at e2
  rw [show ((3 : Nat) : Int) = 3 from rfl] at e3
  rw [e0, e1, e2, e3]
  unfold sumL
  generalize P.thr = l at *
  match l with
  | [] => rfl
  | [a] => simp
  | [a, b] => simp
  | [a, b, c] => simp <;> omega
  | [a, b, c, d] => simp <;> omega
  | a :: b :: c :: d :: e :: r => simp at h4

theorem MV.Inv2.most {V : MV} (w : V.Inv2) (h4 : V.P.thr.length ≤ 4) : (V.st.length : Int) ≤ 2 * sumL V.P.thr := by
  have := w.ms
  have h := sum_codes h4
  have l0 := w.le 0 (by omega); have l1 := w.le 1 (by omega); have l2 := w.le 2 (by omega); have l3 := w.le 3 (by omega)
  rw [show ((0 : Nat) : Int) = 0 from rfl] at l0
  rw [show ((1 : Nat) : Int) = 1 from rfl] at l1
  rw [show ((2 : Nat) : Int) = 2 from rfl] at l2
  rw [show ((3 : Nat) : Int) = 3 from rfl] at l3
  unfold MV.sumB MV.sumP at this
  omega

theorem MV.new_inv2 {P : PProg} {m : Int} (hs : ∀ c ∈ P.thr, SkipOk c) : (MV.new P m).Inv2 := by
  have hb : (MV.new P m).sumB = 0 := by unfold MV.sumB; simp only [new_b]; rfl
  refine ⟨fun t ht => ?_, ?_, fun _ t => new_b P m t, ?_⟩
  · match t with
    | 0 => exact startL_le hs 0
    | 1 => exact startL_le hs 1
    | 2 => exact startL_le hs 2
    | 3 => exact startL_le hs 3
    | t + 4 => omega
  · rw [hb]
    have h0 : 0 ≤ ((MV.new P m).l 0).pc := startL_pc P 0
    have h1 : 0 ≤ ((MV.new P m).l 1).pc := startL_pc P 1
    have h2 : 0 ≤ ((MV.new P m).l 2).pc := startL_pc P 2
    have h3 : 0 ≤ ((MV.new P m).l 3).pc := startL_pc P 3
    show ((0 : Nat) : Int) + 0 ≤ 2 * MV.sumP _
    unfold MV.sumP
    omega
  · rw [hb]; rfl

theorem MV.nx_l (V : MV) (i t : Nat) : (V.nx i).l t = (if i < 4 then V.thrM i (V.thrI i) else if i < 8 then V.fluM (i - 4) 0 else V.fluM ((i - 8) / 4) (((i - 8) % 4 : Nat) : Int)).l t := rfl

/-- Whose flush a pick is, and of which store. -/
theorem MV.may_flu {V : MV} {i : Nat} (h4 : ¬ i < 4) (hi : V.may i = true) : ∃ (t : Nat) (loc : Int) (e : Ent), t < 4 ∧ (V.b t).find? (oldP (bmod V.m) loc) = some e ∧ V.stp i = ⟨i, t, 6, e.loc, 0, e.val, e.id⟩ ∧ (V.m ≠ 1) ∧
    (V.nx i) = { V with bf := V.bf.set t ((V.b t).eraseP (oldP (bmod V.m) loc)), mem := V.mem.set e.loc.toNat e.val, frm := V.frm.set e.loc.toNat e.id, st := V.st ++ [V.stp i] } := by
  have h24 := MV.may_lt hi
  have key : ∀ (t : Nat) (loc : Int) (e : Ent), (V.b t).find? (oldP (bmod V.m) loc) = some e → V.stp i = { V.fluS t loc with pick := i } → V.nx i = { V.fluM t loc with st := V.st ++ [V.stp i] } →
      V.stp i = ⟨i, t, 6, e.loc, 0, e.val, e.id⟩ ∧ (V.nx i) = { V with bf := V.bf.set t ((V.b t).eraseP (oldP (bmod V.m) loc)), mem := V.mem.set e.loc.toNat e.val, frm := V.frm.set e.loc.toNat e.id, st := V.st ++ [V.stp i] } := by
    intro t loc e he e1 e2
    have hee : V.fluE t loc = e := by unfold MV.fluE; rw [he]; rfl
    refine ⟨?_, ?_⟩
    · rw [e1]; unfold MV.fluS; rw [hee]
    · rw [e2]; unfold MV.fluM; rw [hee]
  by_cases h8 : i < 8
  · have hi' := hi
    unfold MV.may MV.mayF at hi'
    rw [if_neg h4, if_pos h8, Bool.and_eq_true] at hi'
    have hm2 : V.m = 2 := beq_iff_eq.1 hi'.1
    have hne : (V.b (i - 4)).length ≠ 0 := by simpa using hi'.2
    obtain ⟨e, he⟩ : ∃ e, (V.b (i - 4)).find? (oldP (bmod V.m) 0) = some e := by
      rw [hm2]
      cases hbb : V.b (i - 4) with
      | nil => rw [hbb] at hne; exact absurd rfl hne
      | cons e l => exact ⟨e, rfl⟩
    obtain ⟨k1, k2⟩ := key (i - 4) 0 e he (by unfold MV.stp; rw [if_neg h4, if_pos h8]) (by unfold MV.nx; rw [if_neg h4, if_pos h8])
    exact ⟨i - 4, 0, e, by omega, he, k1, by omega, k2⟩
  · have hi' := hi
    unfold MV.may MV.mayL at hi'
    rw [if_neg h4, if_neg h8, if_pos h24, Bool.and_eq_true] at hi'
    have hm3 : V.m = 3 := beq_iff_eq.1 hi'.1
    obtain ⟨e, he⟩ := Option.isSome_iff_exists.1 hi'.2
    have he' : (V.b ((i - 8) / 4)).find? (oldP (bmod V.m) (((i - 8) % 4 : Nat) : Int)) = some e := by rw [hm3]; exact he
    obtain ⟨k1, k2⟩ := key ((i - 8) / 4) _ e he' (by unfold MV.stp; rw [if_neg h4, if_neg h8]) (by unfold MV.nx; rw [if_neg h4, if_neg h8])
    exact ⟨(i - 8) / 4, _, e, by omega, he', k1, by omega, k2⟩

theorem MV.Inv.inv2_nx {V : MV} (v : V.Inv) (w : V.Inv2) (hs : V.skips) {i : Nat} (hi : V.may i = true) : (V.nx i).Inv2 := by
  have hmm : (V.nx i).m = V.m := (V.nx_P i).2
  have hPP : (V.nx i).P = V.P := (V.nx_P i).1
  have hst : (V.nx i).st = V.st ++ [V.stp i] := V.nx_st i
  by_cases h4 : i < 4
  · have hq := MV.may_thr h4 hi
    have hl : ∀ t, (V.nx i).l t = if t = i then afterL (V.P.code i) (V.l i) (V.val i (V.thrI i)).1 else V.l t := fun t => by rw [V.nx_l, if_pos h4, v.thrL h4]
    have hb : ∀ t, (V.nx i).b t = if t = i ∧ isSt V.m (V.stp i) = true then V.b i ++ [⟨(V.stp i).loc, (V.stp i).w, V.st.length⟩] else V.b t := fun t => by
      have e : V.stp i = { V.thrS i (V.thrI i) with pick := i } := by unfold MV.stp; rw [if_pos h4]
      rw [V.nx_b, if_pos h4, v.thrB h4, e]
      have hiff : isSt V.m { V.thrS i (V.thrI i) with pick := i } = true ↔ ((evOf (V.thrI i) (V.l i) (V.val i (V.thrI i)).1).kind = 2 ∧ V.m ≠ 1) := by
        unfold isSt
        rw [Bool.and_eq_true, beq_iff_eq, bne_iff_ne]
        exact Iff.rfl
      by_cases hc : t = i ∧ (evOf (V.thrI i) (V.l i) (V.val i (V.thrI i)).1).kind = 2 ∧ V.m ≠ 1
      · rw [if_pos hc, if_pos ⟨hc.1, hiff.2 hc.2⟩]; rfl
      · rw [if_neg hc, if_neg (fun q => hc ⟨q.1, hiff.1 q.2⟩)]
    have hk : isFl (V.stp i) = false := by
      have : (V.stp i).kind = (evOf (V.thrI i) (V.l i) (V.val i (V.thrI i)).1).kind := by unfold MV.stp; rw [if_pos h4]; rfl
      have := evOf_kinds (V.thrI i) (V.l i) (V.val i (V.thrI i)).1
      unfold isFl
      exact beq_false_of_ne (by omega)
    obtain ⟨a1, _⟩ := afterL_le (code_skip hs i) hq (V.val i (V.thrI i)).1
    have a2 : (V.l i).pc + 1 ≤ (afterL (V.P.code i) (V.l i) (V.val i (V.thrI i)).1).pc := afterL_pc hq _
    have sP : (V.nx i).sumP = V.sumP + ((afterL (V.P.code i) (V.l i) (V.val i (V.thrI i)).1).pc - (V.l i).pc) := by
      unfold MV.sumP
      exact sum4 (f := fun t => (V.l t).pc) (g := fun t => ((V.nx i).l t).pc) h4 fun t => by
        try dsimp only
        rw [hl]
        by_cases e : t = i
        · rw [if_pos e, if_pos e]; omega
        · rw [if_neg e, if_neg e]
    have sB : (V.nx i).sumB = V.sumB + (if isSt V.m (V.stp i) = true then 1 else 0) := by
      unfold MV.sumB
      exact sum4 (f := fun t => ((V.b t).length : Int)) (g := fun t => (((V.nx i).b t).length : Int)) h4 fun t => by
        try dsimp only
        rw [hb]
        by_cases e : t = i
        · by_cases hs : isSt V.m (V.stp i) = true
          · rw [if_pos ⟨e, hs⟩, if_pos e, if_pos hs, List.length_append, List.length_singleton]; omega
          · rw [if_neg (fun c => hs c.2), if_pos e, if_neg hs, e]; omega
        · rw [if_neg (fun c => e c.1), if_neg e]
    refine ⟨fun t ht => ?_, ?_, fun hm t => ?_, ?_⟩
    · rw [hl, hPP]
      split
      · rename_i e; rw [e]; exact a1
      · exact w.le t ht
    · have := w.ms
      rw [hst, sP, sB, List.length_append, List.length_singleton]
      split <;> omega
    · rw [hmm] at hm
      have hns : ¬ (t = i ∧ isSt V.m (V.stp i) = true) := fun c => by
        have := c.2
        rw [hm] at this
        simp [isSt] at this
      rw [hb, if_neg hns]
      exact w.m1 hm t
    · have := w.bal
      rw [hst, sB, hmm, List.countP_append, List.countP_append, List.countP_singleton, List.countP_singleton, hk, if_neg (c := (false = true)) (by simp)]
      split <;> omega
  · obtain ⟨t, loc, e, ht, hf, hs', hm1, hnx⟩ := MV.may_flu h4 hi
    have hl : ∀ t, (V.nx i).l t = V.l t := fun t => by rw [hnx]; rfl
    have hb : ∀ t', (V.nx i).b t' = if t' = t then (V.b t).eraseP (oldP (bmod V.m) loc) else V.b t' := fun t' => by
      rw [hnx]
      show (V.bf.set t _).getD t' [] = _
      rw [getDset (by rw [v.fit.bf]; exact ht)]; rfl
    have hlen := countP_erase (q := fun _ => true) hf
    simp only [List.countP_true, if_true] at hlen
    have sP : (V.nx i).sumP = V.sumP := by unfold MV.sumP; rw [hl, hl, hl, hl]
    have sB : (V.nx i).sumB = V.sumB + (-1) := by
      unfold MV.sumB
      exact sum4 (f := fun t => ((V.b t).length : Int)) (g := fun t => (((V.nx i).b t).length : Int)) ht fun t' => by
        try dsimp only
        rw [hb]
        by_cases e : t' = t
        · rw [if_pos e, if_pos e]; omega
        · rw [if_neg e, if_neg e]
    refine ⟨fun t ht => by rw [hl, hPP]; exact w.le t ht, ?_, fun hm => absurd (hmm.symm.trans hm) hm1, ?_⟩
    · have := w.ms
      rw [hst, sP, sB, List.length_append, List.length_singleton]; omega
    · have := w.bal
      rw [hst, sB, hmm, List.countP_append, List.countP_append, List.countP_singleton, List.countP_singleton, hs', if_neg (by unfold isSt; simp), if_pos (by unfold isFl; simp)]
      omega

theorem MV.skips_nx {V : MV} (h : V.skips) (i : Nat) : (V.nx i).skips := by
  unfold MV.skips; rw [(V.nx_P i).1]; exact h

/-- If nothing may be picked nothing waits. -/
theorem MV.Inv.done {V : MV} (v : V.Inv) (w : V.Inv2) (h0 : V.word = 0) : V.sumB = 0 := by
  have hno : ∀ i, V.may i = false := fun i => by rw [← MV.word_bit, h0, Nat.zero_testBit]
  have hb : ∀ t, t < 4 → V.b t = [] := fun t ht => by
    have hm := v.fit.m
    rcases (show V.m = 1 ∨ V.m = 2 ∨ V.m = 3 by omega) with h1 | h2 | h3
    · exact w.m1 h1 t
    · have := hno (4 + t)
      rw [MV.may_cnt V (by omega) (by omega), MV.cnt2 h2, if_pos ⟨by omega, by omega⟩, show 4 + t - 4 = t by omega, decide_eq_false_iff_not] at this
      exact List.length_eq_zero_iff.1 (by omega)
    · cases hbb : V.b t with
      | nil => rfl
      | cons e l =>
        exfalso
        have he := v.mem_b (t := t) (e := e) (by rw [hbb]; exact List.mem_cons_self)
        have := hno (8 + (4 * t + e.loc.toNat))
        rw [MV.may_cnt V (by omega) (by omega), MV.cnt3 h3, if_pos ⟨by omega, by omega⟩, show (8 + (4 * t + e.loc.toNat) - 8) / 4 = t by omega, show (8 + (4 * t + e.loc.toNat) - 8) % 4 = e.loc.toNat by omega, decide_eq_false_iff_not, hbb, List.countP_cons, if_pos (show oldP 3 ((e.loc.toNat : Nat) : Int) e = true by unfold oldP; simp; omega)] at this
        omega
  unfold MV.sumB
  rw [hb 0 (by omega), hb 1 (by omega), hb 2 (by omega), hb 3 (by omega)]; rfl
end Jq

/- VmEnds: however it is picked a machine is done. -/
namespace Jq
open Go

theorem bits_none {V : MV} : (bitsL V.word).length = 0 ↔ V.word = 0 := by
  rw [List.length_eq_zero_iff]
  exact bitsL_nil V.word_lt

section
variable {E : Env}

end
end Jq

/- Machines: what a run's steps tell. -/

namespace Jq
open Go

/-- What a thread's step is. -/
structure ThrStep (V : MV) (i : Nat) (s : Stp) : Prop where
  t : s.t = (i : Int)
  kind : 1 ≤ s.kind ∧ s.kind ≤ 5
  loc : 0 ≤ s.loc ∧ s.loc < 4
  free : s.kind = 3 ∨ s.kind = 4 ∨ s.kind = 5 → V.b i = []
  read : s.kind = 1 ∨ s.kind = 4 ∨ s.kind = 5 → s.r = (match newE s.loc (V.b i) with | some e => e.val | none => V.mem.getD s.loc.toNat 0) ∧ s.frm = (match newE s.loc (V.b i) with | some e => e.id | none => V.frm.getD s.loc.toNat 0)
  b : ∀ t, (V.nx i).b t = if t = i ∧ isSt V.m s = true then V.b i ++ [⟨s.loc, s.w, V.st.length⟩] else V.b t
  mem : ∀ c, (V.nx i).mem.getD c 0 = if (s.kind = 4 ∨ (s.kind = 2 ∧ V.m = 1)) ∧ c = s.loc.toNat then s.w else V.mem.getD c 0
  frm : ∀ c, (V.nx i).frm.getD c 0 = if (s.kind = 4 ∨ (s.kind = 2 ∧ V.m = 1)) ∧ c = s.loc.toNat then (V.st.length : Int) else V.frm.getD c 0

theorem evOf_cases (q : Ins) (l : Lcl) (v : Int) (hk : 1 ≤ q.kind ∧ q.kind ≤ 4) : ((evOf q l v).kind = 3 ↔ q.kind = 3) ∧ (((evOf q l v).kind = 4 ∨ (evOf q l v).kind = 5) ↔ q.kind = 4) ∧ ((evOf q l v).kind = 1 ↔ q.kind = 2) ∧ ((evOf q l v).kind = 1 ∨ (evOf q l v).kind = 4 ∨ (evOf q l v).kind = 5 → (evOf q l v).r = v ∧ (evOf q l v).loc = q.loc ∧ rdI q = true) := by
  unfold evOf
  by_cases h1 : q.kind = 1
  · rw [if_pos h1]; dsimp only; refine ⟨by omega, by omega, by omega, fun h => by omega⟩
  · rw [if_neg h1]
    by_cases h2 : q.kind = 2
    · rw [if_pos h2]; dsimp only; exact ⟨by omega, by omega, by omega, fun _ => ⟨rfl, rfl, by unfold rdI; exact decide_eq_true (.inl h2)⟩⟩
    · rw [if_neg h2]
      by_cases h4 : q.kind = 4
      · rw [if_pos h4]
        have hr : rdI q = true := by unfold rdI; exact decide_eq_true (.inr h4)
        split <;> exact ⟨by dsimp only; omega, by dsimp only; omega, by dsimp only; omega, fun _ => ⟨rfl, rfl, hr⟩⟩
      · rw [if_neg h4]; dsimp only; exact ⟨by omega, by omega, by omega, fun h => by omega⟩

theorem MV.Inv.thr_step {V : MV} (v : V.Inv) {i : Nat} (h4 : i < 4) (hi : V.may i = true) : ThrStep V i (V.stp i) := by
  have f := v.fit
  have hq := MV.may_thr h4 hi
  have hS : V.stp i = { V.thrS i (V.thrI i) with pick := i } := by unfold MV.stp; rw [if_pos h4]
  have hN : V.nx i = { V.thrM i (V.thrI i) with st := V.st ++ [V.stp i] } := by unfold MV.nx; rw [if_pos h4]
  have hB := v.thrB h4 (V.thrI i)
  generalize hqq : V.thrI i = q at *
  obtain ⟨q1, q2, q3, q4, q5⟩ := v.nxt hq
  have hfree : q.kind = 3 ∨ q.kind = 4 → V.b i = [] := fun h => by
    unfold MV.may MV.mayT at hi
    rw [if_pos h4, hq] at hi
    dsimp only at hi
    have : (q.kind == 3 || q.kind == 4) = true := by rw [Bool.or_eq_true, beq_iff_eq, beq_iff_eq]; exact h
    rw [this] at hi
    simpa using hi
  obtain ⟨e1, e2, e3, e4⟩ := evOf_cases q (V.l i) (V.val i q).1 q2
  have hev := evOf_loc (l := V.l i) (v := (V.val i q).1) q1
  have hkk := evOf_kinds q (V.l i) (V.val i q).1
  generalize hee : evOf q (V.l i) (V.val i q).1 = e at *
  have eS : V.stp i = ⟨i, i, e.kind, e.loc, e.r, e.w, if rdI q = true then (V.val i q).2 else -1⟩ := by
    rw [hS]; unfold MV.thrS; rw [hee]
  have hW : ∀ W : MV, W = V.wr i e → ∀ c, W.mem.getD c 0 = (if (e.kind = 4 ∨ (e.kind = 2 ∧ V.m = 1)) ∧ c = e.loc.toNat then e.w else V.mem.getD c 0) ∧ W.frm.getD c 0 = (if (e.kind = 4 ∨ (e.kind = 2 ∧ V.m = 1)) ∧ c = e.loc.toNat then (V.st.length : Int) else V.frm.getD c 0) := by
    rintro W rfl c
    unfold MV.wr
    by_cases h2 : e.kind = 2 ∧ V.m ≠ 1
    · rw [if_pos h2, if_neg (fun q => by omega), if_neg (fun q => by omega)]
      exact ⟨rfl, rfl⟩
    · rw [if_neg h2]
      by_cases hw : evWr e = true
      · have hw' : e.kind = 2 ∨ e.kind = 4 := by unfold evWr at hw; simpa using hw
        rw [if_pos hw]
        dsimp only
        rw [getDset (by rw [f.mem]; omega), getDset (by rw [f.frm]; omega)]
        by_cases hc : c = e.loc.toNat
        · rw [if_pos hc, if_pos hc, if_pos ⟨by omega, hc⟩, if_pos ⟨by omega, hc⟩]; exact ⟨rfl, rfl⟩
        · rw [if_neg hc, if_neg hc, if_neg (fun q => hc q.2), if_neg (fun q => hc q.2)]; exact ⟨rfl, rfl⟩
      · have hw' : ¬ (e.kind = 2 ∨ e.kind = 4) := by unfold evWr at hw; simpa using hw
        rw [if_neg hw, if_neg (fun q => by omega), if_neg (fun q => by omega)]
        exact ⟨rfl, rfl⟩
  refine ⟨by rw [eS], by rw [eS]; exact hkk, by rw [eS]; exact hev, fun h => ?_, fun h => ?_, fun t => ?_, fun c => ?_, fun c => ?_⟩
  · rw [eS] at h
    dsimp only at h
    refine hfree ?_
    rcases h with h | h
    · exact .inl (e1.1 h)
    · exact .inr (e2.1 h)
  · rw [eS] at h ⊢
    dsimp only at h ⊢
    obtain ⟨k1, k2, k3⟩ := e4 h
    rw [k3, if_pos rfl, k1, k2]
    unfold MV.val
    cases newE q.loc (V.b i) <;> exact ⟨rfl, rfl⟩
  · rw [hN]
    show (V.thrM i q).b t = _
    rw [hB, eS]
    have hiff : isSt V.m ⟨i, i, e.kind, e.loc, e.r, e.w, if rdI q = true then (V.val i q).2 else -1⟩ = true ↔ (e.kind = 2 ∧ V.m ≠ 1) := by
      unfold isSt
      rw [Bool.and_eq_true, beq_iff_eq, bne_iff_ne]
    by_cases hc : t = i ∧ e.kind = 2 ∧ V.m ≠ 1
    · rw [if_pos hc, if_pos ⟨hc.1, hiff.2 hc.2⟩]
    · rw [if_neg hc, if_neg (fun q => hc ⟨q.1, hiff.1 q.2⟩)]
  · rw [hN, eS]
    show (V.thrM i q).mem.getD c 0 = _
    unfold MV.thrM
    rw [hee]
    exact (hW (V.wr i e) rfl c).1
  · rw [hN, eS]
    show (V.thrM i q).frm.getD c 0 = _
    unfold MV.thrM
    rw [hee]
    exact (hW (V.wr i e) rfl c).2

/-- What a flush's step is. -/
structure FluStep (V : MV) (i : Nat) (s : Stp) (t : Nat) (p : Ent → Bool) (e : Ent) : Prop where
  t4 : t < 4
  s : s = ⟨i, t, 6, e.loc, 0, e.val, e.id⟩
  f : (V.b t).find? p = some e
  pe : ∀ x, p x = (decide (V.m = 2) || x.loc == e.loc)
  m : V.m = 2 ∨ V.m = 3
  b : ∀ t', (V.nx i).b t' = if t' = t then (V.b t).eraseP p else V.b t'
  mem : ∀ c, (V.nx i).mem.getD c 0 = if c = e.loc.toNat then e.val else V.mem.getD c 0
  frm : ∀ c, (V.nx i).frm.getD c 0 = if c = e.loc.toNat then e.id else V.frm.getD c 0

theorem MV.Inv.flu_step {V : MV} (v : V.Inv) {i : Nat} (h4 : ¬ i < 4) (hi : V.may i = true) : ∃ t p e, FluStep V i (V.stp i) t p e := by
  obtain ⟨t, loc, e, ht, hf, hs, hm1, hnx⟩ := MV.may_flu h4 hi
  have f := v.fit
  have hm := f.m
  have he := v.mem_b (List.mem_of_find?_eq_some hf)
  have hpe := List.find?_some hf
  refine ⟨t, oldP (bmod V.m) loc, e, ht, hs, hf, fun x => ?_, by omega, fun t' => ?_, fun c => ?_, fun c => ?_⟩
  · rcases (show V.m = 2 ∨ V.m = 3 by omega) with h | h
    · rw [h]; rfl
    · rw [h] at hpe ⊢
      have hl : e.loc = loc := by
        unfold oldP bmod at hpe
        simpa using hpe
      rw [hl]; rfl
  · rw [hnx]
    show (V.bf.set t _).getD t' [] = _
    rw [getDset (by rw [f.bf]; exact ht)]; rfl
  · rw [hnx]
    show (V.mem.set _ _).getD c 0 = _
    rw [getDset (by rw [f.mem]; omega)]
  · rw [hnx]
    show (V.frm.set _ _).getD c 0 = _
    rw [getDset (by rw [f.frm]; omega)]

/-- Stores that wait, and what has come to memory. -/
structure Hist (V : MV) : Prop where
  ids : ∀ t, (V.b t).Pairwise fun a b => a.id < b.id
  ent : ∀ t, ∀ e ∈ V.b t, ∃ k : Nat, e.id = (k : Int) ∧ ∃ s, V.st[k]? = some s ∧ s.kind = 2 ∧ s.t = (t : Int) ∧ s.loc = e.loc ∧ s.w = e.val ∧ ∀ (j : Nat) (u : Stp), V.st[j]? = some u → u.kind = 6 → u.frm ≠ e.id
  sto : ∀ (k : Nat) (s : Stp), V.st[k]? = some s → isSt V.m s = true → (∃ t : Nat, s.t = (t : Int) ∧ ∃ e ∈ V.b t, e.id = (k : Int)) ∨ ∃ (j : Nat) (u : Stp), k < j ∧ V.st[j]? = some u ∧ u.kind = 6 ∧ u.frm = (k : Int)
  flu : ∀ (j : Nat) (u : Stp), V.st[j]? = some u → u.kind = 6 → 0 ≤ u.t ∧ ∀ t : Nat, u.t = (t : Int) → ∀ e ∈ V.b t, (V.m = 3 → e.loc = u.loc) → u.frm < e.id
  b4 : ∀ t, 4 ≤ t → V.b t = []
  own : V.m = 1 → ∀ t, V.b t = []
  len : ∀ (k : Nat) (s : Stp), V.st[k]? = some s → s.kind = 6 → ∃ f : Nat, s.frm = (f : Int) ∧ f < k

theorem Hist.new (P : PProg) (m : Int) : Hist (MV.new P m) := by
  have hs : ∀ (k : Nat) (s : Stp), (MV.new P m).st[k]? = some s → False := fun k s h => by
    have : (MV.new P m).st = [] := rfl
    rw [this] at h; simp at h
  refine ⟨fun t => by rw [new_b]; exact List.Pairwise.nil, fun t e he => by rw [new_b] at he; simp at he, fun k s h => (hs k s h).elim, fun k s h => (hs k s h).elim, fun t _ => new_b P m t, fun _ t => new_b P m t, fun k s h => (hs k s h).elim⟩

end Jq

/- Machines of the document: how one lies in memory. -/
namespace Jq
open Go

/-- The block. -/
def rvC (pc : List Cell) (V : MV) (bs : List Cell) (x : Cell) : List Cell :=
  pc ++ (([.int .i64 V.m] : List Cell) ++ (intC .i64 V.mem ++ (intC .i64 V.frm ++ (V.lc.flatMap Lcl.cs ++ (bs ++ [x])))))

section
variable {V : MV} {pc bs : List Cell} {x : Cell} (f : V.Fit) (hpc : pc.length = 3) (hbs : bs.length = 4)

include f hpc

theorem rv_lensB : ∃ A : List Cell, A.length = 0 + 32 ∧ ∀ bs x, rvC pc V bs x = A ++ (bs ++ [x]) := by
  have e2 := flat_len (f.lcs hpc)
  have := f.lc; have := f.mem; have := f.frm
  refine ⟨pc ++ (([.int .i64 V.m] : List Cell) ++ (intC .i64 V.mem ++ (intC .i64 V.frm ++ V.lc.flatMap Lcl.cs))), ?_, fun bs x => ?_⟩
  · simp only [List.length_append, e2, hpc, List.length_cons, List.length_nil, intC_len]; omega
  · unfold rvC; simp only [List.append_assoc]

include hbs

theorem rv_len : (rvC pc V bs x).length = 37 := by
  obtain ⟨A, hA, e⟩ := rv_lensB f hpc
  rw [e]
  simp only [List.length_append, hA, hbs, List.length_cons, List.length_nil]

end

/-- It lies there. -/
structure RvAt (n : Nat) (h : AHeap) (k : Nat) (x : Cell) (bs pc : List Cell) (V : MV) : Prop where
  hn : n ≤ h.length
  nk : n ≤ k
  prog : ProgAt (h.take n) pc V.P
  blk : blk? h k = some ⟨true, 0, rvC pc V bs x⟩
  st : Own n h x 7 (stepsC V.st) V.st.length
  sep : ¬ isBlk x k
  bl : bs.length = 4
  bf : ∀ t, t < 4 → Own n h (bs.getD t .nils) 3 (entsC (V.b t)) (V.b t).length ∧ ¬ isBlk (bs.getD t .nils) k ∧ ∀ j, isBlk (bs.getD t .nils) j → ¬ isBlk x j

/-- What may be picked, of any number. -/
def mayI (V : MV) (i : Int) : Bool := decide (0 ≤ i) && V.may i.toNat

section
variable {E : Env}

/-- Whose flush, of which location. -/
def fluOf (m i : Int) : Int × Int × Bool :=
  if m = 2 ∧ 4 ≤ i ∧ i < 8 then (i - 4, -1, true) else if m = 3 ∧ 8 ≤ i ∧ i < 24 then ((i - 8) / 4, (i - 8) % 4, true) else (0, 0, false)

end
end Jq

/- Machines of the document: a pick is taken. -/
namespace Jq
open Go

theorem Own.via {n : Nat} {h h' : AHeap} {y : Cell} {esz len : Nat} {cs : List Cell} (o : Own n h y esz cs len) (hf : ∀ j b, isBlk y j → blk? h j = some b → blk? h' j = some b) : Own n h' y esz cs len := by
  refine ⟨o.1, o.2.imp id ?_⟩
  rintro ⟨j, rfl, h1, h2⟩
  exact ⟨j, rfl, h1, hf j _ rfl h2⟩

section
variable {E : Env}

end
end Jq

/- Machines of the document: a thread's pick; any pick. -/
namespace Jq
open Go

section
variable {E : Env}

end
end Jq

/- Machines of the document: at the beginning; what is told of them. -/
namespace Jq
open Go

theorem RvAt.keep {n : Nat} {h h' : AHeap} {k : Nat} {x : Cell} {bs pc : List Cell} {V : MV} (a : RvAt n h k x bs pc V) (hk : Kp h.length h h') : RvAt n h' k x bs pc V :=
  ⟨Nat.le_trans a.hn hk.1, a.nk, by rw [take_keep (hk.mono a.hn)]; exact a.prog, by rw [hk.blk (blk_lt' a.blk)]; exact a.blk, a.st.keepK hk, a.sep, a.bl, fun t ht => by
    obtain ⟨q1, q2, q3⟩ := a.bf t ht
    exact ⟨q1.keepK hk, q2, q3⟩⟩

/-- What does not belong to it leaves it as it was. -/
theorem RvAt.other {n : Nat} {h h' : AHeap} {k : Nat} {x : Cell} {bs pc : List Cell} {V : MV} (a : RvAt n h k x bs pc V) (hl : h.length ≤ h'.length) (hn : Kp n h h') (hk : ∀ j b, blk? h j = some b → j = k ∨ isBlk x j ∨ (∃ t, t < 4 ∧ isBlk (bs.getD t .nils) j) → blk? h' j = some b) : RvAt n h' k x bs pc V :=
  ⟨Nat.le_trans a.hn hl, a.nk, by rw [take_keep hn]; exact a.prog, hk k _ a.blk (.inl rfl), a.st.via fun j b q1 q2 => hk j b q2 (.inr (.inl q1)), a.sep, a.bl, fun t ht => by
    obtain ⟨q1, q2, q3⟩ := a.bf t ht
    exact ⟨q1.via fun j b s1 s2 => hk j b s2 (.inr (.inr ⟨t, ht, s1⟩)), q2, q3⟩⟩

def lcU (P : PProg) (t : Nat) : List Lcl := [if 0 < t then startL P 0 else Lcl.zero, if 1 < t then startL P 1 else Lcl.zero, if 2 < t then startL P 2 else Lcl.zero, if 3 < t then startL P 3 else Lcl.zero]

def MV.raw (P : PProg) (m : Int) (lc : List Lcl) (mem : List Int) : MV := ⟨P, m, lc, mem, [-1, -1, -1, -1], [[], [], [], []], []⟩

section
variable {E : Env}

def finU (V : MV) (t : Nat) : List Cell := (V.lc.take t).flatMap regsC ++ (List.replicate (16 - t * 4) (.int .i64 0) ++ intC .i64 V.mem)

end
end Jq

/- Two machines that stand alike. -/
namespace Jq
open Go

theorem Own.has {n : Nat} {h : AHeap} {y : Cell} {esz len : Nat} {cs : List Cell} (o : Own n h y esz cs len) {j : Nat} (hj : isBlk y j) : blk? h j = some ⟨true, esz, cs⟩ := by
  rcases o.2 with ⟨e, _⟩ | ⟨j', e, _, hb⟩
  · rw [e] at hj; exact absurd hj (by simp [isBlk])
  · have : j' = j := by rw [e] at hj; exact hj
    subst this; exact hb

structure Both (n : Nat) (h : AHeap) (k : Nat) (x : Cell) (pc : List Cell) (V : MV) (n' k' : Nat) (x' : Cell) (bs pc' : List Cell) (W : MV) : Prop where
  a : VmAt n h k x pc V
  b : RvAt n' h k' x' bs pc' W
  nn : n ≤ n'
  d : ∀ j, isBlk x j → ¬ isBlk x' j
  fV : V.Fit
  fW : W.Fit

section both
variable {n : Nat} {h : AHeap} {k : Nat} {x : Cell} {pc : List Cell} {V : MV} {n' k' : Nat} {x' : Cell} {bs pc' : List Cell} {W : MV} (B : Both n h k x pc V n' k' x' bs pc' W)
include B

theorem Both.kk : k' ≠ k := fun e => by
  have h1 := B.a.blk
  have h2 := B.b.blk
  rw [e, h1] at h2
  have h3 := Blk.mk.inj (Option.some.inj h2)
  have l1 := vm_len (x := x) B.fV B.a.prog.len
  have l2 := rv_len (x := x') B.fW B.b.prog.len B.b.bl
  rw [h3.2.2, l2] at l1
  omega

theorem Both.xk : ¬ isBlk x k' := fun q => by
  have h1 := B.a.st.has q
  rw [B.b.blk] at h1
  have := (Blk.mk.inj (Option.some.inj h1)).2.1
  omega
theorem Both.x'k : ¬ isBlk x' k := fun q => by
  have h1 := B.b.st.has q
  rw [B.a.blk] at h1
  have := (Blk.mk.inj (Option.some.inj h1)).2.1
  omega
theorem Both.bk {t : Nat} (ht : t < 4) : ¬ isBlk (bs.getD t .nils) k := fun q => by
  have h1 := (B.b.bf t ht).1.has q
  rw [B.a.blk] at h1
  have := (Blk.mk.inj (Option.some.inj h1)).2.1
  omega
theorem Both.bx {t : Nat} (ht : t < 4) {j : Nat} (q : isBlk (bs.getD t .nils) j) : ¬ isBlk x j := fun q2 => by
  have h1 := (B.b.bf t ht).1.has q
  rw [B.a.st.has q2] at h1
  have := (Blk.mk.inj (Option.some.inj h1)).2.1
  omega

theorem Both.keep {h' : AHeap} (hk : Kp h.length h h') : Both n h' k x pc V n' k' x' bs pc' W := ⟨B.a.keep hk, B.b.keep hk, B.nn, B.d, B.fV, B.fW⟩

/-- The one goes on. -/
theorem Both.vm {h' : AHeap} {x1 : Cell} {V' : MV} (kv : KpV n k x x1 h h') (a' : VmAt n h' k x1 pc V') (f' : V'.Fit) (hp : ProgAt (h'.take n') pc' W.P) : Both n h' k x1 pc V' n' k' x' bs pc' W := by
  have b := B.b
  refine ⟨a', ⟨Nat.le_trans b.hn kv.kp.1, b.nk, hp, (kv.old _ _ b.blk B.kk B.xk).1, b.st.via fun j c q1 q2 => (kv.old j c q2 (fun e => B.x'k (e ▸ q1)) (fun q => B.d j q q1)).1, b.sep, b.bl, fun t ht => ?_⟩, B.nn, fun j q1 q2 => ?_, f', B.fW⟩
  · obtain ⟨q1, q2, q3⟩ := b.bf t ht
    exact ⟨q1.via fun j c s1 s2 => (kv.old j c s2 (fun e => B.bk ht (e ▸ s1)) (B.bx ht s1)).1, q2, q3⟩
  · exact (kv.old j _ (b.st.has q2) (fun e => B.x'k (e ▸ q2)) (fun q => B.d j q q2)).2 q1

end both

theorem alike_ints : ∀ (l : List Cell) (n : Nat), l.length = n → (∀ c ∈ l, ∃ v, c = .int .i64 v) → alike l (List.replicate n (Cell.int .i64 0)) = true
  | [], 0, _, _ => rfl
  | c :: l, n + 1, hl, hc => by
    obtain ⟨v, rfl⟩ := hc c List.mem_cons_self
    rw [List.replicate_succ]
    show (alike1 (.int .i64 v) (.int .i64 0) && alike l (List.replicate n (Cell.int .i64 0))) = true
    rw [Bool.and_eq_true]
    exact ⟨rfl, alike_ints l n (by simpa using hl) (fun c h => hc c (List.mem_cons_of_mem _ h))⟩

theorem finC_ints (V : MV) : ∀ c ∈ finC V, ∃ v, c = .int .i64 v := by
  intro c hc
  unfold finC at hc
  rcases List.mem_append.1 hc with hc | hc
  · obtain ⟨l, _, hl⟩ := List.mem_flatMap.1 hc
    unfold regsC at hl
    simp at hl
    rcases hl with rfl | rfl | rfl | rfl <;> exact ⟨_, rfl⟩
  · unfold intC at hc
    obtain ⟨v, _, rfl⟩ := List.mem_map.1 hc
    exact ⟨v, rfl⟩
theorem finC_len {V : MV} (f : V.Fit) : (finC V).length = 20 := by
  unfold finC
  rw [List.length_append, flat_len (n := 4) fun l _ => regsC_len l, intC_len, f.lc, f.mem]
theorem alike_fin {V : MV} (f : V.Fit) : alike (finC V) (List.replicate 20 (Cell.int .i64 0)) = true := alike_ints _ _ (finC_len f) (finC_ints V)
section
variable {E : Env}

end
end Jq

/- VmPlain: a weak machine whose stores are flushed at once does what the plain one does. -/
namespace Jq
open Go

/-- They stand alike, and nothing waits. -/
structure Sim (V W : MV) : Prop where
  P : W.P = V.P
  lc : ∀ t, W.l t = V.l t
  mem : W.mem = V.mem
  lcs : W.lc = V.lc
  bV : ∀ t, V.b t = []
  bW : ∀ t, W.b t = []

theorem Sim.mayT {V W : MV} (S : Sim V W) (t : Nat) : W.mayT t = V.mayT t := by
  unfold MV.mayT MV.nxt
  rw [S.P, S.lc, S.bV, S.bW]

theorem cnt_nil {W : MV} (h : ∀ t, W.b t = []) (q : Nat) : W.cnt q = 0 := by
  unfold MV.cnt
  rw [h, h]
  split
  · rfl
  · split <;> rfl

theorem may_nil {W : MV} (h : ∀ t, W.b t = []) {p : Nat} (h4 : 4 ≤ p) : W.may p = false := by
  by_cases h24 : p < 24
  · rw [MV.may_cnt W h4 h24, cnt_nil h]; rfl
  · exact MV.may_out (by omega)

theorem Sim.may {V W : MV} (S : Sim V W) (p : Nat) : W.may p = V.may p := by
  by_cases h4 : p < 4
  · unfold MV.may; rw [if_pos h4, if_pos h4, S.mayT]
  · rw [may_nil S.bW (by omega), may_nil S.bV (by omega)]

theorem Sim.word {V W : MV} (S : Sim V W) : W.word = V.word := Nat.eq_of_testBit_eq fun i => by rw [MV.word_bit, MV.word_bit, S.may]

/-- The steps are alike but for whose store was read. -/
theorem Sim.stp {V W : MV} (S : Sim V W) {i : Nat} (h4 : i < 4) : (W.stp i).kind = (V.stp i).kind ∧ (W.stp i).loc = (V.stp i).loc ∧ (W.stp i).r = (V.stp i).r ∧ (W.stp i).w = (V.stp i).w ∧ W.thrI i = V.thrI i ∧ (W.val i (W.thrI i)).1 = (V.val i (V.thrI i)).1 := by
  have hI : W.thrI i = V.thrI i := by unfold MV.thrI MV.nxt; rw [S.P, S.lc]
  have hv : (W.val i (W.thrI i)).1 = (V.val i (V.thrI i)).1 := by
    unfold MV.val
    rw [hI, S.bV, S.bW, S.mem]
    rfl
  have e1 : W.stp i = { W.thrS i (W.thrI i) with pick := i } := by unfold MV.stp; rw [if_pos h4]
  have e2 : V.stp i = { V.thrS i (V.thrI i) with pick := i } := by unfold MV.stp; rw [if_pos h4]
  rw [e1, e2]
  unfold MV.thrS
  dsimp only
  rw [hv, hI, S.lc]
  exact ⟨rfl, rfl, rfl, rfl, rfl, rfl⟩

theorem getD_ext {l l' : List Int} (h : l.length = l'.length) (hd : ∀ c, l.getD c 0 = l'.getD c 0) : l = l' := by
  refine List.ext_getElem h fun i h1 h2 => ?_
  have := hd i
  rw [List.getD_eq_getElem?_getD, List.getD_eq_getElem?_getD, List.getElem?_eq_getElem h1, List.getElem?_eq_getElem h2] at this
  exact this

/-- The plain one's pick and the weak one's, with its flush. -/
theorem Sim.nx {V W : MV} (S : Sim V W) (v : V.Inv) (w : W.Inv) (hV : V.m = 1) (hW : W.m = 2 ∨ W.m = 3) {i : Nat} (hi : V.may i = true) :
    i < 4 ∧ ((∀ p, 4 ≤ p → (W.nx i).may p = false) ∧ Sim (V.nx i) (W.nx i) ∨
      ∃ f, 4 ≤ f ∧ (∀ p, 4 ≤ p → (W.nx i).may p = decide (p = f)) ∧ (∀ p, 4 ≤ p → ((W.nx i).nx f).may p = false) ∧ Sim (V.nx i) ((W.nx i).nx f)) := by
  have h4 : i < 4 := by
    rcases Nat.lt_or_ge i 4 with h | h
    · exact h
    · rw [may_nil S.bV h] at hi; cases hi
  refine ⟨h4, ?_⟩
  have hiW : W.may i = true := by rw [S.may]; exact hi
  have T := v.thr_step h4 hi
  have U := w.thr_step h4 hiW
  obtain ⟨s1, s2, s3, s4, s5, s6⟩ := S.stp h4
  have vi := v.nx hi
  have wi := w.nx hiW
  have hVP := (V.nx_P i).1
  have hWP := (W.nx_P i).1
  have hWm : (W.nx i).m = W.m := (W.nx_P i).2
  have hlc : (W.nx i).lc = (V.nx i).lc := by
    have e1 : (W.nx i).lc = W.lc.set i (afterL (W.P.code i) (W.l i) (W.val i (W.thrI i)).1) := by unfold MV.nx; rw [if_pos h4]; rfl
    have e2 : (V.nx i).lc = V.lc.set i (afterL (V.P.code i) (V.l i) (V.val i (V.thrI i)).1) := by unfold MV.nx; rw [if_pos h4]; rfl
    rw [e1, e2, s6, S.P, S.lc, S.lcs]
  have hl : ∀ t, (W.nx i).l t = (V.nx i).l t := fun t => by unfold MV.l; rw [hlc]
  have hbV : ∀ t, (V.nx i).b t = [] := fun t => by
    have hns : ¬ (t = i ∧ isSt V.m (V.stp i) = true) := fun c => by
      have := c.2
      rw [hV] at this
      simp [isSt] at this
    rw [T.b, if_neg hns]; exact S.bV t
  by_cases hk : (V.stp i).kind = 2
  · refine .inr ⟨qOf W.m (W.stp i), ?_, ?_⟩
    · unfold qOf; split <;> omega
    have hsW : isSt W.m (W.stp i) = true := by
      unfold isSt
      rw [Bool.and_eq_true, beq_iff_eq, bne_iff_ne, s1]
      exact ⟨hk, by omega⟩
    have cn := w.cnt_nx hW hiW
    have hq4 : 4 ≤ qOf W.m (W.stp i) ∧ qOf W.m (W.stp i) < 24 := by
      have a1 := U.t; have a2 := U.loc
      unfold qOf; split <;> omega
    have hmay : ∀ p, 4 ≤ p → (W.nx i).may p = decide (p = qOf W.m (W.stp i)) := fun p hp => by
      by_cases h24 : p < 24
      · rw [MV.may_cnt _ hp h24]
        by_cases e : p = qOf W.m (W.stp i)
        · rw [e, cn.1, cnt_nil S.bW, s1, hk, if_pos rfl]; simp
        · rw [cn.2 p e, cnt_nil S.bW, decide_eq_false e]; rfl
      · rw [MV.may_out (by omega), decide_eq_false (by omega)]
    have hfm : (W.nx i).may (qOf W.m (W.stp i)) = true := by rw [hmay _ hq4.1]; exact decide_eq_true rfl
    obtain ⟨t, p, e, F⟩ := wi.flu_step (by omega) hfm
    have hbW : ∀ t, (W.nx i).b t = if t = i then [⟨(W.stp i).loc, (W.stp i).w, W.st.length⟩] else [] := fun t => by
      rw [U.b]
      by_cases e : t = i
      · rw [if_pos ⟨e, hsW⟩, if_pos e, S.bW]; rfl
      · rw [if_neg (fun c => e c.1), if_neg e, S.bW]
    have ht : t = i := by
      have := List.mem_of_find?_eq_some F.f
      rw [hbW] at this
      split at this
      · assumption
      · simp at this
    have he : e = ⟨(W.stp i).loc, (W.stp i).w, W.st.length⟩ := by
      have := List.mem_of_find?_eq_some F.f
      rw [hbW, if_pos ht, List.mem_singleton] at this
      exact this
    have hpe := List.find?_some F.f
    have hb2 : ∀ t', ((W.nx i).nx (qOf W.m (W.stp i))).b t' = [] := fun t' => by
      rw [F.b]
      split
      · rw [hbW, if_pos ht, List.eraseP_cons_of_pos (by rw [← he]; exact hpe)]
      · rw [hbW, if_neg (by omega)]
    have hP2 := ((W.nx i).nx_P (qOf W.m (W.stp i))).1
    have hlc2 : ((W.nx i).nx (qOf W.m (W.stp i))).lc = (W.nx i).lc := by
      obtain ⟨t, loc, e, _, _, _, _, hnx⟩ := MV.may_flu (V := W.nx i) (i := qOf W.m (W.stp i)) (by omega) hfm
      rw [hnx]
    refine ⟨hmay, fun p hp => may_nil hb2 hp, ⟨by rw [hP2, hWP, hVP, S.P], fun t => ?_, ?_, by rw [hlc2, hlc], hbV, hb2⟩⟩
    · rw [show ((W.nx i).nx (qOf W.m (W.stp i))).l t = (W.nx i).l t by unfold MV.l; rw [hlc2], hl]
    · have f2 := (wi.nx hfm).fit.mem
      have f1 := vi.fit.mem
      refine getD_ext (by rw [f1, f2]) fun c => ?_
      rw [F.mem, T.mem, U.mem, he]
      dsimp only
      rw [s2, s4, S.mem]
      by_cases hc : c = (V.stp i).loc.toNat
      · rw [if_pos hc, if_pos ⟨.inr ⟨hk, hV⟩, hc⟩]
      · rw [if_neg hc, if_neg (fun q => hc q.2), if_neg (fun q => hc q.2)]
  · refine .inl ?_
    have hbW : ∀ t, (W.nx i).b t = [] := fun t => by
      have hns : ¬ (t = i ∧ isSt W.m (W.stp i) = true) := fun c => by
        have := c.2
        unfold isSt at this
        rw [Bool.and_eq_true, beq_iff_eq, s1] at this
        exact hk this.1
      rw [U.b, if_neg hns]; exact S.bW t
    refine ⟨fun p hp => may_nil hbW hp, ⟨by rw [hWP, hVP, S.P], hl, ?_, hlc, hbV, hbW⟩⟩
    refine getD_ext (by rw [vi.fit.mem, wi.fit.mem]) fun c => ?_
    rw [T.mem, U.mem, s1, s2, s4, S.mem]
    by_cases h4k : (V.stp i).kind = 4 ∧ c = (V.stp i).loc.toNat
    · rw [if_pos ⟨.inl h4k.1, h4k.2⟩, if_pos ⟨.inl h4k.1, h4k.2⟩]
    · rw [if_neg (fun q => h4k ⟨by rcases q.1 with q | q; (· exact q); exact absurd q.1 hk, q.2⟩), if_neg (fun q => h4k ⟨by rcases q.1 with q | q; (· exact q); exact absurd q.1 hk, q.2⟩)]

theorem Sim.fin {V W : MV} (S : Sim V W) : finC W = finC V := by unfold finC; rw [S.lcs, S.mem]

/-- Two machines of the program's. -/
structure Twin (n : Nat) (h : AHeap) (k : Nat) (x : Cell) (pc : List Cell) (V : MV) (n' k' : Nat) (x' : Cell) (pc' : List Cell) (W : MV) : Prop where
  a : VmAt n h k x pc V
  b : VmAt n' h k' x' pc' W
  nn : n ≤ n'
  kk : k ≠ k'
  d : ∀ j, isBlk x j → ¬ isBlk x' j
  po : ∃ m0, ProgO m0 (h.take n') pc' W.P

section twin
variable {n : Nat} {h : AHeap} {k : Nat} {x : Cell} {pc : List Cell} {V : MV} {n' k' : Nat} {x' : Cell} {pc' : List Cell} {W : MV} (B : Twin n h k x pc V n' k' x' pc' W)
include B

theorem Twin.xk : ¬ isBlk x k' := fun q => by
  have h1 := B.a.st.has q
  rw [B.b.blk] at h1
  have := (Blk.mk.inj (Option.some.inj h1)).2.1
  omega
theorem Twin.x'k : ¬ isBlk x' k := fun q => by
  have h1 := B.b.st.has q
  rw [B.a.blk] at h1
  have := (Blk.mk.inj (Option.some.inj h1)).2.1
  omega

theorem Twin.keep {h' : AHeap} (hk : Kp h.length h h') : Twin n h' k x pc V n' k' x' pc' W :=
  ⟨B.a.keep hk, B.b.keep hk, B.nn, B.kk, B.d, by rw [take_keep (hk.mono B.b.hn)]; exact B.po⟩

theorem Twin.one {h' : AHeap} {x1 : Cell} {V' : MV} (kv : KpV n k x x1 h h') (a' : VmAt n h' k x1 pc V') : Twin n h' k x1 pc V' n' k' x' pc' W := by
  have b := B.b
  have po : ∃ m0, ProgO m0 (h'.take n') pc' W.P := by
    obtain ⟨m0, po⟩ := B.po
    refine ⟨m0, po.viaE fun j c hj he => ?_⟩
    have hjn : j < n' := by have := blk_lt' hj; rw [List.length_take] at this; omega
    have hj2 : blk? h j = some c := by
      unfold blk? at hj ⊢
      rwa [List.getElem?_take, if_pos hjn] at hj
    have h2 := (kv.old j c hj2 (fun e => by
      rw [e, B.a.blk] at hj2
      have := (Blk.mk.inj (Option.some.inj hj2))
      have := Option.some.inj hj2
      rw [← this] at he
      simp at he) (fun q => by
      rw [B.a.st.has q] at hj2
      have := Option.some.inj hj2
      rw [← this] at he
      simp at he)).1
    unfold blk? at h2 ⊢
    rwa [List.getElem?_take, if_pos hjn]
  refine ⟨a', ⟨Nat.le_trans b.hn kv.kp.1, b.nk, po.choose_spec.at, (kv.old _ _ b.blk (fun e => B.kk e.symm) B.xk).1, b.st.via fun j c q1 q2 => (kv.old j c q2 (fun e => B.x'k (e ▸ q1)) (fun q => B.d j q q1)).1, b.sep⟩, B.nn, B.kk, fun j q1 q2 => ?_, po⟩
  exact (kv.old j _ (b.st.has q2) (fun e => B.x'k (e ▸ q2)) (fun q => B.d j q q2)).2 q1

theorem Twin.two {h' : AHeap} {x1 : Cell} {W' : MV} (kv : KpV n' k' x' x1 h h') (b' : VmAt n' h' k' x1 pc' W') (hP : W'.P = W.P) : Twin n h' k x pc V n' k' x1 pc' W' := by
  have a := B.a
  refine ⟨⟨Nat.le_trans a.hn kv.kp.1, a.nk, by rw [take_keep (kv.kp.mono B.nn)]; exact a.prog, (kv.old _ _ a.blk B.kk B.x'k).1, a.st.via fun j c q1 q2 => (kv.old j c q2 (fun e => B.xk (e ▸ q1)) (B.d j q1)).1, a.sep⟩, b', B.nn, B.kk, fun j q1 q2 => ?_, by rw [take_keep kv.kp, hP]; exact B.po⟩
  exact (kv.old j _ (a.st.has q1) (fun e => B.xk (e ▸ q1)) (B.d j q1)).2 q2
end twin

section
variable {E : Env}

set_option maxHeartbeats 2000000 in
theorem VmPlain_law (ht : TabOk E) (hE : jacquardlaw16_VmPlain_In E) {h : AHeap} {c0 c1' c2' : List Cell} (o0 : okC h (.sl (.i .i64)) c0) (o1 : okC h (.i .i64) c1') (o2 : okC h (.sl (.i .i64)) c2') :
    ∃ h', R E 221 [av1 (.sl (.i .i64)) c0, av1 (.i .i64) c1', av1 (.sl (.i .i64)) c2'] h = some ([.c (.bool true)], h') := by
  obtain ⟨x, l, ha0, hx, hlow, _, hml⟩ := arg_ints o0
  obtain ⟨m0, ha1, _⟩ := arg_int o1
  obtain ⟨y, ps, ha2, hy, hylow, _, hpl⟩ := arg_ints o2
  obtain ⟨cs, h1, P, r1, p1, g1, g2, hu, k1⟩ := OfP_R hE.c76 hx hlow (by unfold maxLen at hml; omega) (most := 12) (by omega)
  have hb1 : 0 ≤ E.glob.band .i64 m0 1 ∧ E.glob.band .i64 m0 1 < 2 := by rw [g_band1]; omega
  have hm1 : E.glob.wrap .i64 (E.glob.band .i64 m0 1 + 2) = E.glob.band .i64 m0 1 + 2 := g_wrap_i64 (by omega) (by omega)
  generalize hmm : E.glob.band .i64 m0 1 + 2 = m at hm1
  have hm23 : m = 2 ∨ m = 3 := by omega
  have gi := g1.init
  have gl := g1.locs
  obtain ⟨n, k, pc, h2, r2, a2, n2, k2⟩ := VNew_R hE.c171 p1 g1.small hu (by omega) (by omega) (m := 1) (by omega) g2.pok
  obtain ⟨n', k', pc', h3, r3, a3, n3, k3, po3, _⟩ := VNew_S hE.c171 (p1.keep k2) g1.small hu (by omega) (by omega) (m := m) (by omega) g2.pok
  have k13 : Kp h1.length h1 h3 := k2.trans (k3.mono k2.1)
  have invV := g1.inv g2 (m := 1) (by omega)
  have invW := g1.inv g2 (m := m) (by omega)
  have hkh : k < h2.length := blk_lt' a2.blk
  have T3 : Twin n h3 k .nils pc (MV.new P 1) n' k' .nils pc' (MV.new P m) := ⟨a2.keep k3, a3, Nat.le_trans a2.hn n3, fun e => by have := a3.nk; omega, fun j q => absurd q (by simp [isBlk]), _, po3⟩
  have S0 : Sim (MV.new P 1) (MV.new P m) := ⟨rfl, fun _ => rfl, rfl, rfl, new_b P 1, new_b P m⟩
  obtain ⟨p, hp, hQ⟩ := Lim_fallN (F := jacquardlaw16_VmPlain_F2 (R E) Lim E.glob)
    (fun q st => ∃ (i : Nat) (V W : MV) (z z' : Cell) (h' : AHeap), q = 40 - i ∧ i ≤ 40 ∧ st = jacquardlaw16_VmPlain_s2 y (.ptr k 329 0) (.ptr k' 329 0) (i : Int) h' ∧ Twin n h' k z pc V n' k' z' pc' W ∧ V.Inv ∧ W.Inv ∧ V.Inv2 ∧ V.skips ∧ Sim V W ∧ V.m = 1 ∧ W.m = m ∧ V.P = P ∧ V.st.length = i ∧ W.st.length ≤ 2 * i ∧ Kp h1.length h1 h')
    (fun p => ∃ (V W : MV) (z z' : Cell) (h' : AHeap), p = (.exit 0, jacquardlaw16_VmPlain_x2_1 (.ptr k 329 0) (.ptr k' 329 0) h') ∧ Twin n h' k z pc V n' k' z' pc' W ∧ V.Inv ∧ W.Inv ∧ Sim V W ∧ V.word = 0)
    (fun q st hI => by
      obtain ⟨i, V, W, z, z', h', rfl, hi40, rfl, B, v, w, v2, sk, S, vm, wm, vP, vl, wl, kk⟩ := hI
      have hmost := v2.most (by rw [vP]; have := g1.n; omega)
      have hsz : sumL V.P.thr ≤ 18 := by
        have h6 := sumLen_le (c := 6) P.thr g1.code
        have := g1.n
        rw [vP]; unfold sumL; omega
      have hi : i < 40 := by omega
      have en := Enabled_R hE.c172 B.a.blk v.fit (prog_at B.a.prog B.a.hn (Kp.refl n h'))
      obtain ⟨ww, h5, r5, o5, k5⟩ := List_R hE.c32 ht V.word_lt h'
      have B5 := B.keep k5
      have kk5 : Kp h1.length h1 h5 := kk.trans (k5.mono kk.1)
      by_cases h0 : (bitsL V.word).length = 0
      · refine .inr ⟨_, ?_, (by simp : Ex.exit 0 ≠ .normal), V, W, z, z', h5, rfl, B5, v, w, S, bits_none.1 h0⟩
        rw [jacquardlaw16_VmPlain_r2, if_pos (by simp; omega), en, c1_ok, asI_ok, r5, c1_ok, asC_ok, o5.at.len, if_pos (by rw [h0]; rfl)]
      · refine .inl ?_
        have hy5 := hy.keep hylow (k1.trans (kk5.mono k1.1))
        -- behind the choice
        have last : ∀ kv : Int, 0 ≤ kv → ∃ st' k'', (jacquardlaw16_VmPlain_k6 (R E) Lim E.glob) .normal (jacquardlaw16_VmPlain_c1 y (.ptr k 329 0) (.ptr k' 329 0) (i : Int) ww kv h5) = some (.normal, st') ∧ (∃ (i : Nat) (V W : MV) (z z' : Cell) (h' : AHeap), k'' = 40 - i ∧ i ≤ 40 ∧ st' = jacquardlaw16_VmPlain_s2 y (.ptr k 329 0) (.ptr k' 329 0) (i : Int) h' ∧ Twin n h' k z pc V n' k' z' pc' W ∧ V.Inv ∧ W.Inv ∧ V.Inv2 ∧ V.skips ∧ Sim V W ∧ V.m = 1 ∧ W.m = m ∧ V.P = P ∧ V.st.length = i ∧ W.st.length ≤ 2 * i ∧ Kp h1.length h1 h') ∧ k'' < 40 - i := by
          intro kv hkv
          have hrng := rem_rng (E := E) (x := kv) (m := ((bitsL V.word).length : Int)) hkv (by omega)
          obtain ⟨j, hj, hch⟩ := choose o5 hrng.1 hrng.2
          obtain ⟨z6, h6, r6, a6, k6⟩ := Pick_R hE.c173 B5.a v (by omega) hj
          have B6 := B5.one k6 a6
          have hch6 : ∀ {α : Type} (f : Cell → Option α), (idxSK 1 ww (E.glob.rem .i64 kv ((bitsL V.word).length : Int)) fun k N o => rdH h6 k N fun l => atK l o f) = f (.int .i64 (j : Int)) := fun f => by
            have o6 := o5.via (h' := h6) fun q b q1 q2 => (k6.old q b q2 (fun e => by
              rw [e, B5.a.blk] at q2
              have h7 := o5.has q1
              rw [e, B5.a.blk] at h7
              have := (Blk.mk.inj (Option.some.inj h7)).2.1
              omega) (fun q3 => by
              have h7 := o5.has q1
              rw [B5.a.st.has q3] at h7
              have := (Blk.mk.inj (Option.some.inj h7)).2.1
              omega)).1
            obtain ⟨qv, hqv⟩ := Int.eq_ofNat_of_zero_le hrng.1
            have hlt : qv < (bitsL V.word).length := by omega
            have hg := List.getElem?_eq_getElem hlt
            have e1 := hch (α := Cell) (fun c => some c)
            rw [hqv, o5.at.get1 hlt (natC_get hg)] at e1
            rw [hqv, o6.at.get1 hlt (natC_get hg)]
            have := Option.some.inj e1
            rw [this]
          have hjW : W.may j = true := by rw [S.may]; exact hj
          obtain ⟨z7, h7, r7, a7, k7⟩ := Pick_R hE.c173 B6.b w (by omega) hjW
          have B7 := B6.two k7 a7 (by rw [(W.nx_P j).1])
          obtain ⟨hj4, hcase⟩ := S.nx v w vm (by omega) hj
          obtain ⟨s1, s2, s3, s4, _⟩ := S.stp hj4
          have v7 := v.nx hj
          have w7 := w.nx hjW
          have kk7 : Kp h1.length h1 h7 := (kk5.trans (k6.kp.mono n2)).trans (k7.kp.mono (Nat.le_trans k2.1 n3))
          have en7 := Enabled_R hE.c172 B7.b.blk w7.fit (prog_at B7.b.prog B7.b.hn (Kp.refl n' h7))
          obtain ⟨y8, h8, r8, o8, k8⟩ := List_R hE.c32 ht (W.nx j).word_lt h7
          have B8 := B7.keep k8
          have kk8 : Kp h1.length h1 h8 := kk7.trans (k8.mono kk7.1)
          have hlW : (W.nx j).st.length = W.st.length + 1 := by rw [W.nx_st, List.length_append, List.length_singleton]
          have hlV : (V.nx j).st.length = V.st.length + 1 := by rw [V.nx_st, List.length_append, List.length_singleton]
          have hbl := bits_len (W.nx j).word
          -- the flushes
          obtain ⟨W', z9, h9, lp, B9, w9, wm9, wl9, S9, kk9⟩ : ∃ (W' : MV) (z9 : Cell) (h9 : AHeap), Lim (jacquardlaw16_VmPlain_F1 (R E) Lim E.glob) (jacquardlaw16_VmPlain_s1 y (.ptr k 329 0) (.ptr k' 329 0) (i : Int) y8 ((0 : Nat) : Int) h8) = some (.exit 2, jacquardlaw16_VmPlain_x1_3 y (.ptr k 329 0) (.ptr k' 329 0) (i : Int) h9) ∧
              Twin n h9 k z6 pc (V.nx j) n' k' z9 pc' W' ∧ W'.Inv ∧ W'.m = m ∧ W'.st.length ≤ W.st.length + 2 ∧ Sim (V.nx j) W' ∧ Kp h1.length h1 h9 := by
            have fin : ∀ hz, SlAt hz y8 1 (natC (bitsL (W.nx j).word)) (bitsL (W.nx j).word).length → Lim (jacquardlaw16_VmPlain_F1 (R E) Lim E.glob) (jacquardlaw16_VmPlain_s1 y (.ptr k 329 0) (.ptr k' 329 0) (i : Int) y8 ((bitsL (W.nx j).word).length : Int) hz) = some (.exit 2, jacquardlaw16_VmPlain_x1_3 y (.ptr k 329 0) (.ptr k' 329 0) (i : Int) hz) := fun hz oz => Lim_exit (by
              rw [jacquardlaw16_VmPlain_r1, oz.len, if_neg (by simp)])
            have skip : ∀ hz (q e : Nat), SlAt hz y8 1 (natC (bitsL (W.nx j).word)) (bitsL (W.nx j).word).length → (bitsL (W.nx j).word)[q]? = some e → e < 4 → jacquardlaw16_VmPlain_F1 (R E) Lim E.glob (jacquardlaw16_VmPlain_s1 y (.ptr k 329 0) (.ptr k' 329 0) (i : Int) y8 (q : Int) hz) = some (.normal, jacquardlaw16_VmPlain_s1 y (.ptr k 329 0) (.ptr k' 329 0) (i : Int) y8 ((q + 1 : Nat) : Int) hz) := fun hz q e oz hq he => by
              have := getI_lt hq
              rw [jacquardlaw16_VmPlain_r1, oz.len, if_pos (by simp; omega), oz.get1 (getI_lt hq) (natC_get hq), asI_ok, if_neg (by simp; omega), g_succ (by omega)]
            rcases hcase with ⟨hno, hS⟩ | ⟨f, hf4, hmay, hno, hS⟩
            · refine ⟨W.nx j, z7, h8, ?_, B8, w7, by rw [(W.nx_P j).2, wm], by omega, hS, kk8⟩
              refine Lim_count (F := jacquardlaw16_VmPlain_F1 (R E) Lim E.glob) (fun q => jacquardlaw16_VmPlain_s1 y (.ptr k 329 0) (.ptr k' 329 0) (i : Int) y8 (q : Int) h8) 0 (bitsL (W.nx j).word).length (by omega) (fun q _ hq => ?_) (fin h8 o8.at)
              have hg := List.getElem?_eq_getElem hq
              refine skip h8 q _ o8.at hg ?_
              rcases Nat.lt_or_ge (bitsL (W.nx j).word)[q] 4 with c | c
              · exact c
              · have := bits_may hg
                rw [hno _ c] at this; cases this
            · have hfm : (W.nx j).may f = true := by rw [hmay f hf4]; exact decide_eq_true rfl
              have hf24 := MV.may_lt hfm
              obtain ⟨J, hJ⟩ : ∃ J, (bitsL (W.nx j).word)[J]? = some f := by
                have : f ∈ bitsL (W.nx j).word := mem_bitsL.2 ⟨by omega, by rw [MV.word_bit]; exact hfm⟩
                exact List.mem_iff_getElem?.1 this
              have hJl := getI_lt hJ
              have hpw : (bitsL (W.nx j).word).Pairwise (· < ·) := List.Pairwise.filter _ List.pairwise_lt_range
              rw [List.pairwise_iff_getElem] at hpw
              have hJe : (bitsL (W.nx j).word)[J] = f := by rw [List.getElem?_eq_getElem hJl] at hJ; exact Option.some.inj hJ
              have small : ∀ q e, (bitsL (W.nx j).word)[q]? = some e → q ≠ J → e < 4 := fun q e hq hne => by
                rcases Nat.lt_or_ge e 4 with c | c
                · exact c
                · exfalso
                  have h8 := bits_may hq
                  rw [hmay e c] at h8
                  have hef := of_decide_eq_true h8
                  have hql := getI_lt hq
                  rw [List.getElem?_eq_getElem hql] at hq
                  have hqe := Option.some.inj hq
                  rcases Nat.lt_or_gt_of_ne hne with c1 | c1
                  · have := hpw q J hql hJl c1; omega
                  · have := hpw J q hJl hql c1; omega
              obtain ⟨z9, h9, r9, a9, k9⟩ := Pick_R hE.c173 B8.b w7 (by omega) hfm
              have B9 := B8.two k9 a9 (by rw [((W.nx j).nx_P f).1])
              have o9 : SlAt h9 y8 1 (natC (bitsL (W.nx j).word)) (bitsL (W.nx j).word).length := (o8.via (h' := h9) fun q b q1 q2 => (k9.old q b q2 (fun e => by
                have h7 := o8.has q1
                rw [e, B8.b.blk] at h7
                have := (Blk.mk.inj (Option.some.inj h7)).2.1
                omega) (fun q3 => by
                have h7 := o8.has q1
                rw [B8.b.st.has q3] at h7
                have := (Blk.mk.inj (Option.some.inj h7)).2.1
                omega)).1).at
              refine ⟨(W.nx j).nx f, z9, h9, ?_, B9, w7.nx hfm, by rw [((W.nx j).nx_P f).2, (W.nx_P j).2, wm], by rw [(W.nx j).nx_st, List.length_append, List.length_singleton]; omega, hS, kk8.trans (k9.kp.mono (Nat.le_trans k2.1 n3))⟩
              refine Lim_count (F := jacquardlaw16_VmPlain_F1 (R E) Lim E.glob) (fun q => jacquardlaw16_VmPlain_s1 y (.ptr k 329 0) (.ptr k' 329 0) (i : Int) y8 (q : Int) h8) 0 J (by omega) (fun q _ hq => skip h8 q _ o8.at (List.getElem?_eq_getElem (by omega)) (small q _ (List.getElem?_eq_getElem (by omega)) (by omega))) ?_
              refine Lim_next (st' := jacquardlaw16_VmPlain_s1 y (.ptr k 329 0) (.ptr k' 329 0) (i : Int) y8 ((J + 1 : Nat) : Int) h9) ?_ ?_
              · rw [jacquardlaw16_VmPlain_r1, o8.at.len, if_pos (by simp; omega), o8.at.get1 hJl (natC_get hJ), asI_ok, if_pos (by simp; omega), o8.at.get1 hJl (natC_get hJ), asI_ok, r9, c2_ok, asA_ok, asB_ok, g_succ (by omega)]
              · exact Lim_count (F := jacquardlaw16_VmPlain_F1 (R E) Lim E.glob) (fun q => jacquardlaw16_VmPlain_s1 y (.ptr k 329 0) (.ptr k' 329 0) (i : Int) y8 (q : Int) h9) (J + 1) (bitsL (W.nx j).word).length (by omega) (fun q h1 hq => skip h9 q _ o9 (List.getElem?_eq_getElem hq) (small q _ (List.getElem?_eq_getElem hq) (by omega))) (fin h9 o9)
          rw [show ((0 : Nat) : Int) = 0 from rfl] at lp
          have fa := Final_R hE.c179 B9.a.blk v7.fit B9.a.prog.len
          have fb := Final_R hE.c179 B9.b.blk w9.fit B9.b.prog.len
          rw [S9.fin] at fb
          refine ⟨jacquardlaw16_VmPlain_s2 y (.ptr k 329 0) (.ptr k' 329 0) ((i + 1 : Nat) : Int) h9, 40 - (i + 1), ?_, ⟨i + 1, V.nx j, W', z6, z9, h9, rfl, by omega, rfl, B9, v7, w9, v.inv2_nx v2 sk hj, MV.skips_nx sk j, S9, by rw [(V.nx_P j).2, vm], wm9, by rw [(V.nx_P j).1, vP], by omega, by omega, kk9⟩, by omega⟩
          rw [jacquardlaw16_VmPlain_ec1_n, o5.at.len, if_neg (by omega), hch, asI_ok, r6, c2_ok, asA_ok, asB_ok, if_pos (by exact ⟨rfl, rfl, rfl⟩), o5.at.len, if_neg (by omega), hch6, asI_ok, r7, c2_ok, asA_ok, asB_ok, if_pos (by exact ⟨rfl, rfl, rfl⟩)]
          simp only [stp_kind, stp_loc, stp_r, stp_w, asI_ok, scK_or, s1, s2, s3, s4, bne_self_eq_false, Bool.not_true, Bool.or_false]
          rw [if_neg (by simp), en7, c1_ok, asI_ok, r8, c1_ok, asC_ok, lp, bind_ok]
          dsimp only
          rw [jacquardlaw16_VmPlain_e1_3, fa, c1_ok, asA_ok, fb, c1_ok, asA_ok, if_pos ⟨alike_fin v7.fit, alike_fin v7.fit⟩, if_neg (by simp), g_succ (by omega)]
        by_cases hcp : i < ps.length
        · have hq : ps[i]? = some ps[i] := List.getElem?_eq_getElem hcp
          generalize ps[i] = pk at hq
          obtain ⟨st', k'', e1, e2, e3⟩ := last (E.glob.band .i64 pk 65535) g_band16.1
          refine ⟨st', k'', ?_, e2, e3⟩
          rw [jacquardlaw16_VmPlain_r2, if_pos (by simp; omega), en, c1_ok, asI_ok, r5, c1_ok, asC_ok, o5.at.len, if_neg (by rw [beq_iff_eq]; omega), hy5.len, if_pos (by simp; omega), hy5.get1 hcp (intC_get hq), asI_ok, bind_ok]
          exact e1
        · obtain ⟨st', k'', e1, e2, e3⟩ := last (i : Int) (by omega)
          refine ⟨st', k'', ?_, e2, e3⟩
          rw [jacquardlaw16_VmPlain_r2, if_pos (by simp; omega), en, c1_ok, asI_ok, r5, c1_ok, asC_ok, o5.at.len, if_neg (by rw [beq_iff_eq]; omega), hy5.len, if_neg (by simp; omega), bind_ok]
          exact e1) (k := 40) (st := jacquardlaw16_VmPlain_s2 y (.ptr k 329 0) (.ptr k' 329 0) 0 h3) ⟨0, MV.new P 1, MV.new P m, .nils, .nils, h3, rfl, by omega, rfl, T3, invV, invW, MV.new_inv2 g1.skip, g1.skip, S0, rfl, rfl, rfl, rfl, Nat.le_refl _, k13⟩
  obtain ⟨V, W, z, z', h9, rfl, B, v, w, S, h0⟩ := hQ
  have d1 := Done_R hE.c174 B.a.blk v.fit (prog_at B.a.prog B.a.hn (Kp.refl n h9))
  have d2 := Done_R hE.c174 B.b.blk w.fit (prog_at B.b.prog B.b.hn (Kp.refl n' h9))
  obtain ⟨hB, rB, kB⟩ := awake16_R hE.c170 h9
  refine ⟨hB, R_intro hE.fn ?_⟩
  rw [ha0, ha1, ha2, jacquardlaw16_VmPlain_eq, show (12 : Int) = ((12 : Nat) : Int) from rfl, r1, c1_ok, asA_ok, if_pos (by exact ⟨rfl, rfl, p1.len⟩), if_pos (by exact ⟨rfl, p1.len⟩), r2, c2_ok, asC_ok, asI_ok, if_pos (by exact ⟨rfl, p1.len⟩), hmm, hm1, r3, c2_ok, asC_ok, asI_ok, ptr_nil, ptr_nil, scK_or, scK_or, scK_or,
    show (((false || false) || ((0 : Int) != 0)) || ((0 : Int) != 0)) = false from rfl, if_neg (by simp), hp, bind_ok]
  dsimp only
  rw [jacquardlaw16_VmPlain_e2_1, d1, c1_ok, asB_ok, h0, show ((0 : Nat) == 0) = true from rfl, scK_ok, d2, c1_ok, asB_ok, S.word, h0, bind_ok]
  dsimp only
  rw [show ((0 : Nat) == 0) = true from rfl, scK_ok, rB, c1_ok, asB_ok, bind_ok]
end
end Jq

/- VmPlain: whatever the input the call says true, and each argument reads behind it as before. No conditions. -/
namespace Go.Proofs.YtnjjcoobhpldcaaDoor.LVmPlain
open Go Jq Go.ChangeShapes Go.WideShapes Go.ChangeAt Go.RowKit
set_option linter.unusedVariables false

theorem own : ownKnob Tryd.prog.godebug = none := by kernel_rfl
theorem laidOut : laidOutB Tryd.prog = true := by kernel_rfl

theorem gN : Tryd.prog.globalNamed "math/bits.deBruijn64tab" = some 0 := by kernel_rfl
theorem met (os : Os) (args : Array Value) : laidMetH Tryd.prog Rows.vmPlainRow.laid ((World.doorLaid Tryd.prog 400 os).forCall (fun _ _ => 0) ⟨#[], args, []⟩).memory :=
  laidMetH_of_parts3 (fuel := 8) (laidMet_of_run' 8 (by kernel_rfl) (by kernel_rfl)) (by kernel_rfl) (by kernel_rfl)
theorem of_laid {W : World} (h : laidMetH Tryd.prog Rows.vmPlainRow.laid W) : ∀ i, i < deB.length → W.cell? ⟨0, i, none⟩ = some (.int .u8 (deB.getD i 0)) := by
  rw [MakeChecks.laidMetH_plain _ _ _ (by kernel_rfl)] at h
  have h := laidMet.tail h
  have hT := Lib.tabIs_of_head (zs := deB) (n := 64) gN (t := 154) (by kernel_rfl) (e := 5) (by kernel_rfl) (by kernel_rfl) (by kernel_rfl) (by kernel_rfl) h
  exact fun i hi => hT.cell gN i hi

set_option maxRecDepth 100000 in
theorem lifted (os : Os) (started : os.Started) (H : Type) (enc : TypeId × Value → H) :
    ReturnsInHanded {} Tryd.checked os 9 .any (fun w args => (Rows.vmPlainSpec.pre enc Tryd.prog Tryd.f9 [] false w args ∧ laidMetH Tryd.prog Rows.vmPlainRow.laid w) ∧ sizedMet enc Tryd.prog Tryd.f9 (OpenSpec.ofChange Rows.vmPlainSpec) false w args) (Rows.vmPlainSpec.post enc Tryd.prog Tryd.f9 false true false false) := by
  refine returnsInHanded_of_change_and (C := Tryd.checked) (X := fun w _ => laidMetH Tryd.prog Rows.vmPlainRow.laid w) (fun _ _ _ hh h => h.of_heap hh) own started (by kernel_rfl) Tryd.func9
    (ChangeSpec.witness_shaped (enc := enc) (C := Tryd.checked) (os := os) (X := fun w _ => laidMetH Tryd.prog Rows.vmPlainRow.laid w) false (World.doorLaid Tryd.prog 400 os) #[.slice none 0 0, .int .i64 0, .slice none 0 0] 8 rfl (World.shaped_of_RefB (by kernel_rfl) (by kernel_rfl)) (by kernel_rfl) (by kernel_rfl) (by kernel_rfl) (met os _)) ?_
  intro W base args ds gs before hval0 hW _ _ hL _
  have hval : ∀ (j : Nat) t v, Tryd.f9.params[j]? = some t → args[j]? = some v → Value.okWide Tryd.prog W .any base t v := hval0
  have hW' := hW
  obtain ⟨p, q, hA0, hV, rfl, hfz, hnd⟩ := hW
  have hA : DataW.TrodAll enc Tryd.prog W 0 (fun _ => true) true Tryd.f9.params.toList args.toList ds p := hA0
  rw [Tryd.params9] at hA hval
  obtain ⟨v0, vs0, d0, ds0, p0, q0, hargs, rfl, rfl, h0, r0⟩ := trodAll_cons hA
  obtain ⟨v1, vs1, d1, ds1, p1, q1, rfl, rfl, rfl, h1, r1⟩ := trodAll_cons r0
  obtain ⟨v2, vs2, d2, ds2, p2, q2, rfl, rfl, rfl, h2, r2⟩ := trodAll_cons r1
  obtain ⟨rfl, rfl, rfl⟩ := trodAll_nil r2
  obtain rfl : args = #[v0, v1, v2] := by cases args; simp_all
  obtain ⟨rfl, rfl⟩ := trodVars_none hV
  have lt0 : ∀ x ∈ p0, x.block < W.heap.size := by obtain ⟨m, hm⟩ := h0; exact DataW.trod_lt m _ _ _ hm
  have lt1 : ∀ x ∈ p1, x.block < W.heap.size := by obtain ⟨m, hm⟩ := h1; exact DataW.trod_lt m _ _ _ hm
  have lt2 : ∀ x ∈ p2, x.block < W.heap.size := by obtain ⟨m, hm⟩ := h2; exact DataW.trod_lt m _ _ _ hm
  have c := Come.tab1 (S := seat) (W := W) deB (fun _ => rfl) (of_laid hL)
  have k0 : ((.sl (.i .i64)) : Sh).chk seat.P 25 = true := by kernel_rfl
  obtain ⟨b0, ρ0, cs0, c0, e0, x0, a0, o0⟩ := opens_arg (S := seat) (W := W) (sh := (.sl (.i .i64))) k0 h0 (wide_of k0 (hval 0 25 v0 rfl rfl)) ⟨nofun, nofun⟩ c
  have k1 : ((.i .i64) : Sh).chk seat.P 3 = true := by kernel_rfl
  obtain ⟨b1, ρ1, cs1, c1, e1, x1, a1, o1⟩ := opens_arg (S := seat) (W := W) (sh := (.i .i64)) k1 h1 (wide_of k1 (hval 1 3 v1 rfl rfl)) ⟨nofun, nofun⟩ c0
  have k2 : ((.sl (.i .i64)) : Sh).chk seat.P 25 = true := by kernel_rfl
  obtain ⟨b2, ρ2, cs2, c2, e2, x2, a2, o2⟩ := opens_arg (S := seat) (W := W) (sh := (.sl (.i .i64))) k2 h2 (wide_of k2 (hval 2 25 v2 rfl rfl)) ⟨nofun, nofun⟩ c1
  obtain ⟨h', hR⟩ := VmPlain_law (E := env) tabOk in_221 (okC_mono x2 _ _ (okC_mono x1 _ _ o0)) (okC_mono x2 _ _ o1) o2
  refine (law_call (S := seat) (R_sound (S := seat) (E := env) rfl allOk) c2 (vals := #[v0, v1, v2]) (L2.cons (relA.mono e2 (relA.mono e1 a0)) (L2.cons (relA.mono e2 a1) (L2.cons a2 L2.nil))) hR).mono fun e W' ⟨he, bel⟩ => ?_
  subst he
  exact ⟨_, rfl, _, _, _, [], _, [], hW', trodAll_mk1 (shut_bool Tryd.underlying4 _), (trodAll_cons_mk (Below.trod laidOut (by kernel_rfl) (of_decide_eq_true (by kernel_rfl)) h0 bel lt0) (trodAll_cons_mk (Below.trod laidOut (by kernel_rfl) (of_decide_eq_true (by kernel_rfl)) h1 bel lt1) (trodAll_cons_mk (Below.trod laidOut (by kernel_rfl) (of_decide_eq_true (by kernel_rfl)) h2 bel lt2) trodAll_mk0))), rfl, bel.frame _, fun h => by cases h⟩

theorem over : Rows.vmPlainRow.holds Tryd.pinned (OpenSpec.ofChange Rows.vmPlainSpec) :=
  OpenClaim.holds_of_wide 9 Tryd.f9 rfl rfl rfl rfl rfl rfl rfl ⟨rfl, rfl, rfl, rfl, rfl⟩ rfl rfl rfl rfl rfl (by kernel_rfl) Tryd.func9 (by kernel_rfl)
    (of_decide_eq_true (by kernel_rfl)) (by unfold Func.isWrapper; first | (rw [if_pos (by decide +kernel)]; kernel_rfl) | (rw [if_neg (by decide +kernel)]; exact ⟨rfl, rfl⟩))
    (fun os started H enc _ => lifted os started H enc)

theorem proved : Rows.VmPlainCardSaid :=
  Claim7.holds_tied_plain_at .later [] [.data, .data, .data] true (true, "fbcc807f78fdf03f3d1dccb6a06178810c141046c856c49e25ab327e98756d6a") false
    over (fun _ h => by cases h) (by kernel_rfl) (fun _ h => by cases h) vmPlain_row_tie rfl ⟨rfl, rfl⟩ (by kernel_rfl) rfl
    (fun f fn hf hfn => by
      obtain rfl : f = 9 := Option.some.inj ((show Tryd.prog.funcNamed "jacquard/jacquardlaw16.VmPlain" = some 9 by kernel_rfl).symm.trans hf) |>.symm
      obtain rfl : fn = Tryd.f9 := (Option.some.inj (Tryd.func9.symm.trans hfn)).symm
      exact ⟨by kernel_rfl, fun j t ht => by
        rw [Tryd.params9] at ht
        have hm : t ∈ [25, 3, 25] := by simpa using Array.mem_of_getElem? ht
        have hall : ([25, 3, 25].all fun u => !Tryd.prog.wantsStandIn u) = true := by kernel_rfl
        exact (show Tryd.prog.wantsStandIn t = false by simpa using List.all_eq_true.1 hall t hm)⟩)
    (by kernel_rfl)
#print axioms proved

end Go.Proofs.YtnjjcoobhpldcaaDoor.LVmPlain

