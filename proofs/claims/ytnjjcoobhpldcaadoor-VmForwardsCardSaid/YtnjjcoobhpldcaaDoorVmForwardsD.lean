/- YtnjjcoobhpldcaaDoorVmForwardsD: a part of the proof; no conditions of its own. -/
import Derived.Test.YtnjjcoobhpldcaaDoorRows
import Derived.WalkKit
import Derived.ProofKit
import Derived.OpenShut
import Derived.ShutString
import Derived.ChangeOld
import Derived.Below
import Derived.Carry
import Derived.Test.YtnjjcoobhpldcaaDoorCards
import Derived.Test.YtnjjcoobhpldcaaDoorTie
import Derived.SevenTiedAt
import Derived.LaidMore
import Derived.Stop.Joined
import Derived.Lib.LaidTab
import Derived.MakeChecks
import Derived.LaidHandle
import Derived.Stop.LaidErr
import Derived.Test.YtnjjcoobhpldcaaDoorVmForwardsC
set_option linter.unusedVariables false
set_option linter.unusedSimpArgs false

/- VmEnds: however it is picked a machine is done. -/
namespace Jq
open Go

theorem g_rem3 {E : Env} (a : Int) : 0 ≤ E.glob.rem .i64 (E.glob.band .i64 a 255) 3 ∧ E.glob.rem .i64 (E.glob.band .i64 a 255) 3 < 3 := by
  refine rem_rng ?_ (by omega)
  rw [g_band255]; omega

theorem bits_none {V : MV} : (bitsL V.word).length = 0 ↔ V.word = 0 := by
  rw [List.length_eq_zero_iff]
  exact bitsL_nil V.word_lt

section
variable {E : Env}

end
end Jq

/- Machines: what a run's steps tell. -/

namespace Jq
open Go

/-- What a thread's step is. -/
structure ThrStep (V : MV) (i : Nat) (s : Stp) : Prop where
  t : s.t = (i : Int)
  kind : 1 ≤ s.kind ∧ s.kind ≤ 5
  loc : 0 ≤ s.loc ∧ s.loc < 4
  free : s.kind = 3 ∨ s.kind = 4 ∨ s.kind = 5 → V.b i = []
  read : s.kind = 1 ∨ s.kind = 4 ∨ s.kind = 5 → s.r = (match newE s.loc (V.b i) with | some e => e.val | none => V.mem.getD s.loc.toNat 0) ∧ s.frm = (match newE s.loc (V.b i) with | some e => e.id | none => V.frm.getD s.loc.toNat 0)
  b : ∀ t, (V.nx i).b t = if t = i ∧ isSt V.m s = true then V.b i ++ [⟨s.loc, s.w, V.st.length⟩] else V.b t
  mem : ∀ c, (V.nx i).mem.getD c 0 = if (s.kind = 4 ∨ (s.kind = 2 ∧ V.m = 1)) ∧ c = s.loc.toNat then s.w else V.mem.getD c 0
  frm : ∀ c, (V.nx i).frm.getD c 0 = if (s.kind = 4 ∨ (s.kind = 2 ∧ V.m = 1)) ∧ c = s.loc.toNat then (V.st.length : Int) else V.frm.getD c 0

theorem evOf_cases (q : Ins) (l : Lcl) (v : Int) (hk : 1 ≤ q.kind ∧ q.kind ≤ 4) : ((evOf q l v).kind = 3 ↔ q.kind = 3) ∧ (((evOf q l v).kind = 4 ∨ (evOf q l v).kind = 5) ↔ q.kind = 4) ∧ ((evOf q l v).kind = 1 ↔ q.kind = 2) ∧ ((evOf q l v).kind = 1 ∨ (evOf q l v).kind = 4 ∨ (evOf q l v).kind = 5 → (evOf q l v).r = v ∧ (evOf q l v).loc = q.loc ∧ rdI q = true) := by
  unfold evOf
  by_cases h1 : q.kind = 1
  · rw [if_pos h1]; dsimp only; refine ⟨by omega, by omega, by omega, fun h => by omega⟩
  · rw [if_neg h1]
    by_cases h2 : q.kind = 2
    · rw [if_pos h2]; dsimp only; exact ⟨by omega, by omega, by omega, fun _ => ⟨rfl, rfl, by unfold rdI; exact decide_eq_true (.inl h2)⟩⟩
    · rw [if_neg h2]
      by_cases h4 : q.kind = 4
      · rw [if_pos h4]
        have hr : rdI q = true := by unfold rdI; exact decide_eq_true (.inr h4)
        split <;> exact ⟨by dsimp only; omega, by dsimp only; omega, by dsimp only; omega, fun _ => ⟨rfl, rfl, hr⟩⟩
      · rw [if_neg h4]; dsimp only; exact ⟨by omega, by omega, by omega, fun h => by omega⟩

theorem MV.Inv.thr_step {V : MV} (v : V.Inv) {i : Nat} (h4 : i < 4) (hi : V.may i = true) : ThrStep V i (V.stp i) := by
  have f := v.fit
  have hq := MV.may_thr h4 hi
  have hS : V.stp i = { V.thrS i (V.thrI i) with pick := i } := by unfold MV.stp; rw [if_pos h4]
  have hN : V.nx i = { V.thrM i (V.thrI i) with st := V.st ++ [V.stp i] } := by unfold MV.nx; rw [if_pos h4]
  have hB := v.thrB h4 (V.thrI i)
  generalize hqq : V.thrI i = q at *
  obtain ⟨q1, q2, q3, q4, q5⟩ := v.nxt hq
  have hfree : q.kind = 3 ∨ q.kind = 4 → V.b i = [] := fun h => by
    unfold MV.may MV.mayT at hi
    rw [if_pos h4, hq] at hi
    dsimp only at hi
    have : (q.kind == 3 || q.kind == 4) = true := by rw [Bool.or_eq_true, beq_iff_eq, beq_iff_eq]; exact h
    rw [this] at hi
    simpa using hi
  obtain ⟨e1, e2, e3, e4⟩ := evOf_cases q (V.l i) (V.val i q).1 q2
  have hev := evOf_loc (l := V.l i) (v := (V.val i q).1) q1
  have hkk := evOf_kinds q (V.l i) (V.val i q).1
  generalize hee : evOf q (V.l i) (V.val i q).1 = e at *
  have eS : V.stp i = ⟨i, i, e.kind, e.loc, e.r, e.w, if rdI q = true then (V.val i q).2 else -1⟩ := by
    rw [hS]; unfold MV.thrS; rw [hee]
  have hW : ∀ W : MV, W = V.wr i e → ∀ c, W.mem.getD c 0 = (if (e.kind = 4 ∨ (e.kind = 2 ∧ V.m = 1)) ∧ c = e.loc.toNat then e.w else V.mem.getD c 0) ∧ W.frm.getD c 0 = (if (e.kind = 4 ∨ (e.kind = 2 ∧ V.m = 1)) ∧ c = e.loc.toNat then (V.st.length : Int) else V.frm.getD c 0) := by
    rintro W rfl c
    unfold MV.wr
    by_cases h2 : e.kind = 2 ∧ V.m ≠ 1
    · rw [if_pos h2, if_neg (fun q => by omega), if_neg (fun q => by omega)]
      exact ⟨rfl, rfl⟩
    · rw [if_neg h2]
      by_cases hw : evWr e = true
      · have hw' : e.kind = 2 ∨ e.kind = 4 := by unfold evWr at hw; simpa using hw
        rw [if_pos hw]
        dsimp only
        rw [getDset (by rw [f.mem]; omega), getDset (by rw [f.frm]; omega)]
        by_cases hc : c = e.loc.toNat
        · rw [if_pos hc, if_pos hc, if_pos ⟨by omega, hc⟩, if_pos ⟨by omega, hc⟩]; exact ⟨rfl, rfl⟩
        · rw [if_neg hc, if_neg hc, if_neg (fun q => hc q.2), if_neg (fun q => hc q.2)]; exact ⟨rfl, rfl⟩
      · have hw' : ¬ (e.kind = 2 ∨ e.kind = 4) := by unfold evWr at hw; simpa using hw
        rw [if_neg hw, if_neg (fun q => by omega), if_neg (fun q => by omega)]
        exact ⟨rfl, rfl⟩
  refine ⟨by rw [eS], by rw [eS]; exact hkk, by rw [eS]; exact hev, fun h => ?_, fun h => ?_, fun t => ?_, fun c => ?_, fun c => ?_⟩
  · rw [eS] at h
    dsimp only at h
    refine hfree ?_
    rcases h with h | h
    · exact .inl (e1.1 h)
    · exact .inr (e2.1 h)
  · rw [eS] at h ⊢
    dsimp only at h ⊢
    obtain ⟨k1, k2, k3⟩ := e4 h
    rw [k3, if_pos rfl, k1, k2]
    unfold MV.val
    cases newE q.loc (V.b i) <;> exact ⟨rfl, rfl⟩
  · rw [hN]
    show (V.thrM i q).b t = _
    rw [hB, eS]
    have hiff : isSt V.m ⟨i, i, e.kind, e.loc, e.r, e.w, if rdI q = true then (V.val i q).2 else -1⟩ = true ↔ (e.kind = 2 ∧ V.m ≠ 1) := by
      unfold isSt
      rw [Bool.and_eq_true, beq_iff_eq, bne_iff_ne]
    by_cases hc : t = i ∧ e.kind = 2 ∧ V.m ≠ 1
    · rw [if_pos hc, if_pos ⟨hc.1, hiff.2 hc.2⟩]
    · rw [if_neg hc, if_neg (fun q => hc ⟨q.1, hiff.1 q.2⟩)]
  · rw [hN, eS]
    show (V.thrM i q).mem.getD c 0 = _
    unfold MV.thrM
    rw [hee]
    exact (hW (V.wr i e) rfl c).1
  · rw [hN, eS]
    show (V.thrM i q).frm.getD c 0 = _
    unfold MV.thrM
    rw [hee]
    exact (hW (V.wr i e) rfl c).2

/-- What a flush's step is. -/
structure FluStep (V : MV) (i : Nat) (s : Stp) (t : Nat) (p : Ent → Bool) (e : Ent) : Prop where
  t4 : t < 4
  s : s = ⟨i, t, 6, e.loc, 0, e.val, e.id⟩
  f : (V.b t).find? p = some e
  pe : ∀ x, p x = (decide (V.m = 2) || x.loc == e.loc)
  m : V.m = 2 ∨ V.m = 3
  b : ∀ t', (V.nx i).b t' = if t' = t then (V.b t).eraseP p else V.b t'
  mem : ∀ c, (V.nx i).mem.getD c 0 = if c = e.loc.toNat then e.val else V.mem.getD c 0
  frm : ∀ c, (V.nx i).frm.getD c 0 = if c = e.loc.toNat then e.id else V.frm.getD c 0

theorem MV.Inv.flu_step {V : MV} (v : V.Inv) {i : Nat} (h4 : ¬ i < 4) (hi : V.may i = true) : ∃ t p e, FluStep V i (V.stp i) t p e := by
  obtain ⟨t, loc, e, ht, hf, hs, hm1, hnx⟩ := MV.may_flu h4 hi
  have f := v.fit
  have hm := f.m
  have he := v.mem_b (List.mem_of_find?_eq_some hf)
  have hpe := List.find?_some hf
  refine ⟨t, oldP (bmod V.m) loc, e, ht, hs, hf, fun x => ?_, by omega, fun t' => ?_, fun c => ?_, fun c => ?_⟩
  · rcases (show V.m = 2 ∨ V.m = 3 by omega) with h | h
    · rw [h]; rfl
    · rw [h] at hpe ⊢
      have hl : e.loc = loc := by
        unfold oldP bmod at hpe
        simpa using hpe
      rw [hl]; rfl
  · rw [hnx]
    show (V.bf.set t _).getD t' [] = _
    rw [getDset (by rw [f.bf]; exact ht)]; rfl
  · rw [hnx]
    show (V.mem.set _ _).getD c 0 = _
    rw [getDset (by rw [f.mem]; omega)]
  · rw [hnx]
    show (V.frm.set _ _).getD c 0 = _
    rw [getDset (by rw [f.frm]; omega)]

/-- Stores that wait, and what has come to memory. -/
structure Hist (V : MV) : Prop where
  ids : ∀ t, (V.b t).Pairwise fun a b => a.id < b.id
  ent : ∀ t, ∀ e ∈ V.b t, ∃ k : Nat, e.id = (k : Int) ∧ ∃ s, V.st[k]? = some s ∧ s.kind = 2 ∧ s.t = (t : Int) ∧ s.loc = e.loc ∧ s.w = e.val ∧ ∀ (j : Nat) (u : Stp), V.st[j]? = some u → u.kind = 6 → u.frm ≠ e.id
  sto : ∀ (k : Nat) (s : Stp), V.st[k]? = some s → isSt V.m s = true → (∃ t : Nat, s.t = (t : Int) ∧ ∃ e ∈ V.b t, e.id = (k : Int)) ∨ ∃ (j : Nat) (u : Stp), k < j ∧ V.st[j]? = some u ∧ u.kind = 6 ∧ u.frm = (k : Int)
  flu : ∀ (j : Nat) (u : Stp), V.st[j]? = some u → u.kind = 6 → 0 ≤ u.t ∧ ∀ t : Nat, u.t = (t : Int) → ∀ e ∈ V.b t, (V.m = 3 → e.loc = u.loc) → u.frm < e.id
  b4 : ∀ t, 4 ≤ t → V.b t = []
  own : V.m = 1 → ∀ t, V.b t = []
  len : ∀ (k : Nat) (s : Stp), V.st[k]? = some s → s.kind = 6 → ∃ f : Nat, s.frm = (f : Int) ∧ f < k

theorem eraseP_idx' {l : List Ent} {p : Ent → Bool} {e : Ent} (he : l.find? p = some e) : ∃ j, l.findIdx? p = some j ∧ l[j]? = some e ∧ l.eraseP p = l.take j ++ l.drop (j + 1) := by
  obtain ⟨j, hj⟩ : ∃ j, l.findIdx? p = some j := by
    cases hx : l.findIdx? p with
    | some j => exact ⟨j, rfl⟩
    | none =>
      rw [List.findIdx?_eq_none_iff] at hx
      have := hx e (List.mem_of_find?_eq_some he)
      rw [List.find?_some he] at this; cases this
  obtain ⟨h1, h2, h3⟩ := List.findIdx?_eq_some_iff_getElem.1 hj
  have hfi : l.find? p = some l[j] := by
    rw [List.find?_eq_some_iff_getElem]
    exact ⟨h2, j, h1, rfl, fun k hk => by have := h3 k hk; simpa using this⟩
  rw [hfi] at he
  refine ⟨j, hj, by rw [List.getElem?_eq_getElem h1]; exact he, ?_⟩
  rw [List.eraseP_eq_eraseIdx, hj]
  exact List.eraseIdx_eq_take_drop_succ _ _

theorem getI_snoc {α : Type} {l : List α} {x : α} {k : Nat} {s : α} (h : (l ++ [x])[k]? = some s) : (k < l.length ∧ l[k]? = some s) ∨ (k = l.length ∧ s = x) := by
  rcases Nat.lt_or_ge k l.length with hk | hk
  · rw [List.getElem?_append_left hk] at h; exact .inl ⟨hk, h⟩
  · rw [List.getElem?_append_right hk] at h
    have : k - l.length = 0 := by
      rcases Nat.eq_zero_or_pos (k - l.length) with q | q
      · exact q
      · rw [List.getElem?_eq_none (by simp; omega)] at h; cases h
    rw [this] at h
    simp at h
    exact .inr ⟨by omega, h.symm⟩
theorem getI_old {α : Type} {l : List α} {x : α} {k : Nat} {s : α} (h : l[k]? = some s) : (l ++ [x])[k]? = some s := by
  rw [List.getElem?_append_left (getI_lt h)]; exact h
theorem getI_new {α : Type} {l : List α} {x : α} : (l ++ [x])[l.length]? = some x := by simp

theorem Hist.new (P : PProg) (m : Int) : Hist (MV.new P m) := by
  have hs : ∀ (k : Nat) (s : Stp), (MV.new P m).st[k]? = some s → False := fun k s h => by
    have : (MV.new P m).st = [] := rfl
    rw [this] at h; simp at h
  refine ⟨fun t => by rw [new_b]; exact List.Pairwise.nil, fun t e he => by rw [new_b] at he; simp at he, fun k s h => (hs k s h).elim, fun k s h => (hs k s h).elim, fun t _ => new_b P m t, fun _ t => new_b P m t, fun k s h => (hs k s h).elim⟩

theorem MV.Inv.hist_nx {V : MV} (v : V.Inv) (H : Hist V) {i : Nat} (hi : V.may i = true) : Hist (V.nx i) := by
  have hmm : (V.nx i).m = V.m := (V.nx_P i).2
  have hst : (V.nx i).st = V.st ++ [V.stp i] := V.nx_st i
  have elt : ∀ t, ∀ e ∈ V.b t, e.id < V.st.length := fun t e he => by
    obtain ⟨k, hk, s, hs, _⟩ := H.ent t e he
    have := getI_lt hs; omega
  by_cases h4 : i < 4
  · have T := v.thr_step h4 hi
    generalize V.stp i = s at *
    have hk6 : s.kind ≠ 6 := by have := T.kind; omega
    have hmem : ∀ t e, e ∈ (V.nx i).b t → e ∈ V.b t ∨ (t = i ∧ isSt V.m s = true ∧ e = ⟨s.loc, s.w, V.st.length⟩) := fun t e he => by
      rw [T.b] at he
      split at he
      · rename_i hc
        rcases List.mem_append.1 he with h | h
        · exact .inl (hc.1 ▸ h)
        · exact .inr ⟨hc.1, hc.2, List.mem_singleton.1 h⟩
      · exact .inl he
    have hsub : ∀ t e, e ∈ V.b t → e ∈ (V.nx i).b t := fun t e he => by
      rw [T.b]
      split
      · rename_i hc; exact List.mem_append_left _ (hc.1 ▸ he)
      · exact he
    refine ⟨fun t => ?_, fun t e he => ?_, fun k u hu hs => ?_, fun j u hu h6 => ?_, fun t ht => ?_, fun hm t => ?_, fun k u hu h6 => ?_⟩
    · rw [T.b]
      split
      · rw [List.pairwise_append]
        refine ⟨H.ids i, by simp, fun a ha b hb => ?_⟩
        rw [List.mem_singleton] at hb
        subst hb
        exact elt i a ha
      · exact H.ids t
    · rw [hst]
      rcases hmem t e he with h | ⟨h1, h2, h3⟩
      · obtain ⟨k, hk, u, hu, h1, h2, h3, h4', h5⟩ := H.ent t e h
        refine ⟨k, hk, u, getI_old hu, h1, h2, h3, h4', fun j w hw h6 => ?_⟩
        rcases getI_snoc hw with ⟨_, hw⟩ | ⟨_, rfl⟩
        · exact h5 j w hw h6
        · exact absurd h6 hk6
      · subst h3
        have h2' := h2
        unfold isSt at h2'
        rw [Bool.and_eq_true, beq_iff_eq] at h2'
        refine ⟨V.st.length, rfl, s, getI_new, h2'.1, by rw [T.t, h1], rfl, rfl, fun j w hw h6 => ?_⟩
        rcases getI_snoc hw with ⟨hl, hw⟩ | ⟨_, rfl⟩
        · obtain ⟨f, hf, hfl⟩ := H.len j w hw h6
          dsimp only; omega
        · exact absurd h6 hk6
    · rw [hst] at hu
      rw [hmm] at hs
      rcases getI_snoc hu with ⟨hl, hu⟩ | ⟨hl, rfl⟩
      · rcases H.sto k u hu hs with ⟨t, h1, e, he, h2⟩ | ⟨j, w, h1, h2, h3⟩
        · exact .inl ⟨t, h1, e, hsub t e he, h2⟩
        · exact .inr ⟨j, w, h1, by rw [hst]; exact getI_old h2, h3⟩
      · refine .inl ⟨i, T.t, ⟨u.loc, u.w, V.st.length⟩, ?_, by rw [hl]⟩
        rw [T.b, if_pos ⟨rfl, hs⟩]
        exact List.mem_append_right _ (List.mem_singleton.2 rfl)
    · rw [hst] at hu
      rcases getI_snoc hu with ⟨hl, hu⟩ | ⟨hl, rfl⟩
      · obtain ⟨a1, a2⟩ := H.flu j u hu h6
        refine ⟨a1, fun t ht e he hloc => ?_⟩
        rw [hmm] at hloc
        rcases hmem t e he with h | ⟨_, _, h3⟩
        · exact a2 t ht e h hloc
        · obtain ⟨f, hf, hfl⟩ := H.len j u hu h6
          subst h3
          dsimp only; omega
      · exact absurd h6 hk6
    · rw [T.b, if_neg (fun c => by omega)]; exact H.b4 t ht
    · rw [hmm] at hm
      have hns : ¬ (t = i ∧ isSt V.m s = true) := fun c => by
        have := c.2
        rw [hm] at this
        simp [isSt] at this
      rw [T.b, if_neg hns]; exact H.own hm t
    · rw [hst] at hu
      rcases getI_snoc hu with ⟨hl, hu⟩ | ⟨hl, rfl⟩
      · exact H.len k u hu h6
      · exact absurd h6 hk6
  · obtain ⟨t0, p, e0, F⟩ := v.flu_step h4 hi
    have he0 := List.mem_of_find?_eq_some F.f
    have hs0 := F.s
    have hsub : ∀ t e, e ∈ (V.nx i).b t → e ∈ V.b t := fun t e he => by
      rw [F.b] at he
      split at he
      · rename_i hc; rw [hc]; exact List.mem_of_mem_eraseP he
      · exact he
    -- what comes to memory is the first that may
    obtain ⟨j0, hj0, hje, her⟩ := eraseP_idx' F.f
    have hout : ∀ e ∈ (V.nx i).b t0, e.id ≠ e0.id := fun e he => by
      rw [F.b, if_pos rfl, her] at he
      have pw := H.ids t0
      rw [List.pairwise_iff_getElem] at pw
      rcases List.mem_append.1 he with h | h
      · obtain ⟨a, ha, rfl⟩ := List.mem_iff_getElem.1 h
        rw [List.length_take] at ha
        rw [List.getElem_take]
        have hjl := getI_lt hje
        have := pw a j0 (by omega) hjl (by omega)
        rw [List.getElem?_eq_getElem hjl] at hje
        cases hje
        omega
      · obtain ⟨a, ha, rfl⟩ := List.mem_iff_getElem.1 h
        rw [List.length_drop] at ha
        rw [List.getElem_drop]
        have hjl := getI_lt hje
        have := pw j0 (j0 + 1 + a) hjl (by omega) (by omega)
        rw [List.getElem?_eq_getElem hjl] at hje
        cases hje
        omega
    refine ⟨fun t => ?_, fun t e he => ?_, fun k u hu hs => ?_, fun j u hu h6 => ?_, fun t ht => ?_, fun hm t => ?_, fun k u hu h6 => ?_⟩
    · rw [F.b]
      split
      · exact List.Pairwise.sublist List.eraseP_sublist (H.ids t0)
      · exact H.ids t
    · rw [hst]
      obtain ⟨k, hk, u, hu, h1, h2, h3, h4', h5⟩ := H.ent t e (hsub t e he)
      refine ⟨k, hk, u, getI_old hu, h1, h2, h3, h4', fun j w hw h6 => ?_⟩
      rcases getI_snoc hw with ⟨_, hw⟩ | ⟨_, hw⟩
      · exact h5 j w hw h6
      · rw [hw, hs0]
        dsimp only
        intro q
        by_cases htt : t = t0
        · subst htt; exact hout e he q.symm
        · obtain ⟨k', hk', u', hu', _, h2', _⟩ := H.ent t0 e0 he0
          have : k' = k := by omega
          subst this
          rw [hu] at hu'
          cases hu'
          omega
    · rw [hst] at hu
      rw [hmm] at hs
      rcases getI_snoc hu with ⟨hl, hu⟩ | ⟨hl, hu⟩
      · rcases H.sto k u hu hs with ⟨t, h1, e, he, h2⟩ | ⟨j, w, h1, h2, h3⟩
        · by_cases hee : e.id = e0.id
          · refine .inr ⟨V.st.length, V.stp i, getI_lt hu, by rw [hst]; exact getI_new, by rw [hs0], by rw [hs0]; dsimp only; omega⟩
          · refine .inl ⟨t, h1, e, ?_, h2⟩
            rw [F.b]
            split
            · rename_i hc
              rw [her]
              rw [hc, ← List.take_append_drop j0 (V.b t0)] at he
              rcases List.mem_append.1 he with h | h
              · exact List.mem_append_left _ h
              · have hd : (V.b t0).drop j0 = e0 :: (V.b t0).drop (j0 + 1) := by
                  have hjl := getI_lt hje
                  rw [List.getElem?_eq_getElem hjl] at hje
                  cases hje
                  exact (List.getElem_cons_drop (h := hjl)).symm
                rw [hd] at h
                rcases List.mem_cons.1 h with rfl | h
                · exact absurd rfl hee
                · exact List.mem_append_right _ h
            · exact he
        · exact .inr ⟨j, w, h1, by rw [hst]; exact getI_old h2, h3⟩
      · rw [hu, hs0] at hs
        simp [isSt] at hs
    · rw [hst] at hu
      rcases getI_snoc hu with ⟨hl, hu⟩ | ⟨hl, hu⟩
      · obtain ⟨a1, a2⟩ := H.flu j u hu h6
        exact ⟨a1, fun t ht e he hloc => a2 t ht e (hsub t e he) (by rw [hmm] at hloc; exact hloc)⟩
      · subst hu
        rw [hs0]
        dsimp only
        refine ⟨by omega, fun t ht e he hloc => ?_⟩
        have htt : t = t0 := by omega
        subst htt
        rw [hmm] at hloc
        have hne := hout e he
        have he' := he
        rw [F.b, if_pos rfl, her] at he'
        have pw := H.ids t
        rw [List.pairwise_iff_getElem] at pw
        have hjl := getI_lt hje
        rw [List.getElem?_eq_getElem hjl] at hje
        cases hje
        rcases List.mem_append.1 he' with h | h
        · -- ahead of it: one that would have come first
          exfalso
          obtain ⟨a, ha, hae⟩ := List.mem_iff_getElem.1 h
          rw [List.length_take] at ha
          rw [List.getElem_take] at hae
          obtain ⟨_, _, h3⟩ := List.findIdx?_eq_some_iff_getElem.1 hj0
          have hpf := h3 a (by omega)
          rw [hae] at hpf
          rw [F.pe e] at hpf
          rcases F.m with hm | hm
          · rw [decide_eq_true hm] at hpf; simp at hpf
          · rw [hloc hm] at hpf; simp at hpf
        · obtain ⟨a, ha, hae⟩ := List.mem_iff_getElem.1 h
          rw [List.length_drop] at ha
          rw [List.getElem_drop] at hae
          have := pw j0 (j0 + 1 + a) hjl (by omega) (by omega)
          rw [hae] at this
          exact this
    · rw [F.b, if_neg (fun c => by have := F.t4; omega)]; exact H.b4 t ht
    · rw [hmm] at hm
      have := F.m; omega
    · rw [hst] at hu
      rcases getI_snoc hu with ⟨hl, hu⟩ | ⟨hl, hu⟩
      · exact H.len k u hu h6
      · obtain ⟨k', hk', u', hu', _⟩ := H.ent t0 e0 he0
        refine ⟨k', by rw [hu, hs0]; exact hk', by have := getI_lt hu'; omega⟩
end Jq

/- VmFirst: stores of a thread come to memory in its order. -/
namespace Jq
open Go

/-- Two flushes in order. -/
def inOrd (m : Int) (a b : Stp) : Prop := a.kind = 6 → b.kind = 6 → a.t = b.t → (m = 3 → a.loc = b.loc) → a.frm < b.frm

/-- All earlier stores of a step's thread have come to memory. -/
def drainD (l : List Stp) (k : Nat) (s : Stp) : Prop := ∀ (j : Nat) (u : Stp), j < k → l[j]? = some u → u.t = s.t → u.kind = 2 → ∃ (w : Nat) (x : Stp), j < w ∧ w < k ∧ l[w]? = some x ∧ x.kind = 6 ∧ x.frm = (j : Int)

structure First (V : MV) : Prop where
  hist : Hist V
  ord : V.st.Pairwise (inOrd V.m)
  dr : V.m ≠ 1 → ∀ (k : Nat) (s : Stp), V.st[k]? = some s → s.kind = 3 ∨ s.kind = 4 ∨ s.kind = 5 → drainD V.st k s

theorem First.new (P : PProg) (m : Int) : First (MV.new P m) := ⟨Hist.new P m, List.Pairwise.nil, fun _ k s h => by
  have : (MV.new P m).st = [] := rfl
  rw [this] at h; simp at h⟩

/-- Is it flushed there? -/
def flB (l : List Stp) (j w : Nat) : Bool := match l[w]? with
  | some u => u.kind == 6 && u.frm == (j : Int)
  | none => false
def wB (l : List Stp) (j k : Nat) : Bool := !((List.range (k - (j + 1))).any fun i => flB l j (j + 1 + i))

theorem wB_false {l : List Stp} {j k w : Nat} {x : Stp} (h1 : j < w) (h2 : w < k) (hx : l[w]? = some x) (hk : x.kind = 6) (hf : x.frm = (j : Int)) : wB l j k = false := by
  unfold wB
  rw [Bool.not_eq_false', List.any_eq_true]
  refine ⟨w - (j + 1), List.mem_range.2 (by omega), ?_⟩
  rw [show j + 1 + (w - (j + 1)) = w by omega]
  unfold flB
  rw [hx]
  dsimp only
  rw [hk, hf]; simp

theorem stp_fld {h : AHeap} {y : Cell} {l : List Stp} (o : SlAt h y 7 (stepsC l) l.length) {i : Nat} {s : Stp} (hq : l[i]? = some s) (j : Nat) (hj : j < 7) {v : Int} (hv : s.cs[j]? = some (.int .i64 v)) {α : Type} {f : Cell → Option α} :
    (idxSK 7 y (i : Int) fun k N o => rdH h k N fun l => atK l (o + j) f) = f (.int .i64 v) := o.get (getI_lt hq) hj (stepsC_cell hq hj hv)

section
variable {E : Env}

theorem waits_R (hE : jacquardlaw16_waits_In E) {h : AHeap} {y : Cell} {l : List Stp} (o : SlAt h y 7 (stepsC l) l.length) (hl : l.length < 1000000) {j k : Nat} (hj : j < k) (hk : k ≤ l.length) {m : Int} (hm : m ≠ 1) :
    R E 177 [.c y, .c (.int .i64 (j : Int)), .c (.int .i64 (k : Int)), .c (.int .i64 m)] h = some ([.c (.bool (wB l j k))], h) := by
  refine R_intro hE.fn ?_
  have ga := Lim_any (F := jacquardlaw16_waits_F1 (R E) Lim E.glob) (fun i => jacquardlaw16_waits_s1 y (j : Int) (k : Int) ((j + 1 + i : Nat) : Int) h) (fun i => flB l j (j + 1 + i)) (.ret, jacquardlaw16_waits_x1_0 false h) (.exit 0, jacquardlaw16_waits_x1_1 h) (k - (j + 1)) (fun i hi => by
    obtain ⟨s, hs⟩ : ∃ s, l[j + 1 + i]? = some s := ⟨_, List.getElem?_eq_getElem (by omega)⟩
    rw [jacquardlaw16_waits_r1, if_pos (decide_eq_true (by omega)), stp_fld o hs 2 (by omega) rfl, asI_ok]
    rw [show flB l j (j + 1 + i) = (s.kind == 6 && s.frm == (j : Int)) by unfold flB; rw [hs]]
    have e2 : ∀ {α : Type} (f : Bool → AHeap → Option α), (scK (s.kind == 6) true (idxSK 7 y ((j + 1 + i : Nat) : Int) fun k_7 N_8 o_9 => rdH h k_7 N_8 fun l_10 => atK l_10 (o_9 + 6) fun q_11 => asI .i64 (.c q_11) fun n_12 => some ((n_12 == (j : Int)), h)) false h f) = f (s.kind == 6 && s.frm == (j : Int)) h := fun f => by
      rw [stp_fld o hs 6 (by omega) rfl, asI_ok, scK_and]
    refine (e2 _).trans ?_
    rw [g_succ (by omega)]
    rfl) (by simp) (by rw [jacquardlaw16_waits_r1, if_neg (by rw [decide_eq_false (by omega)]; simp)]) (by simp)
  rw [jacquardlaw16_waits_eq, if_neg (by rw [beq_iff_eq]; exact hm), g_succ (by omega)]
  have ga' : Lim (jacquardlaw16_waits_F1 (R E) Lim E.glob) (jacquardlaw16_waits_s1 y (j : Int) (k : Int) ((j + 1 : Nat) : Int) h) = _ := ga
  rw [ga', bind_ok]
  unfold wB
  split
  · rename_i hc; rw [hc]; dsimp only; rw [jacquardlaw16_waits_e1_0]; rfl
  · rename_i hc
    rw [Bool.not_eq_true] at hc
    rw [hc]; dsimp only; rw [jacquardlaw16_waits_e1_1]; rfl

end
end Jq

/- VmForwards: a thread reads its own newest store, as long as it waits; else what came to memory last. -/
namespace Jq
open Go

/-- The last that came to memory. -/
def fwdN (l : List Stp) (m c : Int) : Nat → Int
  | 0 => -1
  | k + 1 => match l[k]? with
    | some s => if s.loc = c ∧ wrS s m = true then (if s.kind = 6 then s.frm else (k : Int)) else fwdN l m c k
    | none => fwdN l m c k
/-- The last of a thread's own that waits. -/
def pndB (l : List Stp) (m t c : Int) (i : Nat) (k : Nat) (s : Stp) : Bool := s.t == t && s.kind == 2 && s.loc == c && (m != 1 && wB l k i)
def pndN (l : List Stp) (m t c : Int) (i : Nat) (d : Int) : Nat → Int
  | 0 => d
  | k + 1 => match l[k]? with
    | some s => if pndB l m t c i k s = true then (k : Int) else pndN l m t c i d k
    | none => pndN l m t c i d k

theorem flB_app {l : List Stp} {x : Stp} {j w : Nat} (h : w < l.length) : flB (l ++ [x]) j w = flB l j w := by
  unfold flB; rw [List.getElem?_append_left h]
theorem wB_app {l : List Stp} {x : Stp} {j k : Nat} (h : k ≤ l.length) : wB (l ++ [x]) j k = wB l j k := by
  unfold wB
  congr 1
  have : ∀ (t : List Nat), (∀ i ∈ t, j + 1 + i < l.length) → (t.any fun i => flB (l ++ [x]) j (j + 1 + i)) = t.any fun i => flB l j (j + 1 + i) := fun t => by
    induction t with
    | nil => intro _; rfl
    | cons a t ih =>
      intro ha
      rw [List.any_cons, List.any_cons, flB_app (ha a List.mem_cons_self), ih fun i hi => ha i (List.mem_cons_of_mem _ hi)]
  exact this _ fun i hi => by rw [List.mem_range] at hi; omega
theorem fwdN_app {l : List Stp} {x : Stp} {m c : Int} : ∀ k, k ≤ l.length → fwdN (l ++ [x]) m c k = fwdN l m c k
  | 0, _ => rfl
  | k + 1, h => by
    unfold fwdN
    rw [List.getElem?_append_left (by omega), fwdN_app k (by omega)]
theorem pndN_app {l : List Stp} {x : Stp} {m t c : Int} {i : Nat} {d : Int} (hi : i ≤ l.length) : ∀ k, k ≤ l.length → pndN (l ++ [x]) m t c i d k = pndN l m t c i d k
  | 0, _ => rfl
  | k + 1, h => by
    unfold pndN pndB
    rw [List.getElem?_append_left (by omega), pndN_app hi k (by omega), wB_app hi]

theorem pndN_none {l : List Stp} {m t c : Int} {i : Nat} {d : Int} : ∀ n, (∀ k s, k < n → l[k]? = some s → pndB l m t c i k s = false) → pndN l m t c i d n = d
  | 0, _ => rfl
  | n + 1, h => by
    unfold pndN
    rw [pndN_none n fun k s hk hs => h k s (by omega) hs]
    cases hs : l[n]? with
    | none => rfl
    | some s => dsimp only; rw [h n s (by omega) hs]; rfl
theorem pndN_some {l : List Stp} {m t c : Int} {i : Nat} {d : Int} {K : Nat} {u : Stp} (hu : l[K]? = some u) (hp : pndB l m t c i K u = true) : ∀ n, K < n → (∀ k s, K < k → k < n → l[k]? = some s → pndB l m t c i k s = false) → pndN l m t c i d n = (K : Int)
  | 0, h, _ => by omega
  | n + 1, hn, h => by
    unfold pndN
    by_cases e : K = n
    · subst e; rw [hu]; dsimp only; rw [if_pos hp]
    · rw [pndN_some hu hp n (by omega) fun k s h1 h2 hs => h k s h1 (by omega) hs]
      cases hs : l[n]? with
      | none => rfl
      | some s => dsimp only; rw [h n s (by omega) (by omega) hs]; rfl

theorem snoc_ind {α : Type} {p : List α → Prop} (h0 : p []) (hs : ∀ l a, p l → p (l ++ [a])) : ∀ l, p l := by
  intro l
  rw [← List.reverse_reverse l]
  induction l.reverse with
  | nil => exact h0
  | cons a t ih => rw [List.reverse_cons]; exact hs _ _ ih

theorem newE_snocF (loc : Int) (l : List Ent) (e : Ent) : newE loc (l ++ [e]) = if e.loc = loc then some e else newE loc l := by
  unfold newE
  rw [List.reverse_append, List.reverse_singleton, List.singleton_append, List.find?_cons]
  by_cases h : e.loc = loc
  · rw [if_pos h, h, beq_self_eq_true]
  · rw [if_neg h, beq_false_of_ne h]

theorem newE_last (c : Int) : ∀ l : List Ent, (l.Pairwise fun a b => a.id < b.id) → match newE c l with
    | some e => e ∈ l ∧ e.loc = c ∧ ∀ e' ∈ l, e'.loc = c → e'.id ≤ e.id
    | none => ∀ e ∈ l, e.loc ≠ c := by
  refine snoc_ind (fun _ => ?_) fun l a ih hp => ?_
  · show ∀ e ∈ ([] : List Ent), e.loc ≠ c
    simp
  · rw [List.pairwise_append] at hp
    have ih := ih hp.1
    rw [newE_snocF]
    by_cases h : a.loc = c
    · rw [if_pos h]
      refine ⟨by simp, h, fun e' he' _ => ?_⟩
      rcases List.mem_append.1 he' with q | q
      · exact Int.le_of_lt (hp.2.2 e' q a (by simp))
      · rw [List.mem_singleton] at q; rw [q]; exact Int.le_refl _
    · rw [if_neg h]
      cases hn : newE c l with
      | none =>
        rw [hn] at ih
        dsimp only at ih ⊢
        intro e he
        rcases List.mem_append.1 he with q | q
        · exact ih e q
        · rw [List.mem_singleton] at q; rw [q]; exact h
      | some e0 =>
        rw [hn] at ih
        dsimp only at ih ⊢
        refine ⟨List.mem_append_left _ ih.1, ih.2.1, fun e' he' hc => ?_⟩
        rcases List.mem_append.1 he' with q | q
        · exact ih.2.2 e' q hc
        · rw [List.mem_singleton] at q; rw [q] at hc; exact absurd hc h

/-- What a read step says is so. -/
structure GoodRead (P : PProg) (m : Int) (L : List Stp) (i : Nat) (s : Stp) : Prop where
  frm : s.frm = pndN L m s.t s.loc i (fwdN L m s.loc i) i
  val : 0 ≤ s.frm → s.frm < i ∧ ∃ u, L[s.frm.toNat]? = some u ∧ u.w = s.r
  ini : s.frm < 0 → P.init.getD s.loc.toNat 0 = s.r
  loc : 0 ≤ s.loc ∧ s.loc < P.init.length

theorem GoodRead.app {P : PProg} {m : Int} {L : List Stp} {i : Nat} {s x : Stp} (g : GoodRead P m L i s) (hi : i ≤ L.length) : GoodRead P m (L ++ [x]) i s :=
  ⟨by rw [fwdN_app i hi, pndN_app hi i hi]; exact g.frm, fun h => by obtain ⟨h1, u, h2, h3⟩ := g.val h; exact ⟨h1, u, getI_old h2, h3⟩, g.ini, g.loc⟩

structure Fwd (V : MV) : Prop where
  hist : Hist V
  mf : ∀ c : Nat, c < 4 → V.frm.getD c 0 = fwdN V.st V.m (c : Int) V.st.length ∧ (0 ≤ V.frm.getD c 0 → V.frm.getD c 0 < V.st.length ∧ ∃ s, V.st[(V.frm.getD c 0).toNat]? = some s ∧ s.w = V.mem.getD c 0) ∧ (V.frm.getD c 0 < 0 → V.P.init.getD c 0 = V.mem.getD c 0)
  rd : ∀ (i : Nat) (s : Stp), V.st[i]? = some s → s.kind = 1 ∨ s.kind = 4 ∨ s.kind = 5 → GoodRead V.P V.m V.st i s

theorem Fwd.new {P : PProg} {m : Int} (hi : P.init.length ≤ 4) : Fwd (MV.new P m) := by
  have hs : (MV.new P m).st = [] := rfl
  refine ⟨Hist.new P m, fun c hc => ?_, fun i s h => by rw [hs] at h; simp at h⟩
  have e1 : (MV.new P m).frm.getD c 0 = -1 := by
    match c with
    | 0 => rfl
    | 1 => rfl
    | 2 => rfl
    | 3 => rfl
    | c + 4 => omega
  rw [e1, hs]
  refine ⟨rfl, fun h => by omega, fun _ => ?_⟩
  show P.init.getD c 0 = (P.init ++ List.replicate (4 - P.init.length) 0).getD c 0
  rw [List.getD_eq_getElem?_getD, List.getD_eq_getElem?_getD]
  rcases Nat.lt_or_ge c P.init.length with h | h
  · rw [List.getElem?_append_left h]
  · rw [List.getElem?_eq_none h, List.getElem?_append_right h, List.getElem?_replicate, if_pos (by omega)]; rfl

theorem wB_true {l : List Stp} {j : Nat} (h : ∀ (w : Nat) (x : Stp), j < w → w < l.length → l[w]? = some x → x.kind = 6 → x.frm ≠ (j : Int)) : wB l j l.length = true := by
  unfold wB
  rw [Bool.not_eq_true', List.any_eq_false]
  intro i hi
  rw [List.mem_range] at hi
  unfold flB
  cases hx : l[j + 1 + i]? with
  | none => simp
  | some x =>
    dsimp only
    intro hc
    rw [Bool.and_eq_true, beq_iff_eq, beq_iff_eq] at hc
    exact h (j + 1 + i) x (by omega) (by omega) hx hc.1 hc.2

theorem wB_no {l : List Stp} {j k : Nat} (h : wB l j k = true) {w : Nat} {x : Stp} (h1 : j < w) (h2 : w < k) (hx : l[w]? = some x) (hk : x.kind = 6) : x.frm ≠ (j : Int) := fun hf => by
  rw [wB_false h1 h2 hx hk hf] at h; cases h

/-- What a thread would read. -/
theorem Hist.pnd {V : MV} (H : Hist V) {t : Nat} {c : Int} (d : Int) : pndN V.st V.m (t : Int) c V.st.length d V.st.length = match newE c (V.b t) with | some e => e.id | none => d := by
  have hl := newE_last c (V.b t) (H.ids t)
  by_cases hm : V.m = 1
  · rw [H.own hm t]
    show _ = d
    refine pndN_none _ fun k s _ _ => ?_
    unfold pndB
    rw [hm]; simp
  have back : ∀ (k : Nat) (s : Stp), V.st[k]? = some s → pndB V.st V.m (t : Int) c V.st.length k s = true → ∃ e ∈ V.b t, e.id = (k : Int) ∧ e.loc = c := fun k s hs hp => by
    unfold pndB at hp
    rw [Bool.and_eq_true, Bool.and_eq_true, Bool.and_eq_true, Bool.and_eq_true, beq_iff_eq, beq_iff_eq, beq_iff_eq] at hp
    obtain ⟨⟨⟨p1, p2⟩, p3⟩, _, p4⟩ := hp
    rcases H.sto k s hs (by unfold isSt; rw [Bool.and_eq_true, beq_iff_eq, bne_iff_ne]; exact ⟨p2, hm⟩) with ⟨t', q1, e, he, q2⟩ | ⟨j, u, q1, q2, q3, q4⟩
    · have : t' = t := by omega
      subst this
      obtain ⟨k', hk', s', hs', _, _, h5, _⟩ := H.ent t' e he
      have : k' = k := by omega
      subst this
      rw [hs] at hs'
      cases hs'
      exact ⟨e, he, q2, by rw [← h5]; exact p3⟩
    · exact absurd q4 (wB_no p4 q1 (getI_lt q2) q2 q3)
  have forth : ∀ e ∈ V.b t, e.loc = c → ∃ (k : Nat) (s : Stp), e.id = (k : Int) ∧ V.st[k]? = some s ∧ pndB V.st V.m (t : Int) c V.st.length k s = true := fun e he hc => by
    obtain ⟨k, hk, s, hs, h1, h2, h3, h4, h5⟩ := H.ent t e he
    refine ⟨k, s, hk, hs, ?_⟩
    unfold pndB
    rw [h1, h2, h3, hc, wB_true fun w x _ _ hx h6 => by rw [← hk]; exact h5 w x hx h6]
    simp [hm]
  cases hn : newE c (V.b t) with
  | none =>
    rw [hn] at hl
    dsimp only at hl ⊢
    refine pndN_none _ fun k s _ hs => ?_
    rw [← Bool.not_eq_true]
    intro hp
    obtain ⟨e, he, _, hc⟩ := back k s hs hp
    exact hl e he hc
  | some e =>
    rw [hn] at hl
    dsimp only at hl ⊢
    obtain ⟨h1, h2, h3⟩ := hl
    obtain ⟨K, u, q1, q2, q3⟩ := forth e h1 h2
    rw [q1]
    refine pndN_some q2 q3 _ (getI_lt q2) fun k s hk _ hs => ?_
    rw [← Bool.not_eq_true]
    intro hp
    obtain ⟨e', he', r1, r2⟩ := back k s hs hp
    have := h3 e' he' r2
    omega

theorem fldV_has {P : PProg} {i : Ins} (h : fldB (hasB P) i = true) (hk : i.kind = 2 ∨ i.kind = 4) : i.loc < P.locs.length := by
  unfold fldB hasB at h
  rw [if_neg (by omega)] at h
  split at h
  · simp at h; omega
  · rw [if_neg (by omega), if_pos (by omega)] at h
    simp at h; omega

theorem MV.Inv.read_loc {V : MV} (v : V.Inv) {i : Nat} (h4 : i < 4) (hi : V.may i = true) (hk : (V.stp i).kind = 1 ∨ (V.stp i).kind = 4 ∨ (V.stp i).kind = 5) : (V.stp i).loc < V.P.locs.length := by
  have hq := MV.may_thr h4 hi
  obtain ⟨q1, q2, q3, q4, q5⟩ := v.nxt hq
  obtain ⟨e1, e2, e3, e4⟩ := evOf_cases (V.thrI i) (V.l i) (V.val i (V.thrI i)).1 q2
  have hS : V.stp i = { V.thrS i (V.thrI i) with pick := i } := by unfold MV.stp; rw [if_pos h4]
  rw [hS] at hk ⊢
  have hk' : (evOf (V.thrI i) (V.l i) (V.val i (V.thrI i)).1).kind = 1 ∨ (evOf (V.thrI i) (V.l i) (V.val i (V.thrI i)).1).kind = 4 ∨ (evOf (V.thrI i) (V.l i) (V.val i (V.thrI i)).1).kind = 5 := hk
  show (evOf (V.thrI i) (V.l i) (V.val i (V.thrI i)).1).loc < _
  rw [(e4 hk').2.1]
  refine fldV_has ?_ ?_
  · unfold PProg.code at q5
    split at q5
    · rw [List.getD_eq_getElem?_getD] at q5
      cases hc : V.P.thr[(i : Int).toNat]? with
      | none => rw [hc] at q5; simp at q5
      | some c => rw [hc] at q5; exact v.fld c (List.mem_of_getElem? hc) _ q5
    · simp at q5
  · rcases hk' with h | h
    · exact .inl (e3.1 h)
    · exact .inr (e2.1 h)

theorem MV.Inv.fwd_nx {V : MV} (v : V.Inv) (F : Fwd V) (hli : V.P.locs.length = V.P.init.length) {i : Nat} (hi : V.may i = true) : Fwd (V.nx i) := by
  have H := F.hist
  have hmm : (V.nx i).m = V.m := (V.nx_P i).2
  have hPP : (V.nx i).P = V.P := (V.nx_P i).1
  have hst : (V.nx i).st = V.st ++ [V.stp i] := V.nx_st i
  have hlen : (V.st ++ [V.stp i]).length = V.st.length + 1 := by rw [List.length_append, List.length_singleton]
  have hnx : ∀ c : Int, fwdN (V.st ++ [V.stp i]) V.m c (V.st.length + 1) = if (V.stp i).loc = c ∧ wrS (V.stp i) V.m = true then (if (V.stp i).kind = 6 then (V.stp i).frm else (V.st.length : Int)) else fwdN V.st V.m c V.st.length := fun c => by
    show (match (V.st ++ [V.stp i])[V.st.length]? with
      | some s => if s.loc = c ∧ wrS s V.m = true then (if s.kind = 6 then s.frm else (V.st.length : Int)) else fwdN (V.st ++ [V.stp i]) V.m c V.st.length
      | none => fwdN (V.st ++ [V.stp i]) V.m c V.st.length) = _
    rw [getI_new, fwdN_app _ (Nat.le_refl _)]
  have oldmf : ∀ c : Nat, c < 4 → (V.nx i).frm.getD c 0 = V.frm.getD c 0 → (V.nx i).mem.getD c 0 = V.mem.getD c 0 → ((V.stp i).loc = (c : Int) ∧ wrS (V.stp i) V.m = true → False) →
      (V.nx i).frm.getD c 0 = fwdN (V.nx i).st (V.nx i).m (c : Int) (V.nx i).st.length ∧ (0 ≤ (V.nx i).frm.getD c 0 → (V.nx i).frm.getD c 0 < (V.nx i).st.length ∧ ∃ s, (V.nx i).st[((V.nx i).frm.getD c 0).toNat]? = some s ∧ s.w = (V.nx i).mem.getD c 0) ∧ ((V.nx i).frm.getD c 0 < 0 → (V.nx i).P.init.getD c 0 = (V.nx i).mem.getD c 0) := fun c hc e1 e2 e3 => by
    obtain ⟨a1, a2, a3⟩ := F.mf c hc
    rw [e1, e2, hmm, hPP, hst, hlen, hnx, if_neg e3]
    refine ⟨a1, fun h => ?_, a3⟩
    obtain ⟨b1, s, b2, b3⟩ := a2 h
    exact ⟨by omega, s, getI_old b2, b3⟩
  by_cases h4 : i < 4
  · have T := v.thr_step h4 hi
    have hrl := v.read_loc h4 hi
    refine ⟨v.hist_nx H hi, fun c hc => ?_, fun j s hs hk => ?_⟩
    · have hwr : wrS (V.stp i) V.m = true ↔ ((V.stp i).kind = 4 ∨ ((V.stp i).kind = 2 ∧ V.m = 1)) := by
        have := T.kind
        unfold wrS
        simp
        omega
      by_cases hw : ((V.stp i).kind = 4 ∨ ((V.stp i).kind = 2 ∧ V.m = 1)) ∧ c = (V.stp i).loc.toNat
      · have hl : (V.stp i).loc = (c : Int) := by have := T.loc; omega
        have k6 : (V.stp i).kind ≠ 6 := by have := T.kind; omega
        rw [T.frm, T.mem, if_pos hw, if_pos hw, hmm, hst, hlen, hnx, if_pos ⟨hl, hwr.2 hw.1⟩, if_neg k6]
        refine ⟨rfl, fun _ => ⟨by omega, V.stp i, ?_, rfl⟩, fun h => by omega⟩
        rw [Int.toNat_natCast]; exact getI_new
      · exact oldmf c hc (by rw [T.frm, if_neg hw]) (by rw [T.mem, if_neg hw]) fun q => hw ⟨hwr.1 q.2, by have := T.loc; omega⟩
    · rw [hmm, hPP, hst]
      rw [hst] at hs
      rcases getI_snoc hs with ⟨hl, hs2⟩ | ⟨hl, hs2⟩
      · exact (F.rd j s hs2 hk).app (Nat.le_of_lt hl)
      · subst hl
        subst hs2
        have g : GoodRead V.P V.m V.st V.st.length (V.stp i) := by
          obtain ⟨t1, t2⟩ := T.read hk
          have hl := T.loc
          have hlc := hrl hk
          obtain ⟨a1, a2, a3⟩ := F.mf (V.stp i).loc.toNat (by omega)
          have hcc : (((V.stp i).loc.toNat : Nat) : Int) = (V.stp i).loc := by omega
          rw [hcc] at a1
          have hp := H.pnd (t := i) (c := (V.stp i).loc) (fwdN V.st V.m (V.stp i).loc V.st.length)
          have nl := newE_last (V.stp i).loc (V.b i) (H.ids i)
          cases hn : newE (V.stp i).loc (V.b i) with
          | none =>
            rw [hn] at t1 t2 hp
            dsimp only at t1 t2 hp
            refine ⟨by rw [T.t, hp, t2, a1], fun h => ?_, fun h => ?_, hl.1, by omega⟩
            · rw [t2] at h ⊢
              obtain ⟨b1, u, b2, b3⟩ := a2 h
              exact ⟨b1, u, b2, by rw [t1]; exact b3⟩
            · rw [t2] at h
              rw [t1]; exact a3 h
          | some e =>
            rw [hn] at t1 t2 hp nl
            dsimp only at t1 t2 hp nl
            obtain ⟨k, hk', u, hu, _, _, _, h4', _⟩ := H.ent i e nl.1
            refine ⟨by rw [T.t, hp, t2], fun h => ?_, fun h => ?_, hl.1, by omega⟩
            · rw [t2, hk', Int.toNat_natCast]
              exact ⟨by have := getI_lt hu; omega, u, hu, by rw [t1]; exact h4'⟩
            · rw [t2] at h; omega
        exact g.app (Nat.le_refl _)
  · obtain ⟨t, p, e, G⟩ := v.flu_step h4 hi
    have hs0 := G.s
    have he := List.mem_of_find?_eq_some G.f
    have hel := v.mem_b he
    refine ⟨v.hist_nx H hi, fun c hc => ?_, fun j s hs hk => ?_⟩
    · have hwr : wrS (V.stp i) V.m = true := by rw [hs0]; unfold wrS; simp
      by_cases hw : c = e.loc.toNat
      · have hl : (V.stp i).loc = (c : Int) := by rw [hs0]; dsimp only; omega
        have k6 : (V.stp i).kind = 6 := by rw [hs0]
        obtain ⟨k, hk', u, hu, _, _, _, h4', _⟩ := H.ent t e he
        have hf : (V.stp i).frm = e.id := by rw [hs0]
        rw [G.frm, G.mem, if_pos hw, if_pos hw, hmm, hst, hlen, hnx, if_pos ⟨hl, hwr⟩, if_pos k6, hf]
        refine ⟨rfl, fun _ => ⟨by have := getI_lt hu; omega, u, ?_, h4'⟩, fun h => by omega⟩
        rw [hk', Int.toNat_natCast]; exact getI_old hu
      · exact oldmf c hc (by rw [G.frm, if_neg hw]) (by rw [G.mem, if_neg hw]) fun q => hw (by have := q.1; rw [hs0] at this; dsimp only at this; omega)
    · rw [hmm, hPP, hst]
      rw [hst] at hs
      rcases getI_snoc hs with ⟨hl, hs2⟩ | ⟨hl, hs2⟩
      · exact (F.rd j s hs2 hk).app (Nat.le_of_lt hl)
      · rw [hs2, hs0] at hk
        simp at hk
section
variable {E : Env}

set_option maxHeartbeats 1000000 in
theorem VmForwards_law (ht : TabOk E) (hE : jacquardlaw16_VmForwards_In E) {h : AHeap} {c0 c1' c2' : List Cell} (o0 : okC h (.sl (.i .i64)) c0) (o1 : okC h (.i .i64) c1') (o2 : okC h (.sl (.i .i64)) c2') :
    ∃ h', R E 218 [av1 (.sl (.i .i64)) c0, av1 (.i .i64) c1', av1 (.sl (.i .i64)) c2'] h = some ([.c (.bool true)], h') := by
  obtain ⟨x, l, ha0, hx, hlow, _, hml⟩ := arg_ints o0
  obtain ⟨m0, ha1, _⟩ := arg_int o1
  obtain ⟨y, ps, ha2, hy, hylow, _, hpl⟩ := arg_ints o2
  obtain ⟨cs, h1, P, r1, p1, g1, g2, k1, mk⟩ := Vstart hE.c76 hE.c171 hx hlow (by unfold maxLen at hml; omega) (most := 12) (by omega)
  have hb1 := g_rem3 (E := E) m0
  have hm1 : E.glob.wrap .i64 (E.glob.rem .i64 (E.glob.band .i64 m0 255) 3 + 1) = E.glob.rem .i64 (E.glob.band .i64 m0 255) 3 + 1 := g_wrap_i64 (by omega) (by omega)
  generalize hmm : E.glob.rem .i64 (E.glob.band .i64 m0 255) 3 + 1 = m at hm1
  obtain ⟨n, k, pc, h2, r2, a2, n2, k2⟩ := mk h1 m (Kp.refl _ _) (by omega) (by omega)
  obtain ⟨p, hp, hQ⟩ := Lim_fallN (F := jacquardlaw16_VmForwards_F1 (R E) Lim E.glob)
    (fun q st => ∃ (i : Nat) (V : MV) (z : Cell) (h' : AHeap), q = 60 - i ∧ i ≤ 60 ∧ st = jacquardlaw16_VmForwards_s1 m y (.ptr k 329 0) (i : Int) cs h' ∧ VmAt n h' k z pc V ∧ V.Inv ∧ Fwd V ∧ V.m = m ∧ V.P = P ∧ V.st.length ≤ i ∧ Kp h1.length h1 h')
    (fun p => ∃ (V : MV) (z : Cell) (h' : AHeap), p = (.exit 0, jacquardlaw16_VmForwards_x1_1 m (.ptr k 329 0) cs h') ∧ VmAt n h' k z pc V ∧ V.Inv ∧ Fwd V ∧ V.m = m ∧ V.P = P ∧ V.st.length ≤ 60 ∧ Kp h1.length h1 h')
    (fun q st hI => by
      obtain ⟨i, V, z, h', rfl, hi60, rfl, a, v, fv, vm, vP, vl, kk⟩ := hI
      have pg := prog_at a.prog a.hn (Kp.refl n h')
      have dn := Done_R hE.c174 a.blk v.fit pg
      have en := Enabled_R hE.c172 a.blk v.fit pg
      by_cases hc : i < 60 ∧ V.word ≠ 0
      · refine .inl ?_
        have hcond : ∀ {α : Type} (f : Bool → AHeap → Option α), scK (decide ((i : Int) < 60)) true (c1 (R E 174 [(.c (.ptr k 329 0))] h') fun y_13 h_12 => asB y_13 fun b_14 => some ((!b_14), h_12)) false h' f = f true h' := fun f => by
          rw [dn, c1_ok, asB_ok, decide_eq_true (by omega), scK_and, show (V.word == 0) = false from beq_false_of_ne hc.2]; rfl
        obtain ⟨ww, h5, r5, o5, k5⟩ := List_R hE.c32 ht V.word_lt h'
        have a5 := a.keep k5
        have kk5 : Kp h1.length h1 h5 := kk.trans (k5.mono kk.1)
        have hne : (bitsL V.word).length ≠ 0 := fun e => hc.2 (bits_none.1 e)
        have pick : ∀ j : Nat, V.may j = true → ∃ (h6 : AHeap) (st' : St) (k' : Nat), R E 173 [.c (.ptr k 329 0), .c (.int .i64 (j : Int))] h5 = some ([.agg (V.stp j).cs, .c (.bool true)], h6) ∧ jacquardlaw16_VmForwards_s1 m y (.ptr k 329 0) (E.glob.wrap .i64 ((i : Int) + 1)) cs h6 = st' ∧
            (∃ (i : Nat) (V : MV) (z : Cell) (h' : AHeap), k' = 60 - i ∧ i ≤ 60 ∧ st' = jacquardlaw16_VmForwards_s1 m y (.ptr k 329 0) (i : Int) cs h' ∧ VmAt n h' k z pc V ∧ V.Inv ∧ Fwd V ∧ V.m = m ∧ V.P = P ∧ V.st.length ≤ i ∧ Kp h1.length h1 h') ∧ k' < 60 - i := by
          intro j hj
          obtain ⟨z', h6, r6, a6, k6⟩ := Pick_R hE.c173 a5 v (by omega) hj
          exact ⟨h6, _, 60 - (i + 1), r6, rfl, ⟨i + 1, V.nx j, z', h6, rfl, by omega, by rw [g_succ (by omega)], a6, v.nx hj, v.fwd_nx fv (by rw [vP]; exact g1.locs) hj, by rw [(V.nx_P j).2, vm], by rw [(V.nx_P j).1, vP], by rw [V.nx_st, List.length_append, List.length_singleton]; omega, kk5.trans (k6.kp.mono n2)⟩, by omega⟩
        have hy5 := hy.keep hylow (k1.trans (kk5.mono k1.1))
        by_cases hcp : i < ps.length
        · have hq : ps[i]? = some ps[i] := List.getElem?_eq_getElem hcp
          generalize ps[i] = pk at hq
          have hrng := rem_rng (E := E) (x := E.glob.band .i64 pk 65535) (m := ((bitsL V.word).length : Int)) g_band16.1 (by omega)
          obtain ⟨j, hj, hch⟩ := choose o5 hrng.1 hrng.2
          obtain ⟨h6, st', k', r6, e1, e2, e3⟩ := pick j hj
          refine ⟨st', k', ?_, e2, e3⟩
          rw [jacquardlaw16_VmForwards_r1, hcond, if_pos rfl, en, c1_ok, asI_ok, r5, c1_ok, asC_ok, o5.at.len, if_neg (by rw [beq_iff_eq]; omega), hy5.len, if_pos (by simp; omega), hy5.get1 hcp (intC_get hq), asI_ok, o5.at.len, if_neg (by omega)]
          dsimp only
          rw [hch, asI_ok, r6, c2_ok, asA_ok, asB_ok, e1]
        · obtain ⟨j, hj, hch⟩ := choose o5 (v := 0) (by omega) (by omega)
          obtain ⟨h6, st', k', r6, e1, e2, e3⟩ := pick j hj
          refine ⟨st', k', ?_, e2, e3⟩
          rw [jacquardlaw16_VmForwards_r1, hcond, if_pos rfl, en, c1_ok, asI_ok, r5, c1_ok, asC_ok, o5.at.len, if_neg (by rw [beq_iff_eq]; omega), hy5.len, if_neg (by simp; omega), hch, asI_ok, r6, c2_ok, asA_ok, asB_ok, e1]
      · refine .inr ⟨_, ?_, (by simp : Ex.exit 0 ≠ .normal), V, z, h', rfl, a, v, fv, vm, vP, by omega, kk⟩
        have hcond : ∀ {α : Type} (f : Bool → AHeap → Option α), scK (decide ((i : Int) < 60)) true (c1 (R E 174 [(.c (.ptr k 329 0))] h') fun y_13 h_12 => asB y_13 fun b_14 => some ((!b_14), h_12)) false h' f = f false h' := fun f => by
          rw [dn, c1_ok, asB_ok, scK_and]
          by_cases h6 : i < 60
          · have : V.word = 0 := Classical.byContradiction fun q => hc ⟨h6, q⟩
            rw [this]; simp
          · rw [decide_eq_false (by omega)]; rfl
        rw [jacquardlaw16_VmForwards_r1, hcond, if_neg (by simp)]) (k := 60) (st := jacquardlaw16_VmForwards_s1 m y (.ptr k 329 0) 0 cs h2) ⟨0, MV.new P m, .nils, h2, rfl, by omega, rfl, a2, g1.inv g2 (by omega), Fwd.new (by have := g1.init; omega), rfl, rfl, by show 0 ≤ 0; omega, k2⟩
  obtain ⟨V, z, h9, rfl, a9, v, fv, vm, vP, vl, kk9⟩ := hQ
  obtain ⟨yy, hA, rA, oA, kA⟩ := Steps_R hE.c175 a9 v.fit (by omega)
  have o := oA.at
  have rdg := fv.rd
  rw [vm, vP] at rdg
  have kkA : Kp h1.length h1 hA := kk9.trans (kA.mono kk9.1)
  obtain ⟨bi, hbi, hbl, hbg⟩ := (p1.keep kkA).initG
  generalize V.st = L at *
  have l4 : Lim (jacquardlaw16_VmForwards_F4 (R E) Lim E.glob) (jacquardlaw16_VmForwards_s4 m yy ((0 : Nat) : Int) cs hA) = some (.exit 2, jacquardlaw16_VmForwards_x4_3 hA) := by
    refine Lim_count (F := jacquardlaw16_VmForwards_F4 (R E) Lim E.glob) (fun i => jacquardlaw16_VmForwards_s4 m yy (i : Int) cs hA) 0 L.length (by omega) (fun i _ hi => ?_) (Lim_exit ?_)
    · have hq : L[i]? = some L[i] := List.getElem?_eq_getElem hi
      have hG := rdg i L[i] hq
      generalize L[i] = s at hq hG
      rw [jacquardlaw16_VmForwards_r4, o.len, if_pos (by simp; omega)]
      simp only [stp_fld o hq 2 (by omega) rfl, asI_ok, scK_and]
      by_cases hc : (s.kind != 1 && s.kind != 4 && s.kind != 5) = true
      · rw [if_pos hc, g_succ (by omega)]
      · rw [if_neg hc]
        rw [Bool.and_eq_true, Bool.and_eq_true, bne_iff_ne, bne_iff_ne, bne_iff_ne] at hc
        have G := hG (by omega)
        have l2 : Lim (jacquardlaw16_VmForwards_F2 (R E) Lim E.glob) (jacquardlaw16_VmForwards_s2 m yy (i : Int) (fwdN L m s.loc 0) ((0 : Nat) : Int) cs hA) = some (.exit 4, jacquardlaw16_VmForwards_x2_5 m yy (i : Int) (fwdN L m s.loc i) cs hA) := by
          refine Lim_count (F := jacquardlaw16_VmForwards_F2 (R E) Lim E.glob) (fun j => jacquardlaw16_VmForwards_s2 m yy (i : Int) (fwdN L m s.loc j) (j : Int) cs hA) 0 i (by omega) (fun j _ hj => ?_) (Lim_exit ?_)
          · obtain ⟨u, hu⟩ : ∃ u, L[j]? = some u := ⟨_, List.getElem?_eq_getElem (by omega)⟩
            obtain ⟨off, cs', q1, q2, q3⟩ := o.elG (getI_lt hu)
            rw [stepsC_at _ _ _ hu] at q3
            have hw : fwdN L m s.loc (j + 1) = if u.loc = s.loc ∧ wrS u m = true then (if u.kind = 6 then u.frm else (j : Int)) else fwdN L m s.loc j := by
              show (match L[j]? with | some s' => _ | none => _) = _
              rw [hu]
            rw [jacquardlaw16_VmForwards_r2, if_pos (by simp; omega), stp_fld o hu 3 (by omega) rfl, asI_ok, stp_fld o hq 3 (by omega) rfl, asI_ok, q1, if_pos q2, q3, refWrites_R hE.c176, qh_ok, c1_ok, asB_ok, scK_and, hw]
            by_cases hcc : (u.loc == s.loc && wrS u m) = true
            · have hcc' := hcc
              rw [Bool.and_eq_true, beq_iff_eq] at hcc'
              rw [if_pos hcc, if_pos hcc', stp_fld o hu 2 (by omega) rfl, asI_ok]
              by_cases h6 : u.kind = 6
              · rw [if_pos (by rw [beq_iff_eq]; exact h6), if_pos h6, stp_fld o hu 6 (by omega) rfl, asI_ok, g_succ (by omega)]
              · rw [if_neg (by rw [beq_iff_eq]; exact h6), if_neg h6, g_succ (by omega)]
            · have hcc' : ¬ (u.loc = s.loc ∧ wrS u m = true) := by rw [Bool.and_eq_true, beq_iff_eq] at hcc; exact hcc
              rw [if_neg hcc, if_neg hcc', g_succ (by omega)]
          · rw [jacquardlaw16_VmForwards_r2, if_neg (by simp)]
        have l3 : Lim (jacquardlaw16_VmForwards_F3 (R E) Lim E.glob) (jacquardlaw16_VmForwards_s3 m yy (i : Int) (pndN L m s.t s.loc i (fwdN L m s.loc i) 0) ((0 : Nat) : Int) cs hA) = some (.exit 6, jacquardlaw16_VmForwards_x3_7 m yy (i : Int) (pndN L m s.t s.loc i (fwdN L m s.loc i) i) cs hA) := by
          refine Lim_count (F := jacquardlaw16_VmForwards_F3 (R E) Lim E.glob) (fun j => jacquardlaw16_VmForwards_s3 m yy (i : Int) (pndN L m s.t s.loc i (fwdN L m s.loc i) j) (j : Int) cs hA) 0 i (by omega) (fun j _ hj => ?_) (Lim_exit ?_)
          · obtain ⟨u, hu⟩ : ∃ u, L[j]? = some u := ⟨_, List.getElem?_eq_getElem (by omega)⟩
            have hw : pndN L m s.t s.loc i (fwdN L m s.loc i) (j + 1) = if pndB L m s.t s.loc i j u = true then (j : Int) else pndN L m s.t s.loc i (fwdN L m s.loc i) j := by
              show (match L[j]? with | some s' => _ | none => _) = _
              rw [hu]
            have wt : R E 177 [.c yy, .c (.int .i64 (j : Int)), .c (.int .i64 (i : Int)), .c (.int .i64 m)] hA = some ([.c (.bool (m != 1 && wB L j i))], hA) := by
              by_cases h1 : m = 1
              · refine R_intro hE.c177.fn ?_
                rw [jacquardlaw16_waits_eq, if_pos (by rw [beq_iff_eq]; exact h1), h1]; rfl
              · rw [waits_R hE.c177 o (by omega) hj (Nat.le_of_lt hi) h1, bne_iff_ne.2 h1, Bool.true_and]
            rw [jacquardlaw16_VmForwards_r3, if_pos (by simp; omega)]
            simp only [stp_fld o hu 1 (by omega) rfl, stp_fld o hq 1 (by omega) rfl, stp_fld o hu 2 (by omega) rfl, stp_fld o hu 3 (by omega) rfl, stp_fld o hq 3 (by omega) rfl, asI_ok, scK_and, wt, qh_ok, c1_ok, asB_ok]
            rw [hw, show pndB L m s.t s.loc i j u = (u.t == s.t && u.kind == 2 && u.loc == s.loc && (m != 1 && wB L j i)) from rfl]
            by_cases hcc : (u.t == s.t && u.kind == 2 && u.loc == s.loc && (m != 1 && wB L j i)) = true
            · rw [if_pos hcc, if_pos hcc, g_succ (by omega)]
            · rw [if_neg hcc, if_neg hcc, g_succ (by omega)]
          · rw [jacquardlaw16_VmForwards_r3, if_neg (by simp)]
        rw [show ((0 : Nat) : Int) = 0 from rfl] at l2 l3
        rw [show fwdN L m s.loc 0 = -1 from rfl] at l2
        rw [show pndN L m s.t s.loc i (fwdN L m s.loc i) 0 = fwdN L m s.loc i from rfl] at l3
        rw [l2, bind_ok]
        dsimp only
        rw [jacquardlaw16_VmForwards_e2_5, l3, bind_ok]
        dsimp only
        rw [jacquardlaw16_VmForwards_e3_7, stp_fld o hq 6 (by omega) rfl, asI_ok, ← G.frm, bne_self_eq_false, scK_ok]
        by_cases hf : 0 ≤ s.frm
        · obtain ⟨b1, u, b2, b3⟩ := G.val hf
          have hidx : (s.frm : Int) = ((s.frm.toNat : Nat) : Int) := by omega
          have e5 : ∀ {α : Type} (f : Cell → Option α), (idxSK 7 yy s.frm fun k N o => rdH hA k N fun l => atK l (o + 5) f) = f (.int .i64 u.w) := fun f => by
            rw [hidx]; exact stp_fld o b2 5 (by omega) rfl
          rw [decide_eq_true (show s.frm ≥ 0 from hf), scK_ok, e5, asI_ok, stp_fld o hq 4 (by omega) rfl, asI_ok, b3, bne_self_eq_false, bind_ok, bind_ok]
          dsimp only
          rw [scK_ok, show decide (s.frm < 0) = false from decide_eq_false (by omega), scK_ft, bind_ok]
          dsimp only
          rw [if_neg (by simp), g_succ (by omega)]
        · have hl := G.loc
          have hidx : (s.loc : Int) = ((s.loc.toNat : Nat) : Int) := by omega
          have hiv : P.init[s.loc.toNat]? = some s.r := by
            have := G.ini (by omega)
            rw [List.getD_eq_getElem?_getD, List.getElem?_eq_getElem (by omega)] at this
            rw [List.getElem?_eq_getElem (by omega)]
            exact congrArg some this
          have e1 : ∀ {α : Type} (f : Cell → Option α), (idxSK 1 bi s.loc fun k N o => rdH hA k N fun l => atK l o f) = f (.int .i64 s.r) := fun f => by
            rw [hidx]; exact hbi.get1 (by omega) (intC_get hiv)
          rw [decide_eq_false (show ¬ s.frm ≥ 0 from hf), scK_ft, bind_ok]
          dsimp only
          rw [scK_ok, show decide (s.frm < 0) = true from decide_eq_true (by omega), scK_ok, hbg, stp_fld o hq 3 (by omega) rfl, asI_ok, e1, asI_ok, stp_fld o hq 4 (by omega) rfl, asI_ok, bne_self_eq_false, bind_ok, bind_ok]
          dsimp only
          rw [if_neg (by simp), g_succ (by omega)]
    · rw [jacquardlaw16_VmForwards_r4, o.len, if_neg (by simp)]
  rw [show ((0 : Nat) : Int) = 0 from rfl] at l4
  obtain ⟨hB, rB, kB⟩ := awake16_R hE.c170 hA
  refine ⟨hB, R_intro hE.fn ?_⟩
  rw [ha0, ha1, ha2, jacquardlaw16_VmForwards_eq, show (12 : Int) = ((12 : Nat) : Int) from rfl, r1, c1_ok, asA_ok, if_pos (by exact ⟨rfl, rfl, p1.len⟩)]
  dsimp only
  rw [if_pos (by exact ⟨rfl, p1.len⟩), hmm, hm1, r2, c2_ok, asC_ok, asI_ok, ptr_nil, scK_or, show (false || ((0 : Int) != 0)) = false from rfl, if_neg (by simp), hp, bind_ok]
  dsimp only
  rw [jacquardlaw16_VmForwards_e1_1, rA, c1_ok, asC_ok, l4, bind_ok]
  dsimp only
  rw [jacquardlaw16_VmForwards_e4_3, rB, c1_ok, asB_ok]
end
end Jq

/- VmForwards: whatever the input the call says true, and each argument reads behind it as before. No conditions. -/
namespace Go.Proofs.YtnjjcoobhpldcaaDoor.LVmForwards
open Go Jq Go.ChangeShapes Go.WideShapes Go.ChangeAt Go.RowKit
set_option linter.unusedVariables false

theorem own : ownKnob Tryd.prog.godebug = none := by kernel_rfl
theorem laidOut : laidOutB Tryd.prog = true := by kernel_rfl

theorem gN : Tryd.prog.globalNamed "math/bits.deBruijn64tab" = some 0 := by kernel_rfl
theorem met (os : Os) (args : Array Value) : laidMetH Tryd.prog Rows.vmForwardsRow.laid ((World.doorLaid Tryd.prog 400 os).forCall (fun _ _ => 0) ⟨#[], args, []⟩).memory :=
  laidMetH_of_parts3 (fuel := 8) (laidMet_of_run' 8 (by kernel_rfl) (by kernel_rfl)) (by kernel_rfl) (by kernel_rfl)
theorem of_laid {W : World} (h : laidMetH Tryd.prog Rows.vmForwardsRow.laid W) : ∀ i, i < deB.length → W.cell? ⟨0, i, none⟩ = some (.int .u8 (deB.getD i 0)) := by
  rw [MakeChecks.laidMetH_plain _ _ _ (by kernel_rfl)] at h
  have h := laidMet.tail h
  have hT := Lib.tabIs_of_head (zs := deB) (n := 64) gN (t := 154) (by kernel_rfl) (e := 5) (by kernel_rfl) (by kernel_rfl) (by kernel_rfl) (by kernel_rfl) h
  exact fun i hi => hT.cell gN i hi

set_option maxRecDepth 100000 in
theorem lifted (os : Os) (started : os.Started) (H : Type) (enc : TypeId × Value → H) :
    ReturnsInHanded {} Tryd.checked os 6 .any (fun w args => (Rows.vmForwardsSpec.pre enc Tryd.prog Tryd.f6 [] false w args ∧ laidMetH Tryd.prog Rows.vmForwardsRow.laid w) ∧ sizedMet enc Tryd.prog Tryd.f6 (OpenSpec.ofChange Rows.vmForwardsSpec) false w args) (Rows.vmForwardsSpec.post enc Tryd.prog Tryd.f6 false true false false) := by
  refine returnsInHanded_of_change_and (C := Tryd.checked) (X := fun w _ => laidMetH Tryd.prog Rows.vmForwardsRow.laid w) (fun _ _ _ hh h => h.of_heap hh) own started (by kernel_rfl) Tryd.func6
    (ChangeSpec.witness_shaped (enc := enc) (C := Tryd.checked) (os := os) (X := fun w _ => laidMetH Tryd.prog Rows.vmForwardsRow.laid w) false (World.doorLaid Tryd.prog 400 os) #[.slice none 0 0, .int .i64 0, .slice none 0 0] 8 rfl (World.shaped_of_RefB (by kernel_rfl) (by kernel_rfl)) (by kernel_rfl) (by kernel_rfl) (by kernel_rfl) (met os _)) ?_
  intro W base args ds gs before hval0 hW _ _ hL _
  have hval : ∀ (j : Nat) t v, Tryd.f6.params[j]? = some t → args[j]? = some v → Value.okWide Tryd.prog W .any base t v := hval0
  have hW' := hW
  obtain ⟨p, q, hA0, hV, rfl, hfz, hnd⟩ := hW
  have hA : DataW.TrodAll enc Tryd.prog W 0 (fun _ => true) true Tryd.f6.params.toList args.toList ds p := hA0
  rw [Tryd.params6] at hA hval
  obtain ⟨v0, vs0, d0, ds0, p0, q0, hargs, rfl, rfl, h0, r0⟩ := trodAll_cons hA
  obtain ⟨v1, vs1, d1, ds1, p1, q1, rfl, rfl, rfl, h1, r1⟩ := trodAll_cons r0
  obtain ⟨v2, vs2, d2, ds2, p2, q2, rfl, rfl, rfl, h2, r2⟩ := trodAll_cons r1
  obtain ⟨rfl, rfl, rfl⟩ := trodAll_nil r2
  obtain rfl : args = #[v0, v1, v2] := by cases args; simp_all
  obtain ⟨rfl, rfl⟩ := trodVars_none hV
  have lt0 : ∀ x ∈ p0, x.block < W.heap.size := by obtain ⟨m, hm⟩ := h0; exact DataW.trod_lt m _ _ _ hm
  have lt1 : ∀ x ∈ p1, x.block < W.heap.size := by obtain ⟨m, hm⟩ := h1; exact DataW.trod_lt m _ _ _ hm
  have lt2 : ∀ x ∈ p2, x.block < W.heap.size := by obtain ⟨m, hm⟩ := h2; exact DataW.trod_lt m _ _ _ hm
  have c := Come.tab1 (S := seat) (W := W) deB (fun _ => rfl) (of_laid hL)
  have k0 : ((.sl (.i .i64)) : Sh).chk seat.P 25 = true := by kernel_rfl
  obtain ⟨b0, ρ0, cs0, c0, e0, x0, a0, o0⟩ := opens_arg (S := seat) (W := W) (sh := (.sl (.i .i64))) k0 h0 (wide_of k0 (hval 0 25 v0 rfl rfl)) ⟨nofun, nofun⟩ c
  have k1 : ((.i .i64) : Sh).chk seat.P 3 = true := by kernel_rfl
  obtain ⟨b1, ρ1, cs1, c1, e1, x1, a1, o1⟩ := opens_arg (S := seat) (W := W) (sh := (.i .i64)) k1 h1 (wide_of k1 (hval 1 3 v1 rfl rfl)) ⟨nofun, nofun⟩ c0
  have k2 : ((.sl (.i .i64)) : Sh).chk seat.P 25 = true := by kernel_rfl
  obtain ⟨b2, ρ2, cs2, c2, e2, x2, a2, o2⟩ := opens_arg (S := seat) (W := W) (sh := (.sl (.i .i64))) k2 h2 (wide_of k2 (hval 2 25 v2 rfl rfl)) ⟨nofun, nofun⟩ c1
  obtain ⟨h', hR⟩ := VmForwards_law (E := env) tabOk in_218 (okC_mono x2 _ _ (okC_mono x1 _ _ o0)) (okC_mono x2 _ _ o1) o2
  refine (law_call (S := seat) (R_sound (S := seat) (E := env) rfl allOk) c2 (vals := #[v0, v1, v2]) (L2.cons (relA.mono e2 (relA.mono e1 a0)) (L2.cons (relA.mono e2 a1) (L2.cons a2 L2.nil))) hR).mono fun e W' ⟨he, bel⟩ => ?_
  subst he
  exact ⟨_, rfl, _, _, _, [], _, [], hW', trodAll_mk1 (shut_bool Tryd.underlying4 _), (trodAll_cons_mk (Below.trod laidOut (by kernel_rfl) (of_decide_eq_true (by kernel_rfl)) h0 bel lt0) (trodAll_cons_mk (Below.trod laidOut (by kernel_rfl) (of_decide_eq_true (by kernel_rfl)) h1 bel lt1) (trodAll_cons_mk (Below.trod laidOut (by kernel_rfl) (of_decide_eq_true (by kernel_rfl)) h2 bel lt2) trodAll_mk0))), rfl, bel.frame _, fun h => by cases h⟩

theorem over : Rows.vmForwardsRow.holds Tryd.pinned (OpenSpec.ofChange Rows.vmForwardsSpec) :=
  OpenClaim.holds_of_wide 6 Tryd.f6 rfl rfl rfl rfl rfl rfl rfl ⟨rfl, rfl, rfl, rfl, rfl⟩ rfl rfl rfl rfl rfl (by kernel_rfl) Tryd.func6 (by kernel_rfl)
    (of_decide_eq_true (by kernel_rfl)) (by unfold Func.isWrapper; first | (rw [if_pos (by decide +kernel)]; kernel_rfl) | (rw [if_neg (by decide +kernel)]; exact ⟨rfl, rfl⟩))
    (fun os started H enc _ => lifted os started H enc)

theorem proved : Rows.VmForwardsCardSaid :=
  Claim7.holds_tied_plain_at .later [] [.data, .data, .data] true (true, "fbcc807f78fdf03f3d1dccb6a06178810c141046c856c49e25ab327e98756d6a") false
    over (fun _ h => by cases h) (by kernel_rfl) (fun _ h => by cases h) vmForwards_row_tie rfl ⟨rfl, rfl⟩ (by kernel_rfl) rfl
    (fun f fn hf hfn => by
      obtain rfl : f = 6 := Option.some.inj ((show Tryd.prog.funcNamed "jacquard/jacquardlaw16.VmForwards" = some 6 by kernel_rfl).symm.trans hf) |>.symm
      obtain rfl : fn = Tryd.f6 := (Option.some.inj (Tryd.func6.symm.trans hfn)).symm
      exact ⟨by kernel_rfl, fun j t ht => by
        rw [Tryd.params6] at ht
        have hm : t ∈ [25, 3, 25] := by simpa using Array.mem_of_getElem? ht
        have hall : ([25, 3, 25].all fun u => !Tryd.prog.wantsStandIn u) = true := by kernel_rfl
        exact (show Tryd.prog.wantsStandIn t = false by simpa using List.all_eq_true.1 hall t hm)⟩)
    (by kernel_rfl)
#print axioms proved

end Go.Proofs.YtnjjcoobhpldcaaDoor.LVmForwards

