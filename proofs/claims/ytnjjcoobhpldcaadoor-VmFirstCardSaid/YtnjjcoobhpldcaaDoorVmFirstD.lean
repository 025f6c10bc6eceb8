/- YtnjjcoobhpldcaaDoorVmFirstD: a part of the proof; no conditions of its own. -/
import Derived.Test.YtnjjcoobhpldcaaDoorRows
import Derived.WalkKit
import Derived.ProofKit
import Derived.OpenShut
import Derived.ShutString
import Derived.ChangeOld
import Derived.Below
import Derived.Carry
import Derived.Test.YtnjjcoobhpldcaaDoorCards
import Derived.Test.YtnjjcoobhpldcaaDoorTie
import Derived.SevenTiedAt
import Derived.LaidMore
import Derived.Stop.Joined
import Derived.Lib.LaidTab
import Derived.MakeChecks
import Derived.LaidHandle
import Derived.Stop.LaidErr
import Derived.Test.YtnjjcoobhpldcaaDoorVmFirstC
set_option linter.unusedVariables false
set_option linter.unusedSimpArgs false

/- Machines: what a run's steps tell. -/

namespace Jq
open Go

/-- What a thread's step is. -/
structure ThrStep (V : MV) (i : Nat) (s : Stp) : Prop where
  t : s.t = (i : Int)
  kind : 1 ≤ s.kind ∧ s.kind ≤ 5
  loc : 0 ≤ s.loc ∧ s.loc < 4
  free : s.kind = 3 ∨ s.kind = 4 ∨ s.kind = 5 → V.b i = []
  read : s.kind = 1 ∨ s.kind = 4 ∨ s.kind = 5 → s.r = (match newE s.loc (V.b i) with | some e => e.val | none => V.mem.getD s.loc.toNat 0) ∧ s.frm = (match newE s.loc (V.b i) with | some e => e.id | none => V.frm.getD s.loc.toNat 0)
  b : ∀ t, (V.nx i).b t = if t = i ∧ isSt V.m s = true then V.b i ++ [⟨s.loc, s.w, V.st.length⟩] else V.b t
  mem : ∀ c, (V.nx i).mem.getD c 0 = if (s.kind = 4 ∨ (s.kind = 2 ∧ V.m = 1)) ∧ c = s.loc.toNat then s.w else V.mem.getD c 0
  frm : ∀ c, (V.nx i).frm.getD c 0 = if (s.kind = 4 ∨ (s.kind = 2 ∧ V.m = 1)) ∧ c = s.loc.toNat then (V.st.length : Int) else V.frm.getD c 0

theorem evOf_cases (q : Ins) (l : Lcl) (v : Int) (hk : 1 ≤ q.kind ∧ q.kind ≤ 4) : ((evOf q l v).kind = 3 ↔ q.kind = 3) ∧ (((evOf q l v).kind = 4 ∨ (evOf q l v).kind = 5) ↔ q.kind = 4) ∧ ((evOf q l v).kind = 1 ↔ q.kind = 2) ∧ ((evOf q l v).kind = 1 ∨ (evOf q l v).kind = 4 ∨ (evOf q l v).kind = 5 → (evOf q l v).r = v ∧ (evOf q l v).loc = q.loc ∧ rdI q = true) := by
  unfold evOf
  by_cases h1 : q.kind = 1
  · rw [if_pos h1]; dsimp only; refine ⟨by omega, by omega, by omega, fun h => by omega⟩
  · rw [if_neg h1]
    by_cases h2 : q.kind = 2
    · rw [if_pos h2]; dsimp only; exact ⟨by omega, by omega, by omega, fun _ => ⟨rfl, rfl, by unfold rdI; exact decide_eq_true (.inl h2)⟩⟩
    · rw [if_neg h2]
      by_cases h4 : q.kind = 4
      · rw [if_pos h4]
        have hr : rdI q = true := by unfold rdI; exact decide_eq_true (.inr h4)
        split <;> exact ⟨by dsimp only; omega, by dsimp only; omega, by dsimp only; omega, fun _ => ⟨rfl, rfl, hr⟩⟩
      · rw [if_neg h4]; dsimp only; exact ⟨by omega, by omega, by omega, fun h => by omega⟩

theorem MV.Inv.thr_step {V : MV} (v : V.Inv) {i : Nat} (h4 : i < 4) (hi : V.may i = true) : ThrStep V i (V.stp i) := by
  have f := v.fit
  have hq := MV.may_thr h4 hi
  have hS : V.stp i = { V.thrS i (V.thrI i) with pick := i } := by unfold MV.stp; rw [if_pos h4]
  have hN : V.nx i = { V.thrM i (V.thrI i) with st := V.st ++ [V.stp i] } := by unfold MV.nx; rw [if_pos h4]
  have hB := v.thrB h4 (V.thrI i)
  generalize hqq : V.thrI i = q at *
  obtain ⟨q1, q2, q3, q4, q5⟩ := v.nxt hq
  have hfree : q.kind = 3 ∨ q.kind = 4 → V.b i = [] := fun h => by
    unfold MV.may MV.mayT at hi
    rw [if_pos h4, hq] at hi
    dsimp only at hi
    have : (q.kind == 3 || q.kind == 4) = true := by rw [Bool.or_eq_true, beq_iff_eq, beq_iff_eq]; exact h
    rw [this] at hi
    simpa using hi
  obtain ⟨e1, e2, e3, e4⟩ := evOf_cases q (V.l i) (V.val i q).1 q2
  have hev := evOf_loc (l := V.l i) (v := (V.val i q).1) q1
  have hkk := evOf_kinds q (V.l i) (V.val i q).1
  generalize hee : evOf q (V.l i) (V.val i q).1 = e at *
  have eS : V.stp i = ⟨i, i, e.kind, e.loc, e.r, e.w, if rdI q = true then (V.val i q).2 else -1⟩ := by
    rw [hS]; unfold MV.thrS; rw [hee]
  have hW : ∀ W : MV, W = V.wr i e → ∀ c, W.mem.getD c 0 = (if (e.kind = 4 ∨ (e.kind = 2 ∧ V.m = 1)) ∧ c = e.loc.toNat then e.w else V.mem.getD c 0) ∧ W.frm.getD c 0 = (if (e.kind = 4 ∨ (e.kind = 2 ∧ V.m = 1)) ∧ c = e.loc.toNat then (V.st.length : Int) else V.frm.getD c 0) := by
    rintro W rfl c
    unfold MV.wr
    by_cases h2 : e.kind = 2 ∧ V.m ≠ 1
    · rw [if_pos h2, if_neg (fun q => by omega), if_neg (fun q => by omega)]
      exact ⟨rfl, rfl⟩
    · rw [if_neg h2]
      by_cases hw : evWr e = true
      · have hw' : e.kind = 2 ∨ e.kind = 4 := by unfold evWr at hw; simpa using hw
        rw [if_pos hw]
        dsimp only
        rw [getDset (by rw [f.mem]; omega), getDset (by rw [f.frm]; omega)]
        by_cases hc : c = e.loc.toNat
        · rw [if_pos hc, if_pos hc, if_pos ⟨by omega, hc⟩, if_pos ⟨by omega, hc⟩]; exact ⟨rfl, rfl⟩
        · rw [if_neg hc, if_neg hc, if_neg (fun q => hc q.2), if_neg (fun q => hc q.2)]; exact ⟨rfl, rfl⟩
      · have hw' : ¬ (e.kind = 2 ∨ e.kind = 4) := by unfold evWr at hw; simpa using hw
        rw [if_neg hw, if_neg (fun q => by omega), if_neg (fun q => by omega)]
        exact ⟨rfl, rfl⟩
  refine ⟨by rw [eS], by rw [eS]; exact hkk, by rw [eS]; exact hev, fun h => ?_, fun h => ?_, fun t => ?_, fun c => ?_, fun c => ?_⟩
  · rw [eS] at h
    dsimp only at h
    refine hfree ?_
    rcases h with h | h
    · exact .inl (e1.1 h)
    · exact .inr (e2.1 h)
  · rw [eS] at h ⊢
    dsimp only at h ⊢
    obtain ⟨k1, k2, k3⟩ := e4 h
    rw [k3, if_pos rfl, k1, k2]
    unfold MV.val
    cases newE q.loc (V.b i) <;> exact ⟨rfl, rfl⟩
  · rw [hN]
    show (V.thrM i q).b t = _
    rw [hB, eS]
    have hiff : isSt V.m ⟨i, i, e.kind, e.loc, e.r, e.w, if rdI q = true then (V.val i q).2 else -1⟩ = true ↔ (e.kind = 2 ∧ V.m ≠ 1) := by
      unfold isSt
      rw [Bool.and_eq_true, beq_iff_eq, bne_iff_ne]
    by_cases hc : t = i ∧ e.kind = 2 ∧ V.m ≠ 1
    · rw [if_pos hc, if_pos ⟨hc.1, hiff.2 hc.2⟩]
    · rw [if_neg hc, if_neg (fun q => hc ⟨q.1, hiff.1 q.2⟩)]
  · rw [hN, eS]
    show (V.thrM i q).mem.getD c 0 = _
    unfold MV.thrM
    rw [hee]
    exact (hW (V.wr i e) rfl c).1
  · rw [hN, eS]
    show (V.thrM i q).frm.getD c 0 = _
    unfold MV.thrM
    rw [hee]
    exact (hW (V.wr i e) rfl c).2

/-- What a flush's step is. -/
structure FluStep (V : MV) (i : Nat) (s : Stp) (t : Nat) (p : Ent → Bool) (e : Ent) : Prop where
  t4 : t < 4
  s : s = ⟨i, t, 6, e.loc, 0, e.val, e.id⟩
  f : (V.b t).find? p = some e
  pe : ∀ x, p x = (decide (V.m = 2) || x.loc == e.loc)
  m : V.m = 2 ∨ V.m = 3
  b : ∀ t', (V.nx i).b t' = if t' = t then (V.b t).eraseP p else V.b t'
  mem : ∀ c, (V.nx i).mem.getD c 0 = if c = e.loc.toNat then e.val else V.mem.getD c 0
  frm : ∀ c, (V.nx i).frm.getD c 0 = if c = e.loc.toNat then e.id else V.frm.getD c 0

theorem MV.Inv.flu_step {V : MV} (v : V.Inv) {i : Nat} (h4 : ¬ i < 4) (hi : V.may i = true) : ∃ t p e, FluStep V i (V.stp i) t p e := by
  obtain ⟨t, loc, e, ht, hf, hs, hm1, hnx⟩ := MV.may_flu h4 hi
  have f := v.fit
  have hm := f.m
  have he := v.mem_b (List.mem_of_find?_eq_some hf)
  have hpe := List.find?_some hf
  refine ⟨t, oldP (bmod V.m) loc, e, ht, hs, hf, fun x => ?_, by omega, fun t' => ?_, fun c => ?_, fun c => ?_⟩
  · rcases (show V.m = 2 ∨ V.m = 3 by omega) with h | h
    · rw [h]; rfl
    · rw [h] at hpe ⊢
      have hl : e.loc = loc := by
        unfold oldP bmod at hpe
        simpa using hpe
      rw [hl]; rfl
  · rw [hnx]
    show (V.bf.set t _).getD t' [] = _
    rw [getDset (by rw [f.bf]; exact ht)]; rfl
  · rw [hnx]
    show (V.mem.set _ _).getD c 0 = _
    rw [getDset (by rw [f.mem]; omega)]
  · rw [hnx]
    show (V.frm.set _ _).getD c 0 = _
    rw [getDset (by rw [f.frm]; omega)]

/-- Stores that wait, and what has come to memory. -/
structure Hist (V : MV) : Prop where
  ids : ∀ t, (V.b t).Pairwise fun a b => a.id < b.id
  ent : ∀ t, ∀ e ∈ V.b t, ∃ k : Nat, e.id = (k : Int) ∧ ∃ s, V.st[k]? = some s ∧ s.kind = 2 ∧ s.t = (t : Int) ∧ s.loc = e.loc ∧ s.w = e.val ∧ ∀ (j : Nat) (u : Stp), V.st[j]? = some u → u.kind = 6 → u.frm ≠ e.id
  sto : ∀ (k : Nat) (s : Stp), V.st[k]? = some s → isSt V.m s = true → (∃ t : Nat, s.t = (t : Int) ∧ ∃ e ∈ V.b t, e.id = (k : Int)) ∨ ∃ (j : Nat) (u : Stp), k < j ∧ V.st[j]? = some u ∧ u.kind = 6 ∧ u.frm = (k : Int)
  flu : ∀ (j : Nat) (u : Stp), V.st[j]? = some u → u.kind = 6 → 0 ≤ u.t ∧ ∀ t : Nat, u.t = (t : Int) → ∀ e ∈ V.b t, (V.m = 3 → e.loc = u.loc) → u.frm < e.id
  b4 : ∀ t, 4 ≤ t → V.b t = []
  own : V.m = 1 → ∀ t, V.b t = []
  len : ∀ (k : Nat) (s : Stp), V.st[k]? = some s → s.kind = 6 → ∃ f : Nat, s.frm = (f : Int) ∧ f < k

theorem eraseP_idx' {l : List Ent} {p : Ent → Bool} {e : Ent} (he : l.find? p = some e) : ∃ j, l.findIdx? p = some j ∧ l[j]? = some e ∧ l.eraseP p = l.take j ++ l.drop (j + 1) := by
  obtain ⟨j, hj⟩ : ∃ j, l.findIdx? p = some j := by
    cases hx : l.findIdx? p with
    | some j => exact ⟨j, rfl⟩
    | none =>
      rw [List.findIdx?_eq_none_iff] at hx
      have := hx e (List.mem_of_find?_eq_some he)
      rw [List.find?_some he] at this; cases this
  obtain ⟨h1, h2, h3⟩ := List.findIdx?_eq_some_iff_getElem.1 hj
  have hfi : l.find? p = some l[j] := by
    rw [List.find?_eq_some_iff_getElem]
    exact ⟨h2, j, h1, rfl, fun k hk => by have := h3 k hk; simpa using this⟩
  rw [hfi] at he
  refine ⟨j, hj, by rw [List.getElem?_eq_getElem h1]; exact he, ?_⟩
  rw [List.eraseP_eq_eraseIdx, hj]
  exact List.eraseIdx_eq_take_drop_succ _ _

theorem getI_snoc {α : Type} {l : List α} {x : α} {k : Nat} {s : α} (h : (l ++ [x])[k]? = some s) : (k < l.length ∧ l[k]? = some s) ∨ (k = l.length ∧ s = x) := by
  rcases Nat.lt_or_ge k l.length with hk | hk
  · rw [List.getElem?_append_left hk] at h; exact .inl ⟨hk, h⟩
  · rw [List.getElem?_append_right hk] at h
    have : k - l.length = 0 := by
      rcases Nat.eq_zero_or_pos (k - l.length) with q | q
      · exact q
      · rw [List.getElem?_eq_none (by simp; omega)] at h; cases h
    rw [this] at h
    simp at h
    exact .inr ⟨by omega, h.symm⟩
theorem getI_old {α : Type} {l : List α} {x : α} {k : Nat} {s : α} (h : l[k]? = some s) : (l ++ [x])[k]? = some s := by
  rw [List.getElem?_append_left (getI_lt h)]; exact h
theorem getI_new {α : Type} {l : List α} {x : α} : (l ++ [x])[l.length]? = some x := by simp

theorem Hist.new (P : PProg) (m : Int) : Hist (MV.new P m) := by
  have hs : ∀ (k : Nat) (s : Stp), (MV.new P m).st[k]? = some s → False := fun k s h => by
    have : (MV.new P m).st = [] := rfl
    rw [this] at h; simp at h
  refine ⟨fun t => by rw [new_b]; exact List.Pairwise.nil, fun t e he => by rw [new_b] at he; simp at he, fun k s h => (hs k s h).elim, fun k s h => (hs k s h).elim, fun t _ => new_b P m t, fun _ t => new_b P m t, fun k s h => (hs k s h).elim⟩

theorem MV.Inv.hist_nx {V : MV} (v : V.Inv) (H : Hist V) {i : Nat} (hi : V.may i = true) : Hist (V.nx i) := by
  have hmm : (V.nx i).m = V.m := (V.nx_P i).2
  have hst : (V.nx i).st = V.st ++ [V.stp i] := V.nx_st i
  have elt : ∀ t, ∀ e ∈ V.b t, e.id < V.st.length := fun t e he => by
    obtain ⟨k, hk, s, hs, _⟩ := H.ent t e he
    have := getI_lt hs; omega
  by_cases h4 : i < 4
  · have T := v.thr_step h4 hi
    generalize V.stp i = s at *
    have hk6 : s.kind ≠ 6 := by have := T.kind; omega
    have hmem : ∀ t e, e ∈ (V.nx i).b t → e ∈ V.b t ∨ (t = i ∧ isSt V.m s = true ∧ e = ⟨s.loc, s.w, V.st.length⟩) := fun t e he => by
      rw [T.b] at he
      split at he
      · rename_i hc
        rcases List.mem_append.1 he with h | h
        · exact .inl (hc.1 ▸ h)
        · exact .inr ⟨hc.1, hc.2, List.mem_singleton.1 h⟩
      · exact .inl he
    have hsub : ∀ t e, e ∈ V.b t → e ∈ (V.nx i).b t := fun t e he => by
      rw [T.b]
      split
      · rename_i hc; exact List.mem_append_left _ (hc.1 ▸ he)
      · exact he
    refine ⟨fun t => ?_, fun t e he => ?_, fun k u hu hs => ?_, fun j u hu h6 => ?_, fun t ht => ?_, fun hm t => ?_, fun k u hu h6 => ?_⟩
    · rw [T.b]
      split
      · rw [List.pairwise_append]
        refine ⟨H.ids i, by simp, fun a ha b hb => ?_⟩
        rw [List.mem_singleton] at hb
        subst hb
        exact elt i a ha
      · exact H.ids t
    · rw [hst]
      rcases hmem t e he with h | ⟨h1, h2, h3⟩
      · obtain ⟨k, hk, u, hu, h1, h2, h3, h4', h5⟩ := H.ent t e h
        refine ⟨k, hk, u, getI_old hu, h1, h2, h3, h4', fun j w hw h6 => ?_⟩
        rcases getI_snoc hw with ⟨_, hw⟩ | ⟨_, rfl⟩
        · exact h5 j w hw h6
        · exact absurd h6 hk6
      · subst h3
        have h2' := h2
        unfold isSt at h2'
        rw [Bool.and_eq_true, beq_iff_eq] at h2'
        refine ⟨V.st.length, rfl, s, getI_new, h2'.1, by rw [T.t, h1], rfl, rfl, fun j w hw h6 => ?_⟩
        rcases getI_snoc hw with ⟨hl, hw⟩ | ⟨_, rfl⟩
        · obtain ⟨f, hf, hfl⟩ := H.len j w hw h6
          dsimp only; omega
        · exact absurd h6 hk6
    · rw [hst] at hu
      rw [hmm] at hs
      rcases getI_snoc hu with ⟨hl, hu⟩ | ⟨hl, rfl⟩
      · rcases H.sto k u hu hs with ⟨t, h1, e, he, h2⟩ | ⟨j, w, h1, h2, h3⟩
        · exact .inl ⟨t, h1, e, hsub t e he, h2⟩
        · exact .inr ⟨j, w, h1, by rw [hst]; exact getI_old h2, h3⟩
      · refine .inl ⟨i, T.t, ⟨u.loc, u.w, V.st.length⟩, ?_, by rw [hl]⟩
        rw [T.b, if_pos ⟨rfl, hs⟩]
        exact List.mem_append_right _ (List.mem_singleton.2 rfl)
    · rw [hst] at hu
      rcases getI_snoc hu with ⟨hl, hu⟩ | ⟨hl, rfl⟩
      · obtain ⟨a1, a2⟩ := H.flu j u hu h6
        refine ⟨a1, fun t ht e he hloc => ?_⟩
        rw [hmm] at hloc
        rcases hmem t e he with h | ⟨_, _, h3⟩
        · exact a2 t ht e h hloc
        · obtain ⟨f, hf, hfl⟩ := H.len j u hu h6
          subst h3
          dsimp only; omega
      · exact absurd h6 hk6
    · rw [T.b, if_neg (fun c => by omega)]; exact H.b4 t ht
    · rw [hmm] at hm
      have hns : ¬ (t = i ∧ isSt V.m s = true) := fun c => by
        have := c.2
        rw [hm] at this
        simp [isSt] at this
      rw [T.b, if_neg hns]; exact H.own hm t
    · rw [hst] at hu
      rcases getI_snoc hu with ⟨hl, hu⟩ | ⟨hl, rfl⟩
      · exact H.len k u hu h6
      · exact absurd h6 hk6
  · obtain ⟨t0, p, e0, F⟩ := v.flu_step h4 hi
    have he0 := List.mem_of_find?_eq_some F.f
    have hs0 := F.s
    have hsub : ∀ t e, e ∈ (V.nx i).b t → e ∈ V.b t := fun t e he => by
      rw [F.b] at he
      split at he
      · rename_i hc; rw [hc]; exact List.mem_of_mem_eraseP he
      · exact he
    -- what comes to memory is the first that may
    obtain ⟨j0, hj0, hje, her⟩ := eraseP_idx' F.f
    have hout : ∀ e ∈ (V.nx i).b t0, e.id ≠ e0.id := fun e he => by
      rw [F.b, if_pos rfl, her] at he
      have pw := H.ids t0
      rw [List.pairwise_iff_getElem] at pw
      rcases List.mem_append.1 he with h | h
      · obtain ⟨a, ha, rfl⟩ := List.mem_iff_getElem.1 h
        rw [List.length_take] at ha
        rw [List.getElem_take]
        have hjl := getI_lt hje
        have := pw a j0 (by omega) hjl (by omega)
        rw [List.getElem?_eq_getElem hjl] at hje
        cases hje
        omega
      · obtain ⟨a, ha, rfl⟩ := List.mem_iff_getElem.1 h
        rw [List.length_drop] at ha
        rw [List.getElem_drop]
        have hjl := getI_lt hje
        have := pw j0 (j0 + 1 + a) hjl (by omega) (by omega)
        rw [List.getElem?_eq_getElem hjl] at hje
        cases hje
        omega
    refine ⟨fun t => ?_, fun t e he => ?_, fun k u hu hs => ?_, fun j u hu h6 => ?_, fun t ht => ?_, fun hm t => ?_, fun k u hu h6 => ?_⟩
    · rw [F.b]
      split
      · exact List.Pairwise.sublist List.eraseP_sublist (H.ids t0)
      · exact H.ids t
    · rw [hst]
      obtain ⟨k, hk, u, hu, h1, h2, h3, h4', h5⟩ := H.ent t e (hsub t e he)
      refine ⟨k, hk, u, getI_old hu, h1, h2, h3, h4', fun j w hw h6 => ?_⟩
      rcases getI_snoc hw with ⟨_, hw⟩ | ⟨_, hw⟩
      · exact h5 j w hw h6
      · rw [hw, hs0]
        dsimp only
        intro q
        by_cases htt : t = t0
        · subst htt; exact hout e he q.symm
        · obtain ⟨k', hk', u', hu', _, h2', _⟩ := H.ent t0 e0 he0
          have : k' = k := by omega
          subst this
          rw [hu] at hu'
          cases hu'
          omega
    · rw [hst] at hu
      rw [hmm] at hs
      rcases getI_snoc hu with ⟨hl, hu⟩ | ⟨hl, hu⟩
      · rcases H.sto k u hu hs with ⟨t, h1, e, he, h2⟩ | ⟨j, w, h1, h2, h3⟩
        · by_cases hee : e.id = e0.id
          · refine .inr ⟨V.st.length, V.stp i, getI_lt hu, by rw [hst]; exact getI_new, by rw [hs0], by rw [hs0]; dsimp only; omega⟩
          · refine .inl ⟨t, h1, e, ?_, h2⟩
            rw [F.b]
            split
            · rename_i hc
              rw [her]
              rw [hc, ← List.take_append_drop j0 (V.b t0)] at he
              rcases List.mem_append.1 he with h | h
              · exact List.mem_append_left _ h
              · have hd : (V.b t0).drop j0 = e0 :: (V.b t0).drop (j0 + 1) := by
                  have hjl := getI_lt hje
                  rw [List.getElem?_eq_getElem hjl] at hje
                  cases hje
                  exact (List.getElem_cons_drop (h := hjl)).symm
                rw [hd] at h
                rcases List.mem_cons.1 h with rfl | h
                · exact absurd rfl hee
                · exact List.mem_append_right _ h
            · exact he
        · exact .inr ⟨j, w, h1, by rw [hst]; exact getI_old h2, h3⟩
      · rw [hu, hs0] at hs
        simp [isSt] at hs
    · rw [hst] at hu
      rcases getI_snoc hu with ⟨hl, hu⟩ | ⟨hl, hu⟩
      · obtain ⟨a1, a2⟩ := H.flu j u hu h6
        exact ⟨a1, fun t ht e he hloc => a2 t ht e (hsub t e he) (by rw [hmm] at hloc; exact hloc)⟩
      · subst hu
        rw [hs0]
        dsimp only
        refine ⟨by omega, fun t ht e he hloc => ?_⟩
        have htt : t = t0 := by omega
        subst htt
        rw [hmm] at hloc
        have hne := hout e he
        have he' := he
        rw [F.b, if_pos rfl, her] at he'
        have pw := H.ids t
        rw [List.pairwise_iff_getElem] at pw
        have hjl := getI_lt hje
        rw [List.getElem?_eq_getElem hjl] at hje
        cases hje
        rcases List.mem_append.1 he' with h | h
        · -- ahead of it: one that would have come first
          exfalso
          obtain ⟨a, ha, hae⟩ := List.mem_iff_getElem.1 h
          rw [List.length_take] at ha
          rw [List.getElem_take] at hae
          obtain ⟨_, _, h3⟩ := List.findIdx?_eq_some_iff_getElem.1 hj0
          have hpf := h3 a (by omega)
          rw [hae] at hpf
          rw [F.pe e] at hpf
          rcases F.m with hm | hm
          · rw [decide_eq_true hm] at hpf; simp at hpf
          · rw [hloc hm] at hpf; simp at hpf
        · obtain ⟨a, ha, hae⟩ := List.mem_iff_getElem.1 h
          rw [List.length_drop] at ha
          rw [List.getElem_drop] at hae
          have := pw j0 (j0 + 1 + a) hjl (by omega) (by omega)
          rw [hae] at this
          exact this
    · rw [F.b, if_neg (fun c => by have := F.t4; omega)]; exact H.b4 t ht
    · rw [hmm] at hm
      have := F.m; omega
    · rw [hst] at hu
      rcases getI_snoc hu with ⟨hl, hu⟩ | ⟨hl, hu⟩
      · exact H.len k u hu h6
      · obtain ⟨k', hk', u', hu', _⟩ := H.ent t0 e0 he0
        refine ⟨k', by rw [hu, hs0]; exact hk', by have := getI_lt hu'; omega⟩
end Jq

/- VmFirst: stores of a thread come to memory in its order. -/
namespace Jq
open Go

/-- Two flushes in order. -/
def inOrd (m : Int) (a b : Stp) : Prop := a.kind = 6 → b.kind = 6 → a.t = b.t → (m = 3 → a.loc = b.loc) → a.frm < b.frm

/-- All earlier stores of a step's thread have come to memory. -/
def drainD (l : List Stp) (k : Nat) (s : Stp) : Prop := ∀ (j : Nat) (u : Stp), j < k → l[j]? = some u → u.t = s.t → u.kind = 2 → ∃ (w : Nat) (x : Stp), j < w ∧ w < k ∧ l[w]? = some x ∧ x.kind = 6 ∧ x.frm = (j : Int)

structure First (V : MV) : Prop where
  hist : Hist V
  ord : V.st.Pairwise (inOrd V.m)
  dr : V.m ≠ 1 → ∀ (k : Nat) (s : Stp), V.st[k]? = some s → s.kind = 3 ∨ s.kind = 4 ∨ s.kind = 5 → drainD V.st k s

theorem First.new (P : PProg) (m : Int) : First (MV.new P m) := ⟨Hist.new P m, List.Pairwise.nil, fun _ k s h => by
  have : (MV.new P m).st = [] := rfl
  rw [this] at h; simp at h⟩

theorem MV.Inv.first_nx {V : MV} (v : V.Inv) (F : First V) {i : Nat} (hi : V.may i = true) : First (V.nx i) := by
  have H := F.hist
  have hmm : (V.nx i).m = V.m := (V.nx_P i).2
  have hst : (V.nx i).st = V.st ++ [V.stp i] := V.nx_st i
  refine ⟨v.hist_nx H hi, ?_, fun hm1 k s hs hk => ?_⟩
  · rw [hst, hmm, List.pairwise_append]
    refine ⟨F.ord, by simp, fun a ha b hb => ?_⟩
    rw [List.mem_singleton] at hb
    subst hb
    intro h1 h2 h3 h4
    obtain ⟨j, hj, rfl⟩ := List.mem_iff_getElem.1 ha
    by_cases hi4 : i < 4
    · have := (v.thr_step hi4 hi).kind; omega
    · obtain ⟨t, p, e, G⟩ := v.flu_step hi4 hi
      have hs := G.s
      rw [hs] at h3 h4 ⊢
      dsimp only at h3 h4 ⊢
      exact (H.flu j _ (List.getElem?_eq_getElem hj) h1).2 t h3 e (List.mem_of_find?_eq_some G.f) fun q => (h4 q).symm
  · rw [hmm] at hm1
    rw [hst] at hs
    have old : ∀ (l : List Stp) (x : Stp), drainD l k s → k ≤ l.length → drainD (l ++ [x]) k s := fun l x hd hk j u hj hu h1 h2 => by
      rcases getI_snoc hu with ⟨_, hu⟩ | ⟨hl, _⟩
      · obtain ⟨w, y, q1, q2, q3, q4⟩ := hd j u hj hu h1 h2
        exact ⟨w, y, q1, q2, getI_old q3, q4⟩
      · omega
    rw [hst]
    rcases getI_snoc hs with ⟨hl, hs2⟩ | ⟨hl, hs2⟩
    · exact old _ _ (F.dr hm1 k s hs2 hk) (Nat.le_of_lt hl)
    · subst hl
      subst hs2
      refine old _ _ (fun j u hj hu h1 h2 => ?_) (Nat.le_refl _)
      by_cases hi4 : i < 4
      · have T := v.thr_step hi4 hi
        have hb := T.free hk
        rcases H.sto j u hu (by unfold isSt; rw [Bool.and_eq_true, beq_iff_eq, bne_iff_ne]; exact ⟨h2, hm1⟩) with ⟨t, q1, e, he, _⟩ | ⟨w, x, q1, q2, q3⟩
        · exfalso
          have ht := T.t
          have : t = i := by omega
          rw [this, hb] at he
          simp at he
        · exact ⟨w, x, q1, getI_lt q2, q2, q3⟩
      · obtain ⟨t, p, e, G⟩ := v.flu_step hi4 hi
        have := G.s
        rw [this] at hk
        simp at hk

/-- Is it flushed there? -/
def flB (l : List Stp) (j w : Nat) : Bool := match l[w]? with
  | some u => u.kind == 6 && u.frm == (j : Int)
  | none => false
def wB (l : List Stp) (j k : Nat) : Bool := !((List.range (k - (j + 1))).any fun i => flB l j (j + 1 + i))

theorem wB_false {l : List Stp} {j k w : Nat} {x : Stp} (h1 : j < w) (h2 : w < k) (hx : l[w]? = some x) (hk : x.kind = 6) (hf : x.frm = (j : Int)) : wB l j k = false := by
  unfold wB
  rw [Bool.not_eq_false', List.any_eq_true]
  refine ⟨w - (j + 1), List.mem_range.2 (by omega), ?_⟩
  rw [show j + 1 + (w - (j + 1)) = w by omega]
  unfold flB
  rw [hx]
  dsimp only
  rw [hk, hf]; simp

theorem stp_fld {h : AHeap} {y : Cell} {l : List Stp} (o : SlAt h y 7 (stepsC l) l.length) {i : Nat} {s : Stp} (hq : l[i]? = some s) (j : Nat) (hj : j < 7) {v : Int} (hv : s.cs[j]? = some (.int .i64 v)) {α : Type} {f : Cell → Option α} :
    (idxSK 7 y (i : Int) fun k N o => rdH h k N fun l => atK l (o + j) f) = f (.int .i64 v) := o.get (getI_lt hq) hj (stepsC_cell hq hj hv)

section
variable {E : Env}

theorem waits_R (hE : jacquardlaw16_waits_In E) {h : AHeap} {y : Cell} {l : List Stp} (o : SlAt h y 7 (stepsC l) l.length) (hl : l.length < 1000000) {j k : Nat} (hj : j < k) (hk : k ≤ l.length) {m : Int} (hm : m ≠ 1) :
    R E 177 [.c y, .c (.int .i64 (j : Int)), .c (.int .i64 (k : Int)), .c (.int .i64 m)] h = some ([.c (.bool (wB l j k))], h) := by
  refine R_intro hE.fn ?_
  have ga := Lim_any (F := jacquardlaw16_waits_F1 (R E) Lim E.glob) (fun i => jacquardlaw16_waits_s1 y (j : Int) (k : Int) ((j + 1 + i : Nat) : Int) h) (fun i => flB l j (j + 1 + i)) (.ret, jacquardlaw16_waits_x1_0 false h) (.exit 0, jacquardlaw16_waits_x1_1 h) (k - (j + 1)) (fun i hi => by
    obtain ⟨s, hs⟩ : ∃ s, l[j + 1 + i]? = some s := ⟨_, List.getElem?_eq_getElem (by omega)⟩
    rw [jacquardlaw16_waits_r1, if_pos (decide_eq_true (by omega)), stp_fld o hs 2 (by omega) rfl, asI_ok]
    rw [show flB l j (j + 1 + i) = (s.kind == 6 && s.frm == (j : Int)) by unfold flB; rw [hs]]
    have e2 : ∀ {α : Type} (f : Bool → AHeap → Option α), (scK (s.kind == 6) true (idxSK 7 y ((j + 1 + i : Nat) : Int) fun k_7 N_8 o_9 => rdH h k_7 N_8 fun l_10 => atK l_10 (o_9 + 6) fun q_11 => asI .i64 (.c q_11) fun n_12 => some ((n_12 == (j : Int)), h)) false h f) = f (s.kind == 6 && s.frm == (j : Int)) h := fun f => by
      rw [stp_fld o hs 6 (by omega) rfl, asI_ok, scK_and]
    refine (e2 _).trans ?_
    rw [g_succ (by omega)]
    rfl) (by simp) (by rw [jacquardlaw16_waits_r1, if_neg (by rw [decide_eq_false (by omega)]; simp)]) (by simp)
  rw [jacquardlaw16_waits_eq, if_neg (by rw [beq_iff_eq]; exact hm), g_succ (by omega)]
  have ga' : Lim (jacquardlaw16_waits_F1 (R E) Lim E.glob) (jacquardlaw16_waits_s1 y (j : Int) (k : Int) ((j + 1 : Nat) : Int) h) = _ := ga
  rw [ga', bind_ok]
  unfold wB
  split
  · rename_i hc; rw [hc]; dsimp only; rw [jacquardlaw16_waits_e1_0]; rfl
  · rename_i hc
    rw [Bool.not_eq_true] at hc
    rw [hc]; dsimp only; rw [jacquardlaw16_waits_e1_1]; rfl

theorem drained_R (hE : jacquardlaw16_drained_In E) {h : AHeap} {y : Cell} {l : List Stp} (o : SlAt h y 7 (stepsC l) l.length) (hl : l.length < 1000000) {k : Nat} {s : Stp} (hs : l[k]? = some s) (hd : drainD l k s) :
    R E 178 [.c y, .c (.int .i64 (k : Int))] h = some ([.c (.bool true)], h) := by
  refine R_intro hE.fn ?_
  have hk := getI_lt hs
  have lp : Lim (jacquardlaw16_drained_F1 (R E) Lim E.glob) (jacquardlaw16_drained_s1 y (k : Int) ((0 : Nat) : Int) h) = some (.exit 0, jacquardlaw16_drained_x1_1 h) := by
    refine Lim_count (F := jacquardlaw16_drained_F1 (R E) Lim E.glob) (fun j => jacquardlaw16_drained_s1 y (k : Int) (j : Int) h) 0 k (by omega) (fun j _ hj => ?_) (Lim_exit ?_)
    · obtain ⟨u, hu⟩ : ∃ u, l[j]? = some u := ⟨_, List.getElem?_eq_getElem (by omega)⟩
      rw [jacquardlaw16_drained_r1, if_pos (by simp; omega), stp_fld o hu 1 (by omega) rfl, asI_ok, stp_fld o hs 1 (by omega) rfl, asI_ok, stp_fld o hu 2 (by omega) rfl, asI_ok, scK_and]
      by_cases hc : (u.t == s.t && u.kind == 2) = true
      · have hc' := hc
        rw [Bool.and_eq_true, beq_iff_eq, beq_iff_eq] at hc'
        obtain ⟨w, x, q1, q2, q3, q4, q5⟩ := hd j u hj hu hc'.1 hc'.2
        rw [hc, scK_ok, waits_R hE.c177 o hl hj (Nat.le_of_lt hk) (by omega), wB_false q1 q2 q3 q4 q5, qh_ok, c1_ok, asB_ok, bind_ok]
        dsimp only
        rw [if_neg (by simp), g_succ (by omega)]
      · rw [Bool.not_eq_true] at hc
        rw [hc, scK_ft, if_neg (by simp), g_succ (by omega)]
    · rw [jacquardlaw16_drained_r1, if_neg (by simp)]
  rw [show ((0 : Nat) : Int) = 0 from rfl] at lp
  rw [jacquardlaw16_drained_eq, lp, bind_ok]
  dsimp only
  rw [jacquardlaw16_drained_e1_1]

set_option maxHeartbeats 1000000 in
theorem VmFirst_law (ht : TabOk E) (hE : jacquardlaw16_VmFirst_In E) {h : AHeap} {c0 c1' c2' : List Cell} (o0 : okC h (.sl (.i .i64)) c0) (o1 : okC h (.i .i64) c1') (o2 : okC h (.sl (.i .i64)) c2') :
    ∃ h', R E 219 [av1 (.sl (.i .i64)) c0, av1 (.i .i64) c1', av1 (.sl (.i .i64)) c2'] h = some ([.c (.bool true)], h') := by
  obtain ⟨x, l, ha0, hx, hlow, _, hml⟩ := arg_ints o0
  obtain ⟨m0, ha1, _⟩ := arg_int o1
  obtain ⟨y, ps, ha2, hy, hylow, _, hpl⟩ := arg_ints o2
  obtain ⟨cs, h1, P, r1, p1, g1, g2, k1, mk⟩ := Vstart hE.c76 hE.c171 hx hlow (by unfold maxLen at hml; omega) (most := 12) (by omega)
  have hb1 : 0 ≤ E.glob.band .i64 m0 1 ∧ E.glob.band .i64 m0 1 < 2 := by rw [g_band1]; omega
  have hm1 : E.glob.wrap .i64 (E.glob.band .i64 m0 1 + 2) = E.glob.band .i64 m0 1 + 2 := g_wrap_i64 (by omega) (by omega)
  generalize hmm : E.glob.band .i64 m0 1 + 2 = m at hm1
  have hm23 : m = 2 ∨ m = 3 := by omega
  obtain ⟨n, k, pc, h2, r2, a2, n2, k2⟩ := mk h1 m (Kp.refl _ _) (by omega) (by omega)
  obtain ⟨p, hp, hQ⟩ := Lim_fallN (F := jacquardlaw16_VmFirst_F1 (R E) Lim E.glob)
    (fun q st => ∃ (i : Nat) (V : MV) (z : Cell) (h' : AHeap), q = 60 - i ∧ i ≤ 60 ∧ st = jacquardlaw16_VmFirst_s1 m y (.ptr k 329 0) (i : Int) h' ∧ VmAt n h' k z pc V ∧ V.Inv ∧ First V ∧ V.m = m ∧ V.st.length ≤ i ∧ Kp h1.length h1 h')
    (fun p => ∃ (V : MV) (z : Cell) (h' : AHeap), p = (.exit 0, jacquardlaw16_VmFirst_x1_1 m (.ptr k 329 0) h') ∧ VmAt n h' k z pc V ∧ V.Inv ∧ First V ∧ V.m = m ∧ V.st.length ≤ 60)
    (fun q st hI => by
      obtain ⟨i, V, z, h', rfl, hi60, rfl, a, v, fv, vm, vl, kk⟩ := hI
      have pg := prog_at a.prog a.hn (Kp.refl n h')
      have dn := Done_R hE.c174 a.blk v.fit pg
      have en := Enabled_R hE.c172 a.blk v.fit pg
      by_cases hc : i < 60 ∧ V.word ≠ 0
      · refine .inl ?_
        have hcond : ∀ {α : Type} (f : Bool → AHeap → Option α), scK (decide ((i : Int) < 60)) true (c1 (R E 174 [(.c (.ptr k 329 0))] h') fun y_13 h_12 => asB y_13 fun b_14 => some ((!b_14), h_12)) false h' f = f true h' := fun f => by
          rw [dn, c1_ok, asB_ok, decide_eq_true (by omega), scK_and, show (V.word == 0) = false from beq_false_of_ne hc.2]; rfl
        obtain ⟨ww, h5, r5, o5, k5⟩ := List_R hE.c32 ht V.word_lt h'
        have a5 := a.keep k5
        have kk5 : Kp h1.length h1 h5 := kk.trans (k5.mono kk.1)
        have hne : (bitsL V.word).length ≠ 0 := fun e => hc.2 (bits_none.1 e)
        have pick : ∀ j : Nat, V.may j = true → ∃ (h6 : AHeap) (st' : St) (k' : Nat), R E 173 [.c (.ptr k 329 0), .c (.int .i64 (j : Int))] h5 = some ([.agg (V.stp j).cs, .c (.bool true)], h6) ∧ jacquardlaw16_VmFirst_s1 m y (.ptr k 329 0) (E.glob.wrap .i64 ((i : Int) + 1)) h6 = st' ∧
            (∃ (i : Nat) (V : MV) (z : Cell) (h' : AHeap), k' = 60 - i ∧ i ≤ 60 ∧ st' = jacquardlaw16_VmFirst_s1 m y (.ptr k 329 0) (i : Int) h' ∧ VmAt n h' k z pc V ∧ V.Inv ∧ First V ∧ V.m = m ∧ V.st.length ≤ i ∧ Kp h1.length h1 h') ∧ k' < 60 - i := by
          intro j hj
          obtain ⟨z', h6, r6, a6, k6⟩ := Pick_R hE.c173 a5 v (by omega) hj
          exact ⟨h6, _, 60 - (i + 1), r6, rfl, ⟨i + 1, V.nx j, z', h6, rfl, by omega, by rw [g_succ (by omega)], a6, v.nx hj, v.first_nx fv hj, by rw [(V.nx_P j).2, vm], by rw [V.nx_st, List.length_append, List.length_singleton]; omega, kk5.trans (k6.kp.mono n2)⟩, by omega⟩
        have hy5 := hy.keep hylow (k1.trans (kk5.mono k1.1))
        by_cases hcp : i < ps.length
        · have hq : ps[i]? = some ps[i] := List.getElem?_eq_getElem hcp
          generalize ps[i] = pk at hq
          have hrng := rem_rng (E := E) (x := E.glob.band .i64 pk 65535) (m := ((bitsL V.word).length : Int)) g_band16.1 (by omega)
          obtain ⟨j, hj, hch⟩ := choose o5 hrng.1 hrng.2
          obtain ⟨h6, st', k', r6, e1, e2, e3⟩ := pick j hj
          refine ⟨st', k', ?_, e2, e3⟩
          rw [jacquardlaw16_VmFirst_r1, hcond, if_pos rfl, en, c1_ok, asI_ok, r5, c1_ok, asC_ok, o5.at.len, if_neg (by rw [beq_iff_eq]; omega), hy5.len, if_pos (by simp; omega), hy5.get1 hcp (intC_get hq), asI_ok, o5.at.len, if_neg (by omega)]
          dsimp only
          rw [hch, asI_ok, r6, c2_ok, asA_ok, asB_ok, e1]
        · have hrng := rem_rng (E := E) (x := (i : Int)) (m := ((bitsL V.word).length : Int)) (by omega) (by omega)
          obtain ⟨j, hj, hch⟩ := choose o5 hrng.1 hrng.2
          obtain ⟨h6, st', k', r6, e1, e2, e3⟩ := pick j hj
          refine ⟨st', k', ?_, e2, e3⟩
          rw [jacquardlaw16_VmFirst_r1, hcond, if_pos rfl, en, c1_ok, asI_ok, r5, c1_ok, asC_ok, o5.at.len, if_neg (by rw [beq_iff_eq]; omega), hy5.len, if_neg (by simp; omega), o5.at.len, if_neg (by omega), hch, asI_ok, r6, c2_ok, asA_ok, asB_ok, e1]
      · refine .inr ⟨_, ?_, (by simp : Ex.exit 0 ≠ .normal), V, z, h', rfl, a, v, fv, vm, by omega⟩
        have hcond : ∀ {α : Type} (f : Bool → AHeap → Option α), scK (decide ((i : Int) < 60)) true (c1 (R E 174 [(.c (.ptr k 329 0))] h') fun y_13 h_12 => asB y_13 fun b_14 => some ((!b_14), h_12)) false h' f = f false h' := fun f => by
          rw [dn, c1_ok, asB_ok, scK_and]
          by_cases h6 : i < 60
          · have : V.word = 0 := Classical.byContradiction fun q => hc ⟨h6, q⟩
            rw [this]; simp
          · rw [decide_eq_false (by omega)]; rfl
        rw [jacquardlaw16_VmFirst_r1, hcond, if_neg (by simp)]) (k := 60) (st := jacquardlaw16_VmFirst_s1 m y (.ptr k 329 0) 0 h2) ⟨0, MV.new P m, .nils, h2, rfl, by omega, rfl, a2, g1.inv g2 (by omega), First.new P m, rfl, by show 0 ≤ 0; omega, k2⟩
  obtain ⟨V, z, h9, rfl, a9, v, fv, vm, vl⟩ := hQ
  obtain ⟨yy, hA, rA, oA, kA⟩ := Steps_R hE.c175 a9 v.fit (by omega)
  have o := oA.at
  have dr := fv.dr (by omega)
  have od := fv.ord
  rw [vm] at od
  generalize V.st = L at *
  have l3 : Lim (jacquardlaw16_VmFirst_F3 (R E) Lim E.glob) (jacquardlaw16_VmFirst_s3 m yy ((0 : Nat) : Int) hA) = some (.exit 2, jacquardlaw16_VmFirst_x3_3 hA) := by
    refine Lim_count (F := jacquardlaw16_VmFirst_F3 (R E) Lim E.glob) (fun i => jacquardlaw16_VmFirst_s3 m yy (i : Int) hA) 0 L.length (by omega) (fun i _ hi => ?_) (Lim_exit ?_)
    · have hq : L[i]? = some L[i] := List.getElem?_eq_getElem hi
      have hpw := List.pairwise_iff_getElem.1 od
      generalize hsi : L[i] = s at hq
      have l2 : Lim (jacquardlaw16_VmFirst_F2 (R E) Lim E.glob) (jacquardlaw16_VmFirst_s2 m yy (i : Int) ((i + 1 : Nat) : Int) hA) = some (.exit 4, jacquardlaw16_VmFirst_x2_5 m yy (i : Int) hA) := by
        refine Lim_count (F := jacquardlaw16_VmFirst_F2 (R E) Lim E.glob) (fun j => jacquardlaw16_VmFirst_s2 m yy (i : Int) (j : Int) hA) (i + 1) L.length (by omega) (fun j hij hj => ?_) (Lim_exit ?_)
        · have hu : L[j]? = some L[j] := List.getElem?_eq_getElem hj
          have ho := hpw i j hi hj (by omega)
          rw [hsi] at ho
          generalize L[j] = u at hu ho
          rw [jacquardlaw16_VmFirst_r2, o.len, if_pos (by simp; omega)]
          simp only [stp_fld o hq 2 (by omega) rfl, stp_fld o hu 2 (by omega) rfl, stp_fld o hq 1 (by omega) rfl, stp_fld o hu 1 (by omega) rfl, stp_fld o hq 3 (by omega) rfl, stp_fld o hu 3 (by omega) rfl, stp_fld o hq 6 (by omega) rfl, stp_fld o hu 6 (by omega) rfl, asI_ok, scK_or, scK_and]
          by_cases hc : ((s.kind != 6 || u.kind != 6 || s.t != u.t) || (m == 3 && s.loc != u.loc)) = true
          · rw [if_pos hc, g_succ (by omega)]
          · rw [if_neg hc]
            rw [Bool.or_eq_true, Bool.or_eq_true, Bool.or_eq_true, Bool.and_eq_true, bne_iff_ne, bne_iff_ne, bne_iff_ne, bne_iff_ne, beq_iff_eq] at hc
            have := ho (by omega) (by omega) (by omega) (fun q => by omega)
            rw [if_neg (by simp; omega), g_succ (by omega)]
        · rw [jacquardlaw16_VmFirst_r2, o.len, if_neg (by simp)]
      rw [jacquardlaw16_VmFirst_r3, o.len, if_pos (by simp; omega), g_succ (by omega), l2, bind_ok]
      dsimp only
      rw [jacquardlaw16_VmFirst_e2_5]
      simp only [stp_fld o hq 2 (by omega) rfl, asI_ok, scK_or]
      by_cases hc : (s.kind == 3 || s.kind == 4 || s.kind == 5) = true
      · have hc' := hc
        rw [Bool.or_eq_true, Bool.or_eq_true, beq_iff_eq, beq_iff_eq, beq_iff_eq] at hc'
        rw [hc, scK_ok, drained_R hE.c178 o (by omega) hq (dr i s hq (by omega)), c1_ok, asB_ok, bind_ok]
        dsimp only
        rw [if_neg (by simp), g_succ (by omega)]
      · rw [Bool.not_eq_true] at hc
        rw [hc, scK_ft, if_neg (by simp), g_succ (by omega)]
    · rw [jacquardlaw16_VmFirst_r3, o.len, if_neg (by simp)]
  rw [show ((0 : Nat) : Int) = 0 from rfl] at l3
  obtain ⟨hB, rB, kB⟩ := awake16_R hE.c170 hA
  refine ⟨hB, R_intro hE.fn ?_⟩
  rw [ha0, ha1, ha2, jacquardlaw16_VmFirst_eq, show (12 : Int) = ((12 : Nat) : Int) from rfl, r1, c1_ok, asA_ok, if_pos (by exact ⟨rfl, rfl, p1.len⟩), if_pos (by exact ⟨rfl, p1.len⟩), hmm, hm1, r2, c2_ok, asC_ok, asI_ok, ptr_nil, scK_or, show (false || ((0 : Int) != 0)) = false from rfl, if_neg (by simp), hp, bind_ok]
  dsimp only
  rw [jacquardlaw16_VmFirst_e1_1, rA, c1_ok, asC_ok, l3, bind_ok]
  dsimp only
  rw [jacquardlaw16_VmFirst_e3_3, rB, c1_ok, asB_ok]
end
end Jq

/- VmFirst: whatever the input the call says true, and each argument reads behind it as before. No conditions. -/
namespace Go.Proofs.YtnjjcoobhpldcaaDoor.LVmFirst
open Go Jq Go.ChangeShapes Go.WideShapes Go.ChangeAt Go.RowKit
set_option linter.unusedVariables false

theorem own : ownKnob Tryd.prog.godebug = none := by kernel_rfl
theorem laidOut : laidOutB Tryd.prog = true := by kernel_rfl

theorem gN : Tryd.prog.globalNamed "math/bits.deBruijn64tab" = some 0 := by kernel_rfl
theorem met (os : Os) (args : Array Value) : laidMetH Tryd.prog Rows.vmFirstRow.laid ((World.doorLaid Tryd.prog 400 os).forCall (fun _ _ => 0) ⟨#[], args, []⟩).memory :=
  laidMetH_of_parts3 (fuel := 8) (laidMet_of_run' 8 (by kernel_rfl) (by kernel_rfl)) (by kernel_rfl) (by kernel_rfl)
theorem of_laid {W : World} (h : laidMetH Tryd.prog Rows.vmFirstRow.laid W) : ∀ i, i < deB.length → W.cell? ⟨0, i, none⟩ = some (.int .u8 (deB.getD i 0)) := by
  rw [MakeChecks.laidMetH_plain _ _ _ (by kernel_rfl)] at h
  have h := laidMet.tail h
  have hT := Lib.tabIs_of_head (zs := deB) (n := 64) gN (t := 154) (by kernel_rfl) (e := 5) (by kernel_rfl) (by kernel_rfl) (by kernel_rfl) (by kernel_rfl) h
  exact fun i hi => hT.cell gN i hi

set_option maxRecDepth 100000 in
theorem lifted (os : Os) (started : os.Started) (H : Type) (enc : TypeId × Value → H) :
    ReturnsInHanded {} Tryd.checked os 7 .any (fun w args => (Rows.vmFirstSpec.pre enc Tryd.prog Tryd.f7 [] false w args ∧ laidMetH Tryd.prog Rows.vmFirstRow.laid w) ∧ sizedMet enc Tryd.prog Tryd.f7 (OpenSpec.ofChange Rows.vmFirstSpec) false w args) (Rows.vmFirstSpec.post enc Tryd.prog Tryd.f7 false true false false) := by
  refine returnsInHanded_of_change_and (C := Tryd.checked) (X := fun w _ => laidMetH Tryd.prog Rows.vmFirstRow.laid w) (fun _ _ _ hh h => h.of_heap hh) own started (by kernel_rfl) Tryd.func7
    (ChangeSpec.witness_shaped (enc := enc) (C := Tryd.checked) (os := os) (X := fun w _ => laidMetH Tryd.prog Rows.vmFirstRow.laid w) false (World.doorLaid Tryd.prog 400 os) #[.slice none 0 0, .int .i64 0, .slice none 0 0] 8 rfl (World.shaped_of_RefB (by kernel_rfl) (by kernel_rfl)) (by kernel_rfl) (by kernel_rfl) (by kernel_rfl) (met os _)) ?_
  intro W base args ds gs before hval0 hW _ _ hL _
  have hval : ∀ (j : Nat) t v, Tryd.f7.params[j]? = some t → args[j]? = some v → Value.okWide Tryd.prog W .any base t v := hval0
  have hW' := hW
  obtain ⟨p, q, hA0, hV, rfl, hfz, hnd⟩ := hW
  have hA : DataW.TrodAll enc Tryd.prog W 0 (fun _ => true) true Tryd.f7.params.toList args.toList ds p := hA0
  rw [Tryd.params7] at hA hval
  obtain ⟨v0, vs0, d0, ds0, p0, q0, hargs, rfl, rfl, h0, r0⟩ := trodAll_cons hA
  obtain ⟨v1, vs1, d1, ds1, p1, q1, rfl, rfl, rfl, h1, r1⟩ := trodAll_cons r0
  obtain ⟨v2, vs2, d2, ds2, p2, q2, rfl, rfl, rfl, h2, r2⟩ := trodAll_cons r1
  obtain ⟨rfl, rfl, rfl⟩ := trodAll_nil r2
  obtain rfl : args = #[v0, v1, v2] := by cases args; simp_all
  obtain ⟨rfl, rfl⟩ := trodVars_none hV
  have lt0 : ∀ x ∈ p0, x.block < W.heap.size := by obtain ⟨m, hm⟩ := h0; exact DataW.trod_lt m _ _ _ hm
  have lt1 : ∀ x ∈ p1, x.block < W.heap.size := by obtain ⟨m, hm⟩ := h1; exact DataW.trod_lt m _ _ _ hm
  have lt2 : ∀ x ∈ p2, x.block < W.heap.size := by obtain ⟨m, hm⟩ := h2; exact DataW.trod_lt m _ _ _ hm
  have c := Come.tab1 (S := seat) (W := W) deB (fun _ => rfl) (of_laid hL)
  have k0 : ((.sl (.i .i64)) : Sh).chk seat.P 25 = true := by kernel_rfl
  obtain ⟨b0, ρ0, cs0, c0, e0, x0, a0, o0⟩ := opens_arg (S := seat) (W := W) (sh := (.sl (.i .i64))) k0 h0 (wide_of k0 (hval 0 25 v0 rfl rfl)) ⟨nofun, nofun⟩ c
  have k1 : ((.i .i64) : Sh).chk seat.P 3 = true := by kernel_rfl
  obtain ⟨b1, ρ1, cs1, c1, e1, x1, a1, o1⟩ := opens_arg (S := seat) (W := W) (sh := (.i .i64)) k1 h1 (wide_of k1 (hval 1 3 v1 rfl rfl)) ⟨nofun, nofun⟩ c0
  have k2 : ((.sl (.i .i64)) : Sh).chk seat.P 25 = true := by kernel_rfl
  obtain ⟨b2, ρ2, cs2, c2, e2, x2, a2, o2⟩ := opens_arg (S := seat) (W := W) (sh := (.sl (.i .i64))) k2 h2 (wide_of k2 (hval 2 25 v2 rfl rfl)) ⟨nofun, nofun⟩ c1
  obtain ⟨h', hR⟩ := VmFirst_law (E := env) tabOk in_219 (okC_mono x2 _ _ (okC_mono x1 _ _ o0)) (okC_mono x2 _ _ o1) o2
  refine (law_call (S := seat) (R_sound (S := seat) (E := env) rfl allOk) c2 (vals := #[v0, v1, v2]) (L2.cons (relA.mono e2 (relA.mono e1 a0)) (L2.cons (relA.mono e2 a1) (L2.cons a2 L2.nil))) hR).mono fun e W' ⟨he, bel⟩ => ?_
  subst he
  exact ⟨_, rfl, _, _, _, [], _, [], hW', trodAll_mk1 (shut_bool Tryd.underlying4 _), (trodAll_cons_mk (Below.trod laidOut (by kernel_rfl) (of_decide_eq_true (by kernel_rfl)) h0 bel lt0) (trodAll_cons_mk (Below.trod laidOut (by kernel_rfl) (of_decide_eq_true (by kernel_rfl)) h1 bel lt1) (trodAll_cons_mk (Below.trod laidOut (by kernel_rfl) (of_decide_eq_true (by kernel_rfl)) h2 bel lt2) trodAll_mk0))), rfl, bel.frame _, fun h => by cases h⟩

theorem over : Rows.vmFirstRow.holds Tryd.pinned (OpenSpec.ofChange Rows.vmFirstSpec) :=
  OpenClaim.holds_of_wide 7 Tryd.f7 rfl rfl rfl rfl rfl rfl rfl ⟨rfl, rfl, rfl, rfl, rfl⟩ rfl rfl rfl rfl rfl (by kernel_rfl) Tryd.func7 (by kernel_rfl)
    (of_decide_eq_true (by kernel_rfl)) (by unfold Func.isWrapper; first | (rw [if_pos (by decide +kernel)]; kernel_rfl) | (rw [if_neg (by decide +kernel)]; exact ⟨rfl, rfl⟩))
    (fun os started H enc _ => lifted os started H enc)

theorem proved : Rows.VmFirstCardSaid :=
  Claim7.holds_tied_plain_at .later [] [.data, .data, .data] true (true, "fbcc807f78fdf03f3d1dccb6a06178810c141046c856c49e25ab327e98756d6a") false
    over (fun _ h => by cases h) (by kernel_rfl) (fun _ h => by cases h) vmFirst_row_tie rfl ⟨rfl, rfl⟩ (by kernel_rfl) rfl
    (fun f fn hf hfn => by
      obtain rfl : f = 7 := Option.some.inj ((show Tryd.prog.funcNamed "jacquard/jacquardlaw16.VmFirst" = some 7 by kernel_rfl).symm.trans hf) |>.symm
      obtain rfl : fn = Tryd.f7 := (Option.some.inj (Tryd.func7.symm.trans hfn)).symm
      exact ⟨by kernel_rfl, fun j t ht => by
        rw [Tryd.params7] at ht
        have hm : t ∈ [25, 3, 25] := by simpa using Array.mem_of_getElem? ht
        have hall : ([25, 3, 25].all fun u => !Tryd.prog.wantsStandIn u) = true := by kernel_rfl
        exact (show Tryd.prog.wantsStandIn t = false by simpa using List.all_eq_true.1 hall t hm)⟩)
    (by kernel_rfl)
#print axioms proved

end Go.Proofs.YtnjjcoobhpldcaaDoor.LVmFirst

