/- YtnjjcoobhpldcaaDoorVmWaitsD: a part of the proof; no conditions of its own. -/
import Derived.Test.YtnjjcoobhpldcaaDoorRows
import Derived.WalkKit
import Derived.ProofKit
import Derived.OpenShut
import Derived.ShutString
import Derived.ChangeOld
import Derived.Below
import Derived.Carry
import Derived.Test.YtnjjcoobhpldcaaDoorCards
import Derived.Test.YtnjjcoobhpldcaaDoorTie
import Derived.SevenTiedAt
import Derived.LaidMore
import Derived.Stop.Joined
import Derived.Lib.LaidTab
import Derived.MakeChecks
import Derived.LaidHandle
import Derived.Stop.LaidErr
import Derived.Test.YtnjjcoobhpldcaaDoorVmWaitsC
set_option linter.unusedVariables false
set_option linter.unusedSimpArgs false

/- VmWaits: what waits is told by what may be picked. -/
namespace Jq
open Go

/-- How many wait there. -/
def MV.cnt (V : MV) (q : Nat) : Int :=
  if V.m = 2 ∧ 4 ≤ q ∧ q < 8 then ((V.b (q - 4)).length : Int)
  else if V.m = 3 ∧ 8 ≤ q ∧ q < 24 then ((V.b ((q - 8) / 4)).countP (oldP 3 (((q - 8) % 4 : Nat) : Int)) : Int) else 0

theorem MV.cnt2 {V : MV} (hm : V.m = 2) (q : Nat) : V.cnt q = if 4 ≤ q ∧ q < 8 then ((V.b (q - 4)).length : Int) else 0 := by
  unfold MV.cnt
  by_cases h : 4 ≤ q ∧ q < 8
  · rw [if_pos ⟨hm, h⟩, if_pos h]
  · rw [if_neg (fun c => h c.2), if_neg (fun c => by omega), if_neg h]
theorem MV.cnt3 {V : MV} (hm : V.m = 3) (q : Nat) : V.cnt q = if 8 ≤ q ∧ q < 24 then ((V.b ((q - 8) / 4)).countP (oldP 3 (((q - 8) % 4 : Nat) : Int)) : Int) else 0 := by
  unfold MV.cnt
  rw [if_neg (fun c => by omega)]
  by_cases h : 8 ≤ q ∧ q < 24
  · rw [if_pos ⟨hm, h⟩, if_pos h]
  · rw [if_neg (fun c => h c.2), if_neg h]

def cntC (V : MV) : List Cell := (List.range 24).map fun q => .int .i64 (V.cnt q)

theorem cntC_len (V : MV) : (cntC V).length = 24 := by simp [cntC]
theorem cntC_get (V : MV) {q : Nat} (h : q < 24) : (cntC V)[q]? = some (.int .i64 (V.cnt q)) := by
  unfold cntC
  rw [List.getElem?_map, List.getElem?_range h]; rfl
theorem cntC_set {V W : MV} {q : Nat} {v : Int} (h1 : W.cnt q = v) (h2 : ∀ p, p ≠ q → W.cnt p = V.cnt p) : (cntC V).set q (.int .i64 v) = cntC W := by
  refine List.ext_getElem? fun j => ?_
  by_cases hj : j < 24
  · rw [cntC_get W hj]
    by_cases e : q = j
    · subst e; rw [List.getElem?_set_self (by rw [cntC_len]; exact hj), h1]
    · rw [List.getElem?_set_ne e, cntC_get V hj, h2 j fun h => e h.symm]
  · rw [List.getElem?_eq_none (by rw [List.length_set, cntC_len]; omega), List.getElem?_eq_none (by rw [cntC_len]; omega)]

theorem MV.may_cnt (V : MV) {k : Nat} (h4 : 4 ≤ k) (h24 : k < 24) : V.may k = decide (V.cnt k > 0) := by
  unfold MV.may MV.cnt
  rw [if_neg (by omega)]
  by_cases h8 : k < 8
  · rw [if_pos h8]
    unfold MV.mayF
    by_cases hm : V.m = 2
    · rw [if_pos ⟨hm, h4, h8⟩, hm]
      cases V.b (k - 4) with
      | nil => rfl
      | cons e l => rw [decide_eq_true (by rw [List.length_cons]; omega)]; rfl
    · rw [if_neg (fun q => hm q.1), if_neg (show ¬ (V.m = 3 ∧ 8 ≤ k ∧ k < 24) by omega), beq_false_of_ne hm]; rfl
  · rw [if_neg h8, if_pos h24, if_neg (by omega)]
    unfold MV.mayL
    by_cases hm : V.m = 3
    · rw [if_pos ⟨hm, by omega, h24⟩, hm, Bool.eq_iff_iff, decide_eq_true_eq]
      have : ((3 : Int) == 3) = true := rfl
      rw [this, Bool.true_and, List.find?_isSome]
      constructor
      · rintro ⟨e, he, hp⟩
        have := List.countP_pos_iff.2 ⟨e, he, hp⟩
        omega
      · intro hp
        obtain ⟨e, he, hp⟩ := List.countP_pos_iff.1 (show 0 < (V.b ((k - 8) / 4)).countP (oldP 3 (((k - 8) % 4 : Nat) : Int)) by omega)
        exact ⟨e, he, hp⟩
    · rw [if_neg (fun q => hm q.1), beq_false_of_ne hm]; rfl

/-- Where a step's stores are counted. -/
def qOf (m : Int) (s : Stp) : Nat := if m = 3 then 8 + (4 * s.t.toNat + s.loc.toNat) else 4 + s.t.toNat

theorem evOf_kinds (i : Ins) (l : Lcl) (v : Int) : 1 ≤ (evOf i l v).kind ∧ (evOf i l v).kind ≤ 5 := by
  unfold evOf
  split
  · exact ⟨by dsimp only; omega, by dsimp only; omega⟩
  · split
    · exact ⟨by dsimp only; omega, by dsimp only; omega⟩
    · split
      · split <;> exact ⟨by dsimp only; omega, by dsimp only; omega⟩
      · exact ⟨by dsimp only; omega, by dsimp only; omega⟩

/-- What a step's place is. -/
theorem MV.Inv.stp_at {V : MV} (v : V.Inv) {i : Nat} (hi : V.may i = true) : (0 ≤ (V.stp i).t ∧ (V.stp i).t < 4) ∧ (0 ≤ (V.stp i).loc ∧ (V.stp i).loc < 4) := by
  have h24 := MV.may_lt hi
  have flu : ∀ (t : Nat) (loc : Int), t < 4 → ((V.b t).find? (oldP (bmod V.m) loc)).isSome = true → 0 ≤ (V.fluE t loc).loc ∧ (V.fluE t loc).loc < 4 := fun t loc ht hf => by
    unfold MV.fluE
    cases he : (V.b t).find? (oldP (bmod V.m) loc) with
    | none => rw [he] at hf; cases hf
    | some e => exact v.mem_b (List.mem_of_find?_eq_some he)
  unfold MV.stp
  by_cases h4 : i < 4
  · rw [if_pos h4]
    have hq := MV.may_thr h4 hi
    obtain ⟨q1, _⟩ := v.nxt hq
    exact ⟨⟨by show 0 ≤ (i : Int); omega, by show (i : Int) < 4; omega⟩, evOf_loc q1⟩
  · rw [if_neg h4]
    by_cases h8 : i < 8
    · rw [if_pos h8]
      refine ⟨⟨by show 0 ≤ ((i - 4 : Nat) : Int); omega, by show ((i - 4 : Nat) : Int) < 4; omega⟩, flu (i - 4) 0 (by omega) ?_⟩
      unfold MV.may MV.mayF at hi
      rw [if_neg h4, if_pos h8, Bool.and_eq_true] at hi
      have hm2 : V.m = 2 := beq_iff_eq.1 hi.1
      have hne : (V.b (i - 4)).length ≠ 0 := by simpa using hi.2
      rw [hm2]
      cases hbb : V.b (i - 4) with
      | nil => rw [hbb] at hne; exact absurd rfl hne
      | cons e l => rfl
    · rw [if_neg h8]
      refine ⟨⟨by show 0 ≤ (((i - 8) / 4 : Nat) : Int); omega, by show (((i - 8) / 4 : Nat) : Int) < 4; omega⟩, flu ((i - 8) / 4) _ (by omega) ?_⟩
      unfold MV.may MV.mayL at hi
      rw [if_neg h4, if_neg h8, if_pos h24, Bool.and_eq_true] at hi
      have hm3 : V.m = 3 := beq_iff_eq.1 hi.1
      rw [hm3]; exact hi.2

theorem MV.nx_b (V : MV) (i t : Nat) : (V.nx i).b t = (if i < 4 then V.thrM i (V.thrI i) else if i < 8 then V.fluM (i - 4) 0 else V.fluM ((i - 8) / 4) (((i - 8) % 4 : Nat) : Int)).b t := rfl

theorem countP_erase {l : List Ent} {p q : Ent → Bool} {e : Ent} (hf : l.find? p = some e) : ((l.eraseP p).countP q : Int) = (l.countP q : Int) - if q e = true then 1 else 0 := by
  induction l with
  | nil => cases hf
  | cons a l ih =>
    rw [List.find?_cons] at hf
    cases hp : p a with
    | true =>
      rw [hp] at hf
      cases hf
      rw [List.eraseP_cons_of_pos hp, List.countP_cons]
      split <;> omega
    | false =>
      rw [hp] at hf
      rw [List.eraseP_cons_of_neg (by rw [hp]; simp), List.countP_cons, List.countP_cons]
      have := ih hf
      split <;> omega

/-- A step counts where it stores or flushes. -/
theorem MV.Inv.cnt_nx {V : MV} (v : V.Inv) (hm : V.m = 2 ∨ V.m = 3) {i : Nat} (hi : V.may i = true) :
    (V.nx i).cnt (qOf V.m (V.stp i)) = V.cnt (qOf V.m (V.stp i)) + (if (V.stp i).kind = 2 then 1 else if (V.stp i).kind = 6 then -1 else 0) ∧ ∀ q, q ≠ qOf V.m (V.stp i) → (V.nx i).cnt q = V.cnt q := by
  have h24 := MV.may_lt hi
  have hat := v.stp_at hi
  have hmm : (V.nx i).m = V.m := (V.nx_P i).2
  by_cases h4 : i < 4
  · have hq := MV.may_thr h4 hi
    have hb : ∀ t, (V.nx i).b t = if t = i ∧ (V.stp i).kind = 2 then V.b i ++ [⟨(V.stp i).loc, (V.stp i).w, V.st.length⟩] else V.b t := fun t => by
      have e : V.stp i = { V.thrS i (V.thrI i) with pick := i } := by unfold MV.stp; rw [if_pos h4]
      rw [V.nx_b, if_pos h4, v.thrB h4, e]
      have : (V.thrS i (V.thrI i)).kind = (evOf (V.thrI i) (V.l i) (V.val i (V.thrI i)).1).kind := rfl
      rw [this]
      by_cases hc : t = i ∧ (evOf (V.thrI i) (V.l i) (V.val i (V.thrI i)).1).kind = 2
      · rw [if_pos ⟨hc.1, hc.2, by omega⟩, if_pos hc]; rfl
      · rw [if_neg (fun q => hc ⟨q.1, q.2.1⟩), if_neg hc]
    have ht : (V.stp i).t = (i : Int) := by unfold MV.stp; rw [if_pos h4]; rfl
    have hk : (V.stp i).kind ≠ 6 := by
      have : (V.stp i).kind = (evOf (V.thrI i) (V.l i) (V.val i (V.thrI i)).1).kind := by unfold MV.stp; rw [if_pos h4]; rfl
      have := evOf_kinds (V.thrI i) (V.l i) (V.val i (V.thrI i)).1; omega
    have hloc := hat.2
    generalize V.stp i = s at *
    generalize V.nx i = W at *
    unfold qOf
    rw [ht, Int.toNat_natCast, if_neg hk]
    rcases hm with hm | hm
    · rw [show (if V.m = 3 then 8 + (4 * i + s.loc.toNat) else 4 + i) = 4 + i from if_neg (by omega)]
      simp only [MV.cnt2 hm, MV.cnt2 (hmm.trans hm)]
      refine ⟨?_, fun q hq => ?_⟩
      · rw [if_pos ⟨by omega, by omega⟩, if_pos ⟨by omega, by omega⟩, show 4 + i - 4 = i by omega, hb i]
        by_cases k2 : s.kind = 2
        · rw [if_pos ⟨rfl, k2⟩, if_pos k2, List.length_append, List.length_singleton]; omega
        · rw [if_neg (fun q => k2 q.2), if_neg k2]; omega
      · by_cases hr : 4 ≤ q ∧ q < 8
        · rw [if_pos hr, if_pos hr, hb, if_neg (fun c => by omega)]
        · rw [if_neg hr, if_neg hr]
    · rw [show (if V.m = 3 then 8 + (4 * i + s.loc.toNat) else 4 + i) = 8 + (4 * i + s.loc.toNat) from if_pos hm]
      simp only [MV.cnt3 hm, MV.cnt3 (hmm.trans hm)]
      refine ⟨?_, fun q hq => ?_⟩
      · rw [if_pos ⟨by omega, by omega⟩, if_pos ⟨by omega, by omega⟩, show (8 + (4 * i + s.loc.toNat) - 8) / 4 = i by omega, show (8 + (4 * i + s.loc.toNat) - 8) % 4 = s.loc.toNat by omega, hb i]
        by_cases k2 : s.kind = 2
        · rw [if_pos ⟨rfl, k2⟩, if_pos k2, List.countP_append, List.countP_singleton, show ((s.loc.toNat : Nat) : Int) = s.loc by omega]
          rw [if_pos (show oldP 3 s.loc (Ent.mk s.loc s.w V.st.length) = true by unfold oldP; simp)]; omega
        · rw [if_neg (fun q => k2 q.2), if_neg k2]; omega
      · by_cases hr : 8 ≤ q ∧ q < 24
        · rw [if_pos hr, if_pos hr, hb]
          split
          · rename_i hc
            rw [List.countP_append, List.countP_singleton, if_neg (by unfold oldP; simp; omega), hc.1]; omega
          · rfl
        · rw [if_neg hr, if_neg hr]
  · -- a flush
    have flu : ∀ (t : Nat) (loc : Int) (e : Ent), t < 4 → (V.b t).find? (oldP (bmod V.m) loc) = some e → V.stp i = { V.fluS t loc with pick := i } → (∀ t', (V.nx i).b t' = (V.fluM t loc).b t') →
        (V.nx i).cnt (qOf V.m (V.stp i)) = V.cnt (qOf V.m (V.stp i)) + (if (V.stp i).kind = 2 then 1 else if (V.stp i).kind = 6 then -1 else 0) ∧ ∀ q, q ≠ qOf V.m (V.stp i) → (V.nx i).cnt q = V.cnt q := by
      intro t loc e ht hf hs hb
      have hee : V.fluE t loc = e := by unfold MV.fluE; rw [hf]; rfl
      have hst : (V.stp i).t = (t : Int) := by rw [hs]; rfl
      have hsl : (V.stp i).loc = e.loc := by rw [hs]; show (V.fluE t loc).loc = _; rw [hee]
      have hsk : (V.stp i).kind = 6 := by rw [hs]; rfl
      have hloc := hat.2
      have hb' : ∀ t', (V.nx i).b t' = if t' = t then (V.b t).eraseP (oldP (bmod V.m) loc) else V.b t' := fun t' => by rw [hb, v.fluB ht]
      have ce := fun q => countP_erase (q := q) hf
      generalize V.stp i = s at *
      generalize V.nx i = W at *
      unfold qOf
      rw [hst, Int.toNat_natCast, hsk, show (if (6 : Int) = 2 then (1 : Int) else if (6 : Int) = 6 then -1 else 0) = -1 from rfl]
      rcases hm with hm | hm
      · have cl := ce (fun _ => true)
        simp only [List.countP_true, if_true] at cl
        rw [show (if V.m = 3 then 8 + (4 * t + s.loc.toNat) else 4 + t) = 4 + t from if_neg (by omega)]
        simp only [MV.cnt2 hm, MV.cnt2 (hmm.trans hm)]
        refine ⟨?_, fun q hq => ?_⟩
        · rw [if_pos ⟨by omega, by omega⟩, if_pos ⟨by omega, by omega⟩, show 4 + t - 4 = t by omega, hb' t, if_pos rfl]; omega
        · by_cases hr : 4 ≤ q ∧ q < 8
          · rw [if_pos hr, if_pos hr, hb', if_neg (by omega)]
          · rw [if_neg hr, if_neg hr]
      · rw [show (if V.m = 3 then 8 + (4 * t + s.loc.toNat) else 4 + t) = 8 + (4 * t + s.loc.toNat) from if_pos hm]
        simp only [MV.cnt3 hm, MV.cnt3 (hmm.trans hm)]
        refine ⟨?_, fun q hq => ?_⟩
        · rw [if_pos ⟨by omega, by omega⟩, if_pos ⟨by omega, by omega⟩, show (8 + (4 * t + s.loc.toNat) - 8) / 4 = t by omega, show (8 + (4 * t + s.loc.toNat) - 8) % 4 = s.loc.toNat by omega, hb' t, if_pos rfl, ce,
            if_pos (show oldP 3 ((s.loc.toNat : Nat) : Int) e = true by unfold oldP; simp; omega)]; omega
        · by_cases hr : 8 ≤ q ∧ q < 24
          · rw [if_pos hr, if_pos hr, hb']
            split
            · rename_i hc
              rw [ce, if_neg (by unfold oldP; simp; omega), hc]; omega
            · rfl
          · rw [if_neg hr, if_neg hr]
    by_cases h8 : i < 8
    · unfold MV.may MV.mayF at hi
      rw [if_neg h4, if_pos h8, Bool.and_eq_true] at hi
      have hm2 : V.m = 2 := beq_iff_eq.1 hi.1
      have hne : (V.b (i - 4)).length ≠ 0 := by simpa using hi.2
      obtain ⟨e, he⟩ : ∃ e, (V.b (i - 4)).find? (oldP (bmod V.m) 0) = some e := by
        rw [hm2]
        cases hbb : V.b (i - 4) with
        | nil => rw [hbb] at hne; exact absurd rfl hne
        | cons e l => exact ⟨e, rfl⟩
      exact flu (i - 4) 0 e (by omega) he (by unfold MV.stp; rw [if_neg h4, if_pos h8]) (fun t' => by rw [V.nx_b, if_neg h4, if_pos h8])
    · unfold MV.may MV.mayL at hi
      rw [if_neg h4, if_neg h8, if_pos h24, Bool.and_eq_true] at hi
      have hm3 : V.m = 3 := beq_iff_eq.1 hi.1
      obtain ⟨e, he⟩ := Option.isSome_iff_exists.1 hi.2
      exact flu ((i - 8) / 4) _ e (by omega) (by rw [hm3]; exact he) (by unfold MV.stp; rw [if_neg h4, if_neg h8]) (fun t' => by rw [V.nx_b, if_neg h4, if_neg h8])
theorem set_same {α : Type} {l : List α} {i : Nat} {x : α} (h : l[i]? = some x) : l.set i x = l := by
  refine List.ext_getElem? fun j => ?_
  by_cases e : i = j
  · subst e; rw [List.getElem?_set_self (getI_lt h), h]
  · rw [List.getElem?_set_ne e]

theorem new_b (P : PProg) (m : Int) (t : Nat) : (MV.new P m).b t = [] := by
  unfold MV.b MV.new
  match t with
  | 0 => rfl
  | 1 => rfl
  | 2 => rfl
  | 3 => rfl
  | t + 4 => rfl

theorem MV.cnt_rng (V : MV) (v : V.Inv) (q : Nat) : 0 ≤ V.cnt q ∧ V.cnt q ≤ 24 := by
  have h : ∀ t, (V.b t).length ≤ 24 := fun t => by
    by_cases ht : t < V.bf.length
    · exact v.fit.b _ (List.mem_of_getElem? (MV.b_at ht))
    · unfold MV.b
      rw [List.getD_eq_getElem?_getD, List.getElem?_eq_none (by omega)]; simp
  unfold MV.cnt
  split
  · have := h (q - 4); omega
  · split
    · have := h ((q - 8) / 4)
      have h2 := List.countP_le_length (p := oldP 3 (((q - 8) % 4 : Nat) : Int)) (l := V.b ((q - 8) / 4))
      omega
    · omega

section
variable {E : Env}

set_option maxHeartbeats 1000000 in
theorem VmWaits_law (ht : TabOk E) (hE : jacquardlaw16_VmWaits_In E) {h : AHeap} {c0 c1' c2' : List Cell} (o0 : okC h (.sl (.i .i64)) c0) (o1 : okC h (.i .i64) c1') (o2 : okC h (.sl (.i .i64)) c2') :
    ∃ h', R E 217 [av1 (.sl (.i .i64)) c0, av1 (.i .i64) c1', av1 (.sl (.i .i64)) c2'] h = some ([.c (.bool true)], h') := by
  obtain ⟨x, l, ha0, hx, hlow, _, hml⟩ := arg_ints o0
  obtain ⟨m0, ha1, _⟩ := arg_int o1
  obtain ⟨y, ps, ha2, hy, hylow, _, hpl⟩ := arg_ints o2
  obtain ⟨cs, h1, P, r1, p1, g1, g2, k1, mk⟩ := Vstart hE.c76 hE.c171 hx hlow (by unfold maxLen at hml; omega) (most := 12) (by omega)
  have hb1 : 0 ≤ E.glob.band .i64 m0 1 ∧ E.glob.band .i64 m0 1 < 2 := by rw [g_band1]; omega
  have hm1 : E.glob.wrap .i64 (E.glob.band .i64 m0 1 + 2) = E.glob.band .i64 m0 1 + 2 := g_wrap_i64 (by omega) (by omega)
  generalize hmm : E.glob.band .i64 m0 1 + 2 = m at hm1
  have hm23 : m = 2 ∨ m = 3 := by omega
  obtain ⟨n, k, pc, h2, r2, a2, n2, k2⟩ := mk h1 m (Kp.refl _ _) (by omega) (by omega)
  have kk2 : Kp h.length h h2 := k1.trans (k2.mono k1.1)
  have hhn : h.length ≤ n := Nat.le_trans k1.1 n2
  -- the loop over picks
  obtain ⟨p, hp, hQ⟩ := Lim_fallN (F := jacquardlaw16_VmWaits_F2 (R E) Lim E.glob)
    (fun q st => ∃ (i : Nat) (V : MV) (z : Cell) (h' : AHeap), q = 40 - i ∧ i ≤ 40 ∧ st = jacquardlaw16_VmWaits_s2 m y (.ptr k 329 0) (i : Int) (cntC V) h' ∧ VmAt n h' k z pc V ∧ V.Inv ∧ V.m = m ∧ V.st.length ≤ i ∧ Kp h.length h h')
    (fun p => ∃ h', p = (.exit 0, jacquardlaw16_VmWaits_x2_1 h') ∧ Kp h.length h h')
    (fun q st hI => by
      obtain ⟨i, V, z, h', rfl, hi40, rfl, a, v, vm, vl, kk⟩ := hI
      have hy' := hy.keep hylow kk
      by_cases hc : i < ps.length ∧ i < 40
      · have en := Enabled_R hE.c172 a.blk v.fit (prog_at a.prog a.hn (Kp.refl n h'))
        obtain ⟨w, h5, r5, o5, k5⟩ := List_R hE.c32 ht V.word_lt h'
        have a5 := a.keep k5
        have kk5 : Kp h.length h h5 := kk.trans (k5.mono kk.1)
        by_cases h0 : (bitsL V.word).length = 0
        · refine .inr ⟨_, ?_, (by simp : Ex.exit 0 ≠ .normal), h5, rfl, kk5⟩
          rw [jacquardlaw16_VmWaits_r2, hy'.len, scK_and, if_pos (by simp; omega), en, c1_ok, asI_ok, r5, c1_ok, asC_ok, o5.at.len, if_pos (by rw [h0]; rfl)]
        · have hq : ps[i]? = some ps[i] := List.getElem?_eq_getElem hc.1
          generalize ps[i] = pk at hq
          have hrng := rem_rng (E := E) (x := E.glob.band .i64 pk 65535) (m := ((bitsL V.word).length : Int)) g_band16.1 (by omega)
          obtain ⟨j, hj, hch⟩ := choose o5 hrng.1 hrng.2
          obtain ⟨z', h6, r6, a6, k6⟩ := Pick_R hE.c173 a5 v (by omega) hj
          have v6 := v.nx hj
          have hat := v.stp_at hj
          have cn := v.cnt_nx (by omega) hj
          have hm6 : (V.nx j).m = m := by rw [(V.nx_P j).2, vm]
          have kk6 : Kp h.length h h6 := kk5.trans (k6.kp.mono hhn)
          -- the counts agree
          have lp : Lim (jacquardlaw16_VmWaits_F1 (R E) Lim E.glob) (jacquardlaw16_VmWaits_s1 m y (.ptr k 329 0) (i : Int) 4 (cntC (V.nx j)) h6) = some (.exit 2, jacquardlaw16_VmWaits_x1_3 m y (.ptr k 329 0) (i : Int) (cntC (V.nx j)) h6) := by
            refine Lim_count (F := jacquardlaw16_VmWaits_F1 (R E) Lim E.glob) (fun (t : Nat) => jacquardlaw16_VmWaits_s1 m y (.ptr k 329 0) (i : Int) (t : Int) (cntC (V.nx j)) h6) 4 24 (by omega) (fun t ht4 ht => ?_) (Lim_exit ?_)
            · have en6 := Enabled_R hE.c172 a6.blk v6.fit (prog_at a6.prog a6.hn (Kp.refl n h6))
              rw [jacquardlaw16_VmWaits_r1, if_pos (by simp; omega), en6, qh_ok, c1_ok, asI_ok, Has_R hE.c17 (V.nx j).word_lt, qh_ok, c1_ok, asB_ok, if_pos ⟨by omega, by omega⟩, Int.toNat_natCast, Nat.zero_add, Nat.mul_one, atK_ok (cntC_get (V.nx j) ht), asI_ok, hasI_nat (by omega), MV.word_bit, MV.may_cnt _ ht4 ht, if_neg (by simp), g_succ (by omega)]
            · rw [jacquardlaw16_VmWaits_r1, if_neg (by simp)]
          have fin : ∀ C : List Cell, C = cntC (V.nx j) → (Lim (jacquardlaw16_VmWaits_F1 (R E) Lim E.glob) (jacquardlaw16_VmWaits_s1 m y (.ptr k 329 0) (i : Int) 4 C h6)).bind (fun p_80 => (jacquardlaw16_VmWaits_k6 (R E) Lim E.glob) p_80.1 p_80.2) = some (.normal, jacquardlaw16_VmWaits_s2 m y (.ptr k 329 0) ((i + 1 : Nat) : Int) (cntC (V.nx j)) h6) := by
            rintro C rfl
            rw [lp, bind_ok]
            dsimp only
            rw [jacquardlaw16_VmWaits_e1_3, g_succ (by omega)]
          refine .inl ⟨jacquardlaw16_VmWaits_s2 m y (.ptr k 329 0) ((i + 1 : Nat) : Int) (cntC (V.nx j)) h6, 40 - (i + 1), ?_, ⟨i + 1, V.nx j, z', h6, rfl, by omega, rfl, a6, v6, hm6, by rw [V.nx_st, List.length_append, List.length_singleton]; omega, kk6⟩, by omega⟩
          rw [jacquardlaw16_VmWaits_r2, hy'.len, scK_and, if_pos (by simp; omega), en, c1_ok, asI_ok, r5, c1_ok, asC_ok, o5.at.len, if_neg (by rw [beq_iff_eq]; omega), (hy'.keep (Low_mono kk.1 hylow) k5).get1 hc.1 (intC_get hq), asI_ok, o5.at.len, if_neg (by omega)]
          dsimp only
          rw [hch, asI_ok, r6, c2_ok, asA_ok, asB_ok, if_pos (by exact ⟨rfl, rfl, rfl⟩)]
          simp only [stp_t, stp_loc, stp_kind, asI_ok, scK_or]
          rw [if_neg (by simp; omega)]
          have hQ24 : qOf m (V.stp j) < 24 := by unfold qOf; split <;> omega
          rw [vm] at cn
          generalize hS : V.stp j = s at *
          have hge := cntC_get V hQ24
          have hbd : 0 ≤ V.cnt (qOf m s) ∧ V.cnt (qOf m s) ≤ 24 := V.cnt_rng v _
          have hr24 : 0 ≤ ((qOf m s : Nat) : Int) ∧ ((qOf m s : Nat) : Int) < ((24 : Nat) : Int) := ⟨by omega, by omega⟩
          have hlen : qOf m s < (cntC V).length := by rw [cntC_len]; exact hQ24
          have w1 : E.glob.wrap .i64 (V.cnt (qOf m s) + 1) = V.cnt (qOf m s) + 1 := g_wrap_i64 (by omega) (by omega)
          have w2 : E.glob.wrap .i64 (V.cnt (qOf m s) - 1) = V.cnt (qOf m s) - 1 := g_wrap_i64 (by omega) (by omega)
          have e2 : s.kind = 2 → (cntC V).set (qOf m s) (.int .i64 (V.cnt (qOf m s) + 1)) = cntC (V.nx j) := fun hk => cntC_set (by rw [cn.1, if_pos hk]) cn.2
          have e6 : s.kind = 6 → (cntC V).set (qOf m s) (.int .i64 (V.cnt (qOf m s) - 1)) = cntC (V.nx j) := fun hk => cntC_set (by rw [cn.1, if_neg (by omega), if_pos hk]; omega) cn.2
          have e0 : s.kind ≠ 2 → s.kind ≠ 6 → cntC V = cntC (V.nx j) := fun hk hk' => by
            rw [← cntC_set (V := V) (W := V.nx j) (q := qOf m s) (v := V.cnt (qOf m s)) (by rw [cn.1, if_neg hk, if_neg hk']; omega) cn.2]
            exact (set_same hge).symm
          by_cases hm3 : m = 3
          · have hidx : E.glob.wrap .i64 (E.glob.wrap .i64 (8 + E.glob.wrap .i64 (4 * s.t)) + s.loc) = ((qOf m s : Nat) : Int) := by
              rw [g_wrap_i64 (x := 4 * s.t) (by omega) (by omega), g_wrap_i64 (x := 8 + 4 * s.t) (by omega) (by omega), g_wrap_i64 (by omega) (by omega)]
              unfold qOf
              rw [if_pos hm3]; omega
            rw [if_pos (by rw [beq_iff_eq]; exact hm3)]
            simp only [hidx, Int.toNat_natCast, Nat.zero_add, Nat.mul_one, if_pos hr24, atK_ok hge, asI_ok, if_pos hlen, w1, w2]
            by_cases h2 : s.kind = 2
            · rw [if_pos (by rw [beq_iff_eq]; exact h2), if_neg (by rw [beq_iff_eq]; omega)]
              exact fin _ (e2 h2)
            · rw [if_neg (by rw [beq_iff_eq]; exact h2)]
              by_cases h6 : s.kind = 6
              · rw [if_pos (by rw [beq_iff_eq]; exact h6)]
                exact fin _ (e6 h6)
              · rw [if_neg (by rw [beq_iff_eq]; exact h6)]
                exact fin _ (e0 h2 h6)
          · have hidx : E.glob.wrap .i64 (4 + s.t) = ((qOf m s : Nat) : Int) := by
              rw [g_wrap_i64 (by omega) (by omega)]
              unfold qOf
              rw [if_neg hm3]; omega
            rw [if_neg (by rw [beq_iff_eq]; exact hm3)]
            simp only [hidx, Int.toNat_natCast, Nat.zero_add, Nat.mul_one, if_pos hr24, atK_ok hge, asI_ok, if_pos hlen, w1, w2]
            by_cases h2 : s.kind = 2
            · rw [if_pos (by rw [beq_iff_eq]; exact h2), if_neg (by rw [beq_iff_eq]; omega)]
              exact fin _ (e2 h2)
            · rw [if_neg (by rw [beq_iff_eq]; exact h2)]
              by_cases h6 : s.kind = 6
              · rw [if_pos (by rw [beq_iff_eq]; exact h6)]
                exact fin _ (e6 h6)
              · rw [if_neg (by rw [beq_iff_eq]; exact h6)]
                exact fin _ (e0 h2 h6)
      · refine .inr ⟨_, ?_, (by simp : Ex.exit 0 ≠ .normal), h', rfl, kk⟩
        rw [jacquardlaw16_VmWaits_r2, hy'.len, scK_and, if_neg (by simp; omega)]) (k := 40) (st := jacquardlaw16_VmWaits_s2 m y (.ptr k 329 0) ((0 : Nat) : Int) (cntC (MV.new P m)) h2) ⟨0, MV.new P m, .nils, h2, rfl, by omega, rfl, a2, g1.inv g2 (by omega), rfl, by show 0 ≤ 0; omega, kk2⟩
  obtain ⟨h9, rfl, k9⟩ := hQ
  obtain ⟨ha, ra, ka⟩ := awake16_R hE.c170 h9
  refine ⟨ha, R_intro hE.fn ?_⟩
  have e0 : cntC (MV.new P m) = List.replicate 24 (.int .i64 0) := by
    refine List.ext_getElem? fun j => ?_
    by_cases hj : j < 24
    · rw [cntC_get _ hj, List.getElem?_replicate, if_pos hj]
      congr 2
      unfold MV.cnt
      split
      · have : (MV.new P m).b (j - 4) = [] := new_b P m _
        rw [this]; rfl
      · split
        · rw [new_b]; rfl
        · rfl
    · rw [List.getElem?_eq_none (by rw [cntC_len]; omega), List.getElem?_eq_none (by simp; omega)]
  rw [e0, show ((0 : Nat) : Int) = 0 from rfl] at hp
  rw [ha0, ha1, ha2, jacquardlaw16_VmWaits_eq, show (12 : Int) = ((12 : Nat) : Int) from rfl, r1, c1_ok, asA_ok, if_pos (by exact ⟨rfl, rfl, p1.len⟩), if_pos (by exact ⟨rfl, p1.len⟩), hmm, hm1, r2, c2_ok, asC_ok, asI_ok, ptr_nil, scK_or, show (false || ((0 : Int) != 0)) = false from rfl, if_neg (by simp), hp, bind_ok]
  dsimp only
  rw [jacquardlaw16_VmWaits_e2_1, ra, c1_ok, asB_ok]
end
end Jq

/- VmWaits: whatever the input the call says true, and each argument reads behind it as before. No conditions. -/
namespace Go.Proofs.YtnjjcoobhpldcaaDoor.LVmWaits
open Go Jq Go.ChangeShapes Go.WideShapes Go.ChangeAt Go.RowKit
set_option linter.unusedVariables false

theorem own : ownKnob Tryd.prog.godebug = none := by kernel_rfl
theorem laidOut : laidOutB Tryd.prog = true := by kernel_rfl

theorem gN : Tryd.prog.globalNamed "math/bits.deBruijn64tab" = some 0 := by kernel_rfl
theorem met (os : Os) (args : Array Value) : laidMetH Tryd.prog Rows.vmWaitsRow.laid ((World.doorLaid Tryd.prog 400 os).forCall (fun _ _ => 0) ⟨#[], args, []⟩).memory :=
  laidMetH_of_parts3 (fuel := 8) (laidMet_of_run' 8 (by kernel_rfl) (by kernel_rfl)) (by kernel_rfl) (by kernel_rfl)
theorem of_laid {W : World} (h : laidMetH Tryd.prog Rows.vmWaitsRow.laid W) : ∀ i, i < deB.length → W.cell? ⟨0, i, none⟩ = some (.int .u8 (deB.getD i 0)) := by
  rw [MakeChecks.laidMetH_plain _ _ _ (by kernel_rfl)] at h
  have h := laidMet.tail h
  have hT := Lib.tabIs_of_head (zs := deB) (n := 64) gN (t := 154) (by kernel_rfl) (e := 5) (by kernel_rfl) (by kernel_rfl) (by kernel_rfl) (by kernel_rfl) h
  exact fun i hi => hT.cell gN i hi

set_option maxRecDepth 100000 in
theorem lifted (os : Os) (started : os.Started) (H : Type) (enc : TypeId × Value → H) :
    ReturnsInHanded {} Tryd.checked os 5 .any (fun w args => (Rows.vmWaitsSpec.pre enc Tryd.prog Tryd.f5 [] false w args ∧ laidMetH Tryd.prog Rows.vmWaitsRow.laid w) ∧ sizedMet enc Tryd.prog Tryd.f5 (OpenSpec.ofChange Rows.vmWaitsSpec) false w args) (Rows.vmWaitsSpec.post enc Tryd.prog Tryd.f5 false true false false) := by
  refine returnsInHanded_of_change_and (C := Tryd.checked) (X := fun w _ => laidMetH Tryd.prog Rows.vmWaitsRow.laid w) (fun _ _ _ hh h => h.of_heap hh) own started (by kernel_rfl) Tryd.func5
    (ChangeSpec.witness_shaped (enc := enc) (C := Tryd.checked) (os := os) (X := fun w _ => laidMetH Tryd.prog Rows.vmWaitsRow.laid w) false (World.doorLaid Tryd.prog 400 os) #[.slice none 0 0, .int .i64 0, .slice none 0 0] 8 rfl (World.shaped_of_RefB (by kernel_rfl) (by kernel_rfl)) (by kernel_rfl) (by kernel_rfl) (by kernel_rfl) (met os _)) ?_
  intro W base args ds gs before hval0 hW _ _ hL _
  have hval : ∀ (j : Nat) t v, Tryd.f5.params[j]? = some t → args[j]? = some v → Value.okWide Tryd.prog W .any base t v := hval0
  have hW' := hW
  obtain ⟨p, q, hA0, hV, rfl, hfz, hnd⟩ := hW
  have hA : DataW.TrodAll enc Tryd.prog W 0 (fun _ => true) true Tryd.f5.params.toList args.toList ds p := hA0
  rw [Tryd.params5] at hA hval
  obtain ⟨v0, vs0, d0, ds0, p0, q0, hargs, rfl, rfl, h0, r0⟩ := trodAll_cons hA
  obtain ⟨v1, vs1, d1, ds1, p1, q1, rfl, rfl, rfl, h1, r1⟩ := trodAll_cons r0
  obtain ⟨v2, vs2, d2, ds2, p2, q2, rfl, rfl, rfl, h2, r2⟩ := trodAll_cons r1
  obtain ⟨rfl, rfl, rfl⟩ := trodAll_nil r2
  obtain rfl : args = #[v0, v1, v2] := by cases args; simp_all
  obtain ⟨rfl, rfl⟩ := trodVars_none hV
  have lt0 : ∀ x ∈ p0, x.block < W.heap.size := by obtain ⟨m, hm⟩ := h0; exact DataW.trod_lt m _ _ _ hm
  have lt1 : ∀ x ∈ p1, x.block < W.heap.size := by obtain ⟨m, hm⟩ := h1; exact DataW.trod_lt m _ _ _ hm
  have lt2 : ∀ x ∈ p2, x.block < W.heap.size := by obtain ⟨m, hm⟩ := h2; exact DataW.trod_lt m _ _ _ hm
  have c := Come.tab1 (S := seat) (W := W) deB (fun _ => rfl) (of_laid hL)
  have k0 : ((.sl (.i .i64)) : Sh).chk seat.P 25 = true := by kernel_rfl
  obtain ⟨b0, ρ0, cs0, c0, e0, x0, a0, o0⟩ := opens_arg (S := seat) (W := W) (sh := (.sl (.i .i64))) k0 h0 (wide_of k0 (hval 0 25 v0 rfl rfl)) ⟨nofun, nofun⟩ c
  have k1 : ((.i .i64) : Sh).chk seat.P 3 = true := by kernel_rfl
  obtain ⟨b1, ρ1, cs1, c1, e1, x1, a1, o1⟩ := opens_arg (S := seat) (W := W) (sh := (.i .i64)) k1 h1 (wide_of k1 (hval 1 3 v1 rfl rfl)) ⟨nofun, nofun⟩ c0
  have k2 : ((.sl (.i .i64)) : Sh).chk seat.P 25 = true := by kernel_rfl
  obtain ⟨b2, ρ2, cs2, c2, e2, x2, a2, o2⟩ := opens_arg (S := seat) (W := W) (sh := (.sl (.i .i64))) k2 h2 (wide_of k2 (hval 2 25 v2 rfl rfl)) ⟨nofun, nofun⟩ c1
  obtain ⟨h', hR⟩ := VmWaits_law (E := env) tabOk in_217 (okC_mono x2 _ _ (okC_mono x1 _ _ o0)) (okC_mono x2 _ _ o1) o2
  refine (law_call (S := seat) (R_sound (S := seat) (E := env) rfl allOk) c2 (vals := #[v0, v1, v2]) (L2.cons (relA.mono e2 (relA.mono e1 a0)) (L2.cons (relA.mono e2 a1) (L2.cons a2 L2.nil))) hR).mono fun e W' ⟨he, bel⟩ => ?_
  subst he
  exact ⟨_, rfl, _, _, _, [], _, [], hW', trodAll_mk1 (shut_bool Tryd.underlying4 _), (trodAll_cons_mk (Below.trod laidOut (by kernel_rfl) (of_decide_eq_true (by kernel_rfl)) h0 bel lt0) (trodAll_cons_mk (Below.trod laidOut (by kernel_rfl) (of_decide_eq_true (by kernel_rfl)) h1 bel lt1) (trodAll_cons_mk (Below.trod laidOut (by kernel_rfl) (of_decide_eq_true (by kernel_rfl)) h2 bel lt2) trodAll_mk0))), rfl, bel.frame _, fun h => by cases h⟩

theorem over : Rows.vmWaitsRow.holds Tryd.pinned (OpenSpec.ofChange Rows.vmWaitsSpec) :=
  OpenClaim.holds_of_wide 5 Tryd.f5 rfl rfl rfl rfl rfl rfl rfl ⟨rfl, rfl, rfl, rfl, rfl⟩ rfl rfl rfl rfl rfl (by kernel_rfl) Tryd.func5 (by kernel_rfl)
    (of_decide_eq_true (by kernel_rfl)) (by unfold Func.isWrapper; first | (rw [if_pos (by decide +kernel)]; kernel_rfl) | (rw [if_neg (by decide +kernel)]; exact ⟨rfl, rfl⟩))
    (fun os started H enc _ => lifted os started H enc)

theorem proved : Rows.VmWaitsCardSaid :=
  Claim7.holds_tied_plain_at .later [] [.data, .data, .data] true (true, "fbcc807f78fdf03f3d1dccb6a06178810c141046c856c49e25ab327e98756d6a") false
    over (fun _ h => by cases h) (by kernel_rfl) (fun _ h => by cases h) vmWaits_row_tie rfl ⟨rfl, rfl⟩ (by kernel_rfl) rfl
    (fun f fn hf hfn => by
      obtain rfl : f = 5 := Option.some.inj ((show Tryd.prog.funcNamed "jacquard/jacquardlaw16.VmWaits" = some 5 by kernel_rfl).symm.trans hf) |>.symm
      obtain rfl : fn = Tryd.f5 := (Option.some.inj (Tryd.func5.symm.trans hfn)).symm
      exact ⟨by kernel_rfl, fun j t ht => by
        rw [Tryd.params5] at ht
        have hm : t ∈ [25, 3, 25] := by simpa using Array.mem_of_getElem? ht
        have hall : ([25, 3, 25].all fun u => !Tryd.prog.wantsStandIn u) = true := by kernel_rfl
        exact (show Tryd.prog.wantsStandIn t = false by simpa using List.all_eq_true.1 hall t hm)⟩)
    (by kernel_rfl)
#print axioms proved

end Go.Proofs.YtnjjcoobhpldcaaDoor.LVmWaits

