/- YtldfafaiappibaaProgStepsC: a part of the proof; no conditions of its own. -/
import Derived.KernelRfl
import Derived.Test.YtldfafaiappibaaProgStepsB
set_option linter.unusedVariables false
set_option linter.unusedSimpArgs false

/- Is there one in a row? (printed by tools/gen_any.py) -/
namespace Jq
open Go

def pairCs (p : Int × Int) : List Cell := [.int .i64 p.1, .int .i64 p.2]
theorem pairC_at : ∀ (l : List (Int × Int)) (i : Nat) (s : Int × Int), l[i]? = some s → ((pairC l).drop (i * 2)).take 2 = pairCs s
  | [], _, _, h => by simp at h
  | q :: l, 0, s, h => by simp at h; subst h; rfl
  | q :: l, i + 1, s, h => by
    have := pairC_at l i s (by simpa using h)
    have e : pairC (q :: l) = pairCs q ++ pairC l := by simp [pairC, pairCs]
    rw [e, List.drop_append, List.drop_of_length_le (by simp [pairCs]; omega), List.nil_append, show (i + 1) * 2 - (pairCs q).length = i * 2 by simp [pairCs]; omega]
    exact this
theorem SlAt.pairG {h : AHeap} {x : Cell} {l : List (Int × Int)} (s : SlAt h x 2 (pairC l) l.length) {i : Nat} {q : Int × Int} (hq : l[i]? = some q) :
    ∃ off cs', (∀ {α : Type} (G : Nat → List Cell → Option α), (idxSK 2 x (i : Int) fun k N o => rdH h k N fun l => G o l) = G off cs') ∧ off + 2 ≤ cs'.length ∧ (cs'.drop off).take 2 = pairCs q := by
  obtain ⟨off, cs', h1, h2, h3⟩ := s.elG (getI_lt hq)
  exact ⟨off, cs', h1, h2, h3.trans (pairC_at l i q hq)⟩
theorem SlAt.atmG {h : AHeap} {x : Cell} {l : List Atm} (s : SlAt h x 4 (atmC l) l.length) {i : Nat} {q : Atm} (hq : l[i]? = some q) :
    ∃ off cs', (∀ {α : Type} (G : Nat → List Cell → Option α), (idxSK 4 x (i : Int) fun k N o => rdH h k N fun l => G o l) = G off cs') ∧ off + 4 ≤ cs'.length ∧ (cs'.drop off).take 4 = q.cs := by
  obtain ⟨off, cs', h1, h2, h3⟩ := s.elG (getI_lt hq)
  exact ⟨off, cs', h1, h2, h3.trans (atmC_at l i q hq)⟩

section
variable {E : Env}

theorem any_sIns_Ins_R (hE : slices_ContainsFunc_sIns_Ins_In E) {x f : Cell} {l : List (Ins)} {h : AHeap} (hx : SlAt h x 9 (codeC l) l.length) (hl : l.length < 9223372036854775807) (p : Ins → Bool)
    (hf : ∀ i ∈ l, ∀ {α : Type} (F : AV → AHeap → Option α), (fnK f fun g cs => c1 (R E g ([.agg (i.cs)] ++ cs) h) F) = F (.c (.bool (p i))) h) : R E 155 [.c x, .c f] h = some ([.c (.bool (l.any p))], h) := by
  have loop : ∀ (n i : Nat), i + n = l.length → ∃ r : Int, (Lim (slices_IndexFunc_sIns_Ins_F1 (R E) Lim E.glob) (slices_IndexFunc_sIns_Ins_s1 x f l.length (i : Int) h)).bind (fun q => slices_IndexFunc_sIns_Ins_k3 (R E) Lim E.glob h q.1 q.2) = some ([.c (.int .i64 r)], h) ∧ decide (r ≥ 0) = (l.drop i).any p := by
    intro n
    induction n with
    | zero =>
      intro i hi
      refine ⟨-1, ?_, ?_⟩
      · have hr : slices_IndexFunc_sIns_Ins_F1 (R E) Lim E.glob (slices_IndexFunc_sIns_Ins_s1 x f l.length (i : Int) h) = some (.exit 0, slices_IndexFunc_sIns_Ins_x1_1 h) := by rw [slices_IndexFunc_sIns_Ins_r1, if_neg (by simp; omega)]
        rw [Lim_exit hr, bind_ok, slices_IndexFunc_sIns_Ins_e1_1]
      · rw [List.drop_of_length_le (by omega)]; rfl
    | succ n ih =>
      intro i hi
      have hq : l[i]? = some l[i] := List.getElem?_eq_getElem (by omega)
      have hdr : l.drop i = l[i] :: l.drop (i + 1) := List.drop_eq_getElem_cons (by omega)
      generalize l[i] = q at hq hdr
      obtain ⟨off, c, g1, g2, g3⟩ := hx.insG hq
      have hp := @hf q (List.mem_of_getElem? hq) (Ex × St)
      rw [hdr, List.any_cons]
      cases hb : p q with
      | true =>
        refine ⟨(i : Int), ?_, ?_⟩
        · have hr : slices_IndexFunc_sIns_Ins_F1 (R E) Lim E.glob (slices_IndexFunc_sIns_Ins_s1 x f l.length (i : Int) h) = some (.ret, slices_IndexFunc_sIns_Ins_x1_0 (i : Int) h) := by rw [slices_IndexFunc_sIns_Ins_r1, if_pos (by simp; omega), g1, if_pos g2, g3, hp, asB_ok, hb, if_pos rfl]
          rw [Lim_ret hr, bind_ok, slices_IndexFunc_sIns_Ins_e1_0]
        · rw [Bool.true_or]; exact decide_eq_true (by omega)
      | false =>
        obtain ⟨r, h1, h2⟩ := ih (i + 1) (by omega)
        refine ⟨r, ?_, by rw [Bool.false_or]; exact h2⟩
        cases hL : Lim (slices_IndexFunc_sIns_Ins_F1 (R E) Lim E.glob) (slices_IndexFunc_sIns_Ins_s1 x f l.length ((i + 1 : Nat) : Int) h) with
        | none => rw [hL] at h1; cases h1
        | some w =>
          have hr : slices_IndexFunc_sIns_Ins_F1 (R E) Lim E.glob (slices_IndexFunc_sIns_Ins_s1 x f l.length (i : Int) h) = some (.normal, slices_IndexFunc_sIns_Ins_s1 x f l.length ((i + 1 : Nat) : Int) h) := by rw [slices_IndexFunc_sIns_Ins_r1, if_pos (by simp; omega), g1, if_pos g2, g3, hp, asB_ok, hb, if_neg (by simp), g_succ (by omega)]
          rw [Lim_next hr hL]
          rw [hL] at h1; exact h1
  obtain ⟨r, h1, h2⟩ := loop l.length 0 (by omega)
  have h3 : R E 156 [.c x, .c f] h = some ([.c (.int .i64 r)], h) := by
    refine R_intro hE.c156.fn ?_
    rw [slices_IndexFunc_sIns_Ins_eq, hx.len]; exact h1
  refine R_intro hE.fn ?_
  rw [slices_ContainsFunc_sIns_Ins_eq, h3, c1_ok, asI_ok, h2]; rfl

theorem any_sInit_Init_R (hE : slices_ContainsFunc_sInit_Init_In E) {x f : Cell} {l : List (Int × Int)} {h : AHeap} (hx : SlAt h x 2 (pairC l) l.length) (hl : l.length < 9223372036854775807) (p : Int × Int → Bool)
    (hf : ∀ i ∈ l, ∀ {α : Type} (F : AV → AHeap → Option α), (fnK f fun g cs => c1 (R E g ([.agg (pairCs i)] ++ cs) h) F) = F (.c (.bool (p i))) h) : R E 143 [.c x, .c f] h = some ([.c (.bool (l.any p))], h) := by
  have loop : ∀ (n i : Nat), i + n = l.length → ∃ r : Int, (Lim (slices_IndexFunc_sInit_Init_F1 (R E) Lim E.glob) (slices_IndexFunc_sInit_Init_s1 x f l.length (i : Int) h)).bind (fun q => slices_IndexFunc_sInit_Init_k3 (R E) Lim E.glob h q.1 q.2) = some ([.c (.int .i64 r)], h) ∧ decide (r ≥ 0) = (l.drop i).any p := by
    intro n
    induction n with
    | zero =>
      intro i hi
      refine ⟨-1, ?_, ?_⟩
      · have hr : slices_IndexFunc_sInit_Init_F1 (R E) Lim E.glob (slices_IndexFunc_sInit_Init_s1 x f l.length (i : Int) h) = some (.exit 0, slices_IndexFunc_sInit_Init_x1_1 h) := by rw [slices_IndexFunc_sInit_Init_r1, if_neg (by simp; omega)]
        rw [Lim_exit hr, bind_ok, slices_IndexFunc_sInit_Init_e1_1]
      · rw [List.drop_of_length_le (by omega)]; rfl
    | succ n ih =>
      intro i hi
      have hq : l[i]? = some l[i] := List.getElem?_eq_getElem (by omega)
      have hdr : l.drop i = l[i] :: l.drop (i + 1) := List.drop_eq_getElem_cons (by omega)
      generalize l[i] = q at hq hdr
      obtain ⟨off, c, g1, g2, g3⟩ := hx.pairG hq
      have hp := @hf q (List.mem_of_getElem? hq) (Ex × St)
      rw [hdr, List.any_cons]
      cases hb : p q with
      | true =>
        refine ⟨(i : Int), ?_, ?_⟩
        · have hr : slices_IndexFunc_sInit_Init_F1 (R E) Lim E.glob (slices_IndexFunc_sInit_Init_s1 x f l.length (i : Int) h) = some (.ret, slices_IndexFunc_sInit_Init_x1_0 (i : Int) h) := by rw [slices_IndexFunc_sInit_Init_r1, if_pos (by simp; omega), g1, if_pos g2, g3, hp, asB_ok, hb, if_pos rfl]
          rw [Lim_ret hr, bind_ok, slices_IndexFunc_sInit_Init_e1_0]
        · rw [Bool.true_or]; exact decide_eq_true (by omega)
      | false =>
        obtain ⟨r, h1, h2⟩ := ih (i + 1) (by omega)
        refine ⟨r, ?_, by rw [Bool.false_or]; exact h2⟩
        cases hL : Lim (slices_IndexFunc_sInit_Init_F1 (R E) Lim E.glob) (slices_IndexFunc_sInit_Init_s1 x f l.length ((i + 1 : Nat) : Int) h) with
        | none => rw [hL] at h1; cases h1
        | some w =>
          have hr : slices_IndexFunc_sInit_Init_F1 (R E) Lim E.glob (slices_IndexFunc_sInit_Init_s1 x f l.length (i : Int) h) = some (.normal, slices_IndexFunc_sInit_Init_s1 x f l.length ((i + 1 : Nat) : Int) h) := by rw [slices_IndexFunc_sInit_Init_r1, if_pos (by simp; omega), g1, if_pos g2, g3, hp, asB_ok, hb, if_neg (by simp), g_succ (by omega)]
          rw [Lim_next hr hL]
          rw [hL] at h1; exact h1
  obtain ⟨r, h1, h2⟩ := loop l.length 0 (by omega)
  have h3 : R E 160 [.c x, .c f] h = some ([.c (.int .i64 r)], h) := by
    refine R_intro hE.c160.fn ?_
    rw [slices_IndexFunc_sInit_Init_eq, hx.len]; exact h1
  refine R_intro hE.fn ?_
  rw [slices_ContainsFunc_sInit_Init_eq, h3, c1_ok, asI_ok, h2]; rfl

theorem any_sAtom_Atom_R (hE : slices_ContainsFunc_sAtom_Atom_In E) {x f : Cell} {l : List (Atm)} {h : AHeap} (hx : SlAt h x 4 (atmC l) l.length) (hl : l.length < 9223372036854775807) (p : Atm → Bool)
    (hf : ∀ i ∈ l, ∀ {α : Type} (F : AV → AHeap → Option α), (fnK f fun g cs => c1 (R E g ([.agg (i.cs)] ++ cs) h) F) = F (.c (.bool (p i))) h) : R E 132 [.c x, .c f] h = some ([.c (.bool (l.any p))], h) := by
  have loop : ∀ (n i : Nat), i + n = l.length → ∃ r : Int, (Lim (slices_IndexFunc_sAtom_Atom_F1 (R E) Lim E.glob) (slices_IndexFunc_sAtom_Atom_s1 x f l.length (i : Int) h)).bind (fun q => slices_IndexFunc_sAtom_Atom_k3 (R E) Lim E.glob h q.1 q.2) = some ([.c (.int .i64 r)], h) ∧ decide (r ≥ 0) = (l.drop i).any p := by
    intro n
    induction n with
    | zero =>
      intro i hi
      refine ⟨-1, ?_, ?_⟩
      · have hr : slices_IndexFunc_sAtom_Atom_F1 (R E) Lim E.glob (slices_IndexFunc_sAtom_Atom_s1 x f l.length (i : Int) h) = some (.exit 0, slices_IndexFunc_sAtom_Atom_x1_1 h) := by rw [slices_IndexFunc_sAtom_Atom_r1, if_neg (by simp; omega)]
        rw [Lim_exit hr, bind_ok, slices_IndexFunc_sAtom_Atom_e1_1]
      · rw [List.drop_of_length_le (by omega)]; rfl
    | succ n ih =>
      intro i hi
      have hq : l[i]? = some l[i] := List.getElem?_eq_getElem (by omega)
      have hdr : l.drop i = l[i] :: l.drop (i + 1) := List.drop_eq_getElem_cons (by omega)
      generalize l[i] = q at hq hdr
      obtain ⟨off, c, g1, g2, g3⟩ := hx.atmG hq
      have hp := @hf q (List.mem_of_getElem? hq) (Ex × St)
      rw [hdr, List.any_cons]
      cases hb : p q with
      | true =>
        refine ⟨(i : Int), ?_, ?_⟩
        · have hr : slices_IndexFunc_sAtom_Atom_F1 (R E) Lim E.glob (slices_IndexFunc_sAtom_Atom_s1 x f l.length (i : Int) h) = some (.ret, slices_IndexFunc_sAtom_Atom_x1_0 (i : Int) h) := by rw [slices_IndexFunc_sAtom_Atom_r1, if_pos (by simp; omega), g1, if_pos g2, g3, hp, asB_ok, hb, if_pos rfl]
          rw [Lim_ret hr, bind_ok, slices_IndexFunc_sAtom_Atom_e1_0]
        · rw [Bool.true_or]; exact decide_eq_true (by omega)
      | false =>
        obtain ⟨r, h1, h2⟩ := ih (i + 1) (by omega)
        refine ⟨r, ?_, by rw [Bool.false_or]; exact h2⟩
        cases hL : Lim (slices_IndexFunc_sAtom_Atom_F1 (R E) Lim E.glob) (slices_IndexFunc_sAtom_Atom_s1 x f l.length ((i + 1 : Nat) : Int) h) with
        | none => rw [hL] at h1; cases h1
        | some w =>
          have hr : slices_IndexFunc_sAtom_Atom_F1 (R E) Lim E.glob (slices_IndexFunc_sAtom_Atom_s1 x f l.length (i : Int) h) = some (.normal, slices_IndexFunc_sAtom_Atom_s1 x f l.length ((i + 1 : Nat) : Int) h) := by rw [slices_IndexFunc_sAtom_Atom_r1, if_pos (by simp; omega), g1, if_pos g2, g3, hp, asB_ok, hb, if_neg (by simp), g_succ (by omega)]
          rw [Lim_next hr hL]
          rw [hL] at h1; exact h1
  obtain ⟨r, h1, h2⟩ := loop l.length 0 (by omega)
  have h3 : R E 149 [.c x, .c f] h = some ([.c (.int .i64 r)], h) := by
    refine R_intro hE.c149.fn ?_
    rw [slices_IndexFunc_sAtom_Atom_eq, hx.len]; exact h1
  refine R_intro hE.fn ?_
  rw [slices_ContainsFunc_sAtom_Atom_eq, h3, c1_ok, asI_ok, h2]; rfl

theorem any_ssIns_sIns_R (hE : slices_ContainsFunc_ssIns_sIns_In E) {x f : Cell} {l : List (List Ins)} {h : AHeap} (hx : RowsOf 9 codeC h x l) (hl : l.length < 9223372036854775807) (p : List Ins → Bool)
    (hf : ∀ r ∈ l, ∀ y : Cell, SlAt h y 9 (codeC r) r.length → ∀ {α : Type} (F : AV → AHeap → Option α), (fnK f fun g cs => c1 (R E g ([.c y] ++ cs) h) F) = F (.c (.bool (p r))) h) : R E 130 [.c x, .c f] h = some ([.c (.bool (l.any p))], h) := by
  have loop : ∀ (n i : Nat), i + n = l.length → ∃ r : Int, (Lim (slices_IndexFunc_ssIns_sIns_F1 (R E) Lim E.glob) (slices_IndexFunc_ssIns_sIns_s1 x f l.length (i : Int) h)).bind (fun q => slices_IndexFunc_ssIns_sIns_k3 (R E) Lim E.glob h q.1 q.2) = some ([.c (.int .i64 r)], h) ∧ decide (r ≥ 0) = (l.drop i).any p := by
    intro n
    induction n with
    | zero =>
      intro i hi
      refine ⟨-1, ?_, ?_⟩
      · have hr : slices_IndexFunc_ssIns_sIns_F1 (R E) Lim E.glob (slices_IndexFunc_ssIns_sIns_s1 x f l.length (i : Int) h) = some (.exit 0, slices_IndexFunc_ssIns_sIns_x1_1 h) := by rw [slices_IndexFunc_ssIns_sIns_r1, if_neg (by simp; omega)]
        rw [Lim_exit hr, bind_ok, slices_IndexFunc_ssIns_sIns_e1_1]
      · rw [List.drop_of_length_le (by omega)]; rfl
    | succ n ih =>
      intro i hi
      have hq : l[i]? = some l[i] := List.getElem?_eq_getElem (by omega)
      have hdr : l.drop i = l[i] :: l.drop (i + 1) := List.drop_eq_getElem_cons (by omega)
      generalize l[i] = q at hq hdr
      obtain ⟨y, y1, y2, g1⟩ := hx.get (β := Ex × St) hq
      have hp := @hf q (List.mem_of_getElem? hq) y y1 (Ex × St)
      rw [hdr, List.any_cons]
      cases hb : p q with
      | true =>
        refine ⟨(i : Int), ?_, ?_⟩
        · have hr : slices_IndexFunc_ssIns_sIns_F1 (R E) Lim E.glob (slices_IndexFunc_ssIns_sIns_s1 x f l.length (i : Int) h) = some (.ret, slices_IndexFunc_ssIns_sIns_x1_0 (i : Int) h) := by rw [slices_IndexFunc_ssIns_sIns_r1, if_pos (by simp; omega), g1, hp, asB_ok, hb, if_pos rfl]
          rw [Lim_ret hr, bind_ok, slices_IndexFunc_ssIns_sIns_e1_0]
        · rw [Bool.true_or]; exact decide_eq_true (by omega)
      | false =>
        obtain ⟨r, h1, h2⟩ := ih (i + 1) (by omega)
        refine ⟨r, ?_, by rw [Bool.false_or]; exact h2⟩
        cases hL : Lim (slices_IndexFunc_ssIns_sIns_F1 (R E) Lim E.glob) (slices_IndexFunc_ssIns_sIns_s1 x f l.length ((i + 1 : Nat) : Int) h) with
        | none => rw [hL] at h1; cases h1
        | some w =>
          have hr : slices_IndexFunc_ssIns_sIns_F1 (R E) Lim E.glob (slices_IndexFunc_ssIns_sIns_s1 x f l.length (i : Int) h) = some (.normal, slices_IndexFunc_ssIns_sIns_s1 x f l.length ((i + 1 : Nat) : Int) h) := by rw [slices_IndexFunc_ssIns_sIns_r1, if_pos (by simp; omega), g1, hp, asB_ok, hb, if_neg (by simp), g_succ (by omega)]
          rw [Lim_next hr hL]
          rw [hL] at h1; exact h1
  obtain ⟨r, h1, h2⟩ := loop l.length 0 (by omega)
  have h3 : R E 147 [.c x, .c f] h = some ([.c (.int .i64 r)], h) := by
    refine R_intro hE.c147.fn ?_
    rw [slices_IndexFunc_ssIns_sIns_eq, hx.len]; exact h1
  refine R_intro hE.fn ?_
  rw [slices_ContainsFunc_ssIns_sIns_eq, h3, c1_ok, asI_ok, h2]; rfl

theorem any_ssAtom_sAtom_R (hE : slices_ContainsFunc_ssAtom_sAtom_In E) {x f : Cell} {l : List (List Atm)} {h : AHeap} (hx : RowsOf 4 atmC h x l) (hl : l.length < 9223372036854775807) (p : List Atm → Bool)
    (hf : ∀ r ∈ l, ∀ y : Cell, SlAt h y 4 (atmC r) r.length → ∀ {α : Type} (F : AV → AHeap → Option α), (fnK f fun g cs => c1 (R E g ([.c y] ++ cs) h) F) = F (.c (.bool (p r))) h) : R E 146 [.c x, .c f] h = some ([.c (.bool (l.any p))], h) := by
  have loop : ∀ (n i : Nat), i + n = l.length → ∃ r : Int, (Lim (slices_IndexFunc_ssAtom_sAtom_F1 (R E) Lim E.glob) (slices_IndexFunc_ssAtom_sAtom_s1 x f l.length (i : Int) h)).bind (fun q => slices_IndexFunc_ssAtom_sAtom_k3 (R E) Lim E.glob h q.1 q.2) = some ([.c (.int .i64 r)], h) ∧ decide (r ≥ 0) = (l.drop i).any p := by
    intro n
    induction n with
    | zero =>
      intro i hi
      refine ⟨-1, ?_, ?_⟩
      · have hr : slices_IndexFunc_ssAtom_sAtom_F1 (R E) Lim E.glob (slices_IndexFunc_ssAtom_sAtom_s1 x f l.length (i : Int) h) = some (.exit 0, slices_IndexFunc_ssAtom_sAtom_x1_1 h) := by rw [slices_IndexFunc_ssAtom_sAtom_r1, if_neg (by simp; omega)]
        rw [Lim_exit hr, bind_ok, slices_IndexFunc_ssAtom_sAtom_e1_1]
      · rw [List.drop_of_length_le (by omega)]; rfl
    | succ n ih =>
      intro i hi
      have hq : l[i]? = some l[i] := List.getElem?_eq_getElem (by omega)
      have hdr : l.drop i = l[i] :: l.drop (i + 1) := List.drop_eq_getElem_cons (by omega)
      generalize l[i] = q at hq hdr
      obtain ⟨y, y1, y2, g1⟩ := hx.get (β := Ex × St) hq
      have hp := @hf q (List.mem_of_getElem? hq) y y1 (Ex × St)
      rw [hdr, List.any_cons]
      cases hb : p q with
      | true =>
        refine ⟨(i : Int), ?_, ?_⟩
        · have hr : slices_IndexFunc_ssAtom_sAtom_F1 (R E) Lim E.glob (slices_IndexFunc_ssAtom_sAtom_s1 x f l.length (i : Int) h) = some (.ret, slices_IndexFunc_ssAtom_sAtom_x1_0 (i : Int) h) := by rw [slices_IndexFunc_ssAtom_sAtom_r1, if_pos (by simp; omega), g1, hp, asB_ok, hb, if_pos rfl]
          rw [Lim_ret hr, bind_ok, slices_IndexFunc_ssAtom_sAtom_e1_0]
        · rw [Bool.true_or]; exact decide_eq_true (by omega)
      | false =>
        obtain ⟨r, h1, h2⟩ := ih (i + 1) (by omega)
        refine ⟨r, ?_, by rw [Bool.false_or]; exact h2⟩
        cases hL : Lim (slices_IndexFunc_ssAtom_sAtom_F1 (R E) Lim E.glob) (slices_IndexFunc_ssAtom_sAtom_s1 x f l.length ((i + 1 : Nat) : Int) h) with
        | none => rw [hL] at h1; cases h1
        | some w =>
          have hr : slices_IndexFunc_ssAtom_sAtom_F1 (R E) Lim E.glob (slices_IndexFunc_ssAtom_sAtom_s1 x f l.length (i : Int) h) = some (.normal, slices_IndexFunc_ssAtom_sAtom_s1 x f l.length ((i + 1 : Nat) : Int) h) := by rw [slices_IndexFunc_ssAtom_sAtom_r1, if_pos (by simp; omega), g1, hp, asB_ok, hb, if_neg (by simp), g_succ (by omega)]
          rw [Lim_next hr hL]
          rw [hL] at h1; exact h1
  obtain ⟨r, h1, h2⟩ := loop l.length 0 (by omega)
  have h3 : R E 162 [.c x, .c f] h = some ([.c (.int .i64 r)], h) := by
    refine R_intro hE.c162.fn ?_
    rw [slices_IndexFunc_ssAtom_sAtom_eq, hx.len]; exact h1
  refine R_intro hE.fn ?_
  rw [slices_ContainsFunc_ssAtom_sAtom_eq, h3, c1_ok, asI_ok, h2]; rfl

end
end Jq

namespace Jq
open Go

/- jacquard/print.Ok: 126 -/
set_option maxRecDepth 100000 in
theorem print_Ok_eq (C : CallF) (L : LoopF) (G : Glo) (l0 : List Cell) (h0 : AHeap) :
    print_Ok.body C L G [(.agg l0)] h0 =
    atK l0 0 fun q_1 => asS (.c q_1) fun z_2 => c1 (C 141 [(.c (.str z_2))] h0) fun y_4 h_3 => asB y_4 fun b_5 => scK b_5 true (atK l0 1 fun q_6 => c1 (C 143 [(.c q_6), (.c (.fn 142 []))] h_3) fun y_8 h_7 => asB y_8 fun b_9 => some ((!b_9), h_7)) false h_3 fun b_10 h_11 => scK b_10 true (atK l0 2 fun q_12 => c1 (C 130 [(.c q_12), (.c (.fn 140 []))] h_11) fun y_14 h_13 => asB y_14 fun b_15 => some ((!b_15), h_13)) false h_11 fun b_16 h_17 => scK b_16 true (if 3 + 2 ≤ l0.length then c1 (C 144 [(.agg ((l0.drop 3).take 2))] h_17) fun y_19 h_18 => asB y_19 fun b_20 => some (b_20, h_18) else none) false h_17 fun b_21 h_22 => some ([(.c (.bool b_21))], h_22) := by kernel_rfl

/- jacquard/print.Ok$1: 140 -/
set_option maxRecDepth 100000 in
theorem print_Ok_1_eq (C : CallF) (L : LoopF) (G : Glo) (x0 : Cell) (h0 : AHeap) :
    print_Ok_1.body C L G [(.c x0)] h0 =
    c1 (C 155 [(.c x0), (.c (.fn 154 []))] h0) fun y_2 h_1 => asB y_2 fun b_3 => some ([(.c (.bool b_3))], h_1) := by kernel_rfl

/- jacquard/print.isWord: 141 -/
def print_isWord_k2 (C : CallF) (L : LoopF) (G : Glo) (h0 : AHeap) : Ex → St → Option (List AV × AHeap) :=
  kSeq (fun st => print_isWord_p1.exec C L G st (print_isWord.fin G h0)) (print_isWord.fin G h0)
def print_isWord_k3 (C : CallF) (L : LoopF) (G : Glo) (h0 : AHeap) : Ex → St → Option (List AV × AHeap) :=
  kBlk 0 (print_isWord_k2 C L G h0)
def print_isWord_s1 (z0 : ByteArray) (a6 : Int) (a7 : Int) (h : AHeap) : St := ⟨[.v (.c (.str z0)), .top, .top, .top, .top, .top, .v (.c (.int .i64 a6)), .v (.c (.int .i64 a7)), .top, .top, .top, .top, .top, .top, .top, .top, .top, .top, .top, .top, .top, .top, .top, .top, .top, .top, .top, .top, .top, .top, .top, .top, .top, .top], [], h⟩
def print_isWord_F1 (C : CallF) (L : LoopF) (G : Glo) : St → Option (Ex × St) :=
  roundF (fun st f => print_isWord_b1.exec C L G st f) [0, 6, 7] [] [(0, [2], []), (1, [0], [])]
def print_isWord_x1_0 (b2 : Bool) (h : AHeap) : St := ⟨[.top, .top, .v (.c (.bool b2)), .top, .top, .top, .top, .top, .top, .top, .top, .top, .top, .top, .top, .top, .top, .top, .top, .top, .top, .top, .top, .top, .top, .top, .top, .top, .top, .top, .top, .top, .top, .top], [], h⟩
def print_isWord_x1_1 (z0 : ByteArray) (h : AHeap) : St := ⟨[.v (.c (.str z0)), .top, .top, .top, .top, .top, .top, .top, .top, .top, .top, .top, .top, .top, .top, .top, .top, .top, .top, .top, .top, .top, .top, .top, .top, .top, .top, .top, .top, .top, .top, .top, .top, .top], [], h⟩
theorem print_isWord_r1 (C : CallF) (L : LoopF) (G : Glo) (z0 : ByteArray) (a6 : Int) (a7 : Int) (h : AHeap) :
    print_isWord_F1 C L G (print_isWord_s1 z0 a6 a7 h) =
    if (decide (a7 < a6)) = true then if 0 ≤ a7 then (z0[Int.toNat a7]?.bind fun u_2 => scK (decide ((UInt8.toNat u_2 : Int) < 97)) false (some ((decide ((UInt8.toNat u_2 : Int) > 122)), h)) true h fun b_3 h_4 => scK b_3 true (scK (a7 == 0) false (some ((decide ((UInt8.toNat u_2 : Int) < 48)), h_4)) true h_4 fun b_5 h_6 => scK b_5 false (some ((decide ((UInt8.toNat u_2 : Int) > 57)), h_6)) true h_6 fun b_7 h_8 => some (b_7, h_8)) false h_4 fun b_9 h_10 => if b_9 = true then some (.ret, (print_isWord_x1_0 false h_10)) else some (.normal, (print_isWord_s1 z0 a6 (G.wrap .i64 (a7 + 1)) h_10))) else none else some ((.exit 0), (print_isWord_x1_1 z0 h)) := by kernel_rfl
theorem print_isWord_e1_0 (C : CallF) (L : LoopF) (G : Glo) (h0 : AHeap) (b2 : Bool) (h : AHeap) :
    (print_isWord_k3 C L G h0) .ret (print_isWord_x1_0 b2 h) =
    some ([(.c (.bool b2))], h) := by kernel_rfl
theorem print_isWord_e1_1 (C : CallF) (L : LoopF) (G : Glo) (h0 : AHeap) (z0 : ByteArray) (h : AHeap) :
    (print_isWord_k3 C L G h0) (.exit 0) (print_isWord_x1_1 z0 h) =
    some ([(.c (.bool (!(ByteArray.toList z0 == ByteArray.toList (ByteArray.mk #[])))))], h) := by kernel_rfl
set_option maxRecDepth 100000 in
theorem print_isWord_eq (C : CallF) (L : LoopF) (G : Glo) (z0 : ByteArray) (h0 : AHeap) :
    print_isWord.body C L G [(.c (.str z0))] h0 =
    lenSK (.str z0) fun n_1 => (L (print_isWord_F1 C L G) (print_isWord_s1 z0 n_1 0 h0)).bind fun p_11 => (print_isWord_k3 C L G h0) p_11.1 p_11.2 := by kernel_rfl

/- jacquard/print.Ok$2: 142 -/
set_option maxRecDepth 100000 in
theorem print_Ok_2_eq (C : CallF) (L : LoopF) (G : Glo) (l0 : List Cell) (h0 : AHeap) :
    print_Ok_2.body C L G [(.agg l0)] h0 =
    atK l0 0 fun q_1 => asI .i64 (.c q_1) fun n_2 => c1 (C 158 [(.c (.int .i64 n_2))] h0) fun y_4 h_3 => asB y_4 fun b_5 => some ([(.c (.bool (!b_5)))], h_3) := by kernel_rfl

/- jacquard/print.okCond: 144 -/
set_option maxRecDepth 100000 in
theorem print_okCond_eq (C : CallF) (L : LoopF) (G : Glo) (l0 : List Cell) (h0 : AHeap) :
    print_okCond.body C L G [(.agg l0)] h0 =
    atK l0 0 fun q_1 => asI .i64 (.c q_1) fun n_2 => if (n_2 == 0) = true then atK l0 1 fun q_3 => lenK q_3 fun n_4 => some ([(.c (.bool (n_4 == 0)))], h0) else atK l0 0 fun q_5 => asI .i64 (.c q_5) fun n_6 => scK (n_6 == 1) false (atK l0 0 fun q_7 => asI .i64 (.c q_7) fun n_8 => some ((n_8 == 2), h0)) true h0 fun b_9 h_10 => scK b_9 true (atK l0 1 fun q_11 => lenK q_11 fun n_12 => some ((decide (n_12 > 0)), h_10)) false h_10 fun b_13 h_14 => scK b_13 true (atK l0 1 fun q_15 => c1 (C 146 [(.c q_15), (.c (.fn 161 []))] h_14) fun y_17 h_16 => asB y_17 fun b_18 => some ((!b_18), h_16)) false h_14 fun b_19 h_20 => some ([(.c (.bool b_19))], h_20) := by kernel_rfl

/- jacquard/print.Ok$1$1: 154 -/
set_option maxRecDepth 100000 in
theorem print_Ok_1_1_eq (C : CallF) (L : LoopF) (G : Glo) (l0 : List Cell) (h0 : AHeap) :
    print_Ok_1_1.body C L G [(.agg l0)] h0 =
    if 0 = 0 ∧ l0.length = 9 then c1 (C 157 [(.agg l0)] h0) fun y_2 h_1 => asB y_2 fun b_3 => some ([(.c (.bool (!b_3)))], h_1) else none := by kernel_rfl

/- jacquard/print.okIns: 157 -/
set_option maxRecDepth 100000 in
theorem print_okIns_eq (C : CallF) (L : LoopF) (G : Glo) (l0 : List Cell) (h0 : AHeap) :
    print_okIns.body C L G [(.agg l0)] h0 =
    if 0 = 0 ∧ l0.length = 9 then c1 (C 159 [(.agg l0), (.c (.fn 158 []))] h0) fun y_2 h_1 => asB y_2 fun b_3 => some ([(.c (.bool b_3))], h_1) else none := by kernel_rfl

/- jacquard/print.IsLoc: 158 -/
set_option maxRecDepth 100000 in
theorem print_IsLoc_eq (C : CallF) (L : LoopF) (G : Glo) (a0 : Int) (h0 : AHeap) :
    print_IsLoc.body C L G [(.c (.int .i64 a0))] h0 =
    scK (decide (a0 ≥ 97)) true (some ((decide (a0 ≤ 122)), h0)) false h0 fun b_1 h_2 => some ([(.c (.bool b_1))], h_2) := by kernel_rfl

/- jacquard/print.Fields: 159 -/
set_option maxRecDepth 100000 in
theorem print_Fields_eq (C : CallF) (L : LoopF) (G : Glo) (l0 : List Cell) (x1 : Cell) (h0 : AHeap) :
    print_Fields.body C L G [(.agg l0), (.c x1)] h0 =
    atK l0 0 fun q_1 => asI .i64 (.c q_1) fun n_2 => if 0 = 0 ∧ (List.replicate 9 (Cell.int .i64 0)).length = 9 ∧ (splice (List.replicate 9 (Cell.int .i64 0)) 0 ([(.int .i64 n_2)] : List Cell)).length = 9 then atK l0 0 fun q_3 => asI .i64 (.c q_3) fun n_4 => if (n_4 == 1) = true then atK l0 2 fun q_5 => asI .i64 (.c q_5) fun n_6 => if 3 + 2 ≤ l0.length then if 2 < (splice (List.replicate 9 (Cell.int .i64 0)) 0 ([(.int .i64 n_2)] : List Cell)).length then if 3 + 2 ≤ ((splice (List.replicate 9 (Cell.int .i64 0)) 0 ([(.int .i64 n_2)] : List Cell)).set 2 (.int .i64 n_6)).length ∧ ((l0.drop 3).take 2).length = 2 then atK l0 2 fun q_7 => asI .i64 (.c q_7) fun n_8 => fnK x1 fun g_9 l_10 => c1 (C g_9 ([(.c (.int .i64 n_8))] ++ l_10) h0) fun y_12 h_11 => asB y_12 fun b_13 => scK b_13 true (if 3 + 2 ≤ l0.length then c1 (C 163 [(.agg ((l0.drop 3).take 2))] h_11) fun y_15 h_14 => asB y_15 fun b_16 => some (b_16, h_14) else none) false h_11 fun b_17 h_18 => scK b_17 true (if 0 = 0 ∧ l0.length = 9 then if 0 = 0 ∧ (splice ((splice (List.replicate 9 (Cell.int .i64 0)) 0 ([(.int .i64 n_2)] : List Cell)).set 2 (.int .i64 n_6)) 3 ((l0.drop 3).take 2)).length = 9 then if alike l0 (List.replicate 9 (Cell.int .i64 0)) = true ∧ alike (splice ((splice (List.replicate 9 (Cell.int .i64 0)) 0 ([(.int .i64 n_2)] : List Cell)).set 2 (.int .i64 n_6)) 3 ((l0.drop 3).take 2)) (List.replicate 9 (Cell.int .i64 0)) = true then some ((decide (l0 = (splice ((splice (List.replicate 9 (Cell.int .i64 0)) 0 ([(.int .i64 n_2)] : List Cell)).set 2 (.int .i64 n_6)) 3 ((l0.drop 3).take 2)))), h_18) else none else none else none) false h_18 fun b_19 h_20 => some ([(.c (.bool b_19))], h_20) else none else none else none else if (n_4 == 2) = true then atK l0 1 fun q_21 => asI .i64 (.c q_21) fun n_22 => atK l0 2 fun q_23 => asI .i64 (.c q_23) fun n_24 => if 1 < (splice (List.replicate 9 (Cell.int .i64 0)) 0 ([(.int .i64 n_2)] : List Cell)).length then if 2 < ((splice (List.replicate 9 (Cell.int .i64 0)) 0 ([(.int .i64 n_2)] : List Cell)).set 1 (.int .i64 n_22)).length then atK l0 2 fun q_25 => asI .i64 (.c q_25) fun n_26 => fnK x1 fun g_27 l_28 => c1 (C g_27 ([(.c (.int .i64 n_26))] ++ l_28) h0) fun y_30 h_29 => asB y_30 fun b_31 => scK b_31 true (atK l0 1 fun q_32 => asI .i64 (.c q_32) fun n_33 => c1 (C 164 [(.c (.int .i64 n_33))] h_29) fun y_35 h_34 => asB y_35 fun b_36 => some (b_36, h_34)) false h_29 fun b_37 h_38 => scK b_37 true (if 0 = 0 ∧ l0.length = 9 then if 0 = 0 ∧ (((splice (List.replicate 9 (Cell.int .i64 0)) 0 ([(.int .i64 n_2)] : List Cell)).set 1 (.int .i64 n_22)).set 2 (.int .i64 n_24)).length = 9 then if alike l0 (List.replicate 9 (Cell.int .i64 0)) = true ∧ alike (((splice (List.replicate 9 (Cell.int .i64 0)) 0 ([(.int .i64 n_2)] : List Cell)).set 1 (.int .i64 n_22)).set 2 (.int .i64 n_24)) (List.replicate 9 (Cell.int .i64 0)) = true then some ((decide (l0 = (((splice (List.replicate 9 (Cell.int .i64 0)) 0 ([(.int .i64 n_2)] : List Cell)).set 1 (.int .i64 n_22)).set 2 (.int .i64 n_24)))), h_38) else none else none else none) false h_38 fun b_39 h_40 => some ([(.c (.bool b_39))], h_40) else none else none else if (n_4 == 3) = true then scK true true (if 0 = 0 ∧ l0.length = 9 then if 0 = 0 ∧ (splice (List.replicate 9 (Cell.int .i64 0)) 0 ([(.int .i64 n_2)] : List Cell)).length = 9 then if alike l0 (List.replicate 9 (Cell.int .i64 0)) = true ∧ alike (splice (List.replicate 9 (Cell.int .i64 0)) 0 ([(.int .i64 n_2)] : List Cell)) (List.replicate 9 (Cell.int .i64 0)) = true then some ((decide (l0 = (splice (List.replicate 9 (Cell.int .i64 0)) 0 ([(.int .i64 n_2)] : List Cell)))), h0) else none else none else none) false h0 fun b_41 h_42 => some ([(.c (.bool b_41))], h_42) else if (n_4 == 4) = true then atK l0 1 fun q_43 => asI .i64 (.c q_43) fun n_44 => atK l0 2 fun q_45 => asI .i64 (.c q_45) fun n_46 => if 3 + 2 ≤ l0.length then if 6 + 2 ≤ l0.length then if 1 < (splice (List.replicate 9 (Cell.int .i64 0)) 0 ([(.int .i64 n_2)] : List Cell)).length then if 2 < ((splice (List.replicate 9 (Cell.int .i64 0)) 0 ([(.int .i64 n_2)] : List Cell)).set 1 (.int .i64 n_44)).length then if 3 + 2 ≤ (((splice (List.replicate 9 (Cell.int .i64 0)) 0 ([(.int .i64 n_2)] : List Cell)).set 1 (.int .i64 n_44)).set 2 (.int .i64 n_46)).length ∧ ((l0.drop 3).take 2).length = 2 then if 6 + 2 ≤ (splice (((splice (List.replicate 9 (Cell.int .i64 0)) 0 ([(.int .i64 n_2)] : List Cell)).set 1 (.int .i64 n_44)).set 2 (.int .i64 n_46)) 3 ((l0.drop 3).take 2)).length ∧ ((l0.drop 6).take 2).length = 2 then atK l0 2 fun q_47 => asI .i64 (.c q_47) fun n_48 => fnK x1 fun g_49 l_50 => c1 (C g_49 ([(.c (.int .i64 n_48))] ++ l_50) h0) fun y_52 h_51 => asB y_52 fun b_53 => scK b_53 true (atK l0 1 fun q_54 => asI .i64 (.c q_54) fun n_55 => c1 (C 164 [(.c (.int .i64 n_55))] h_51) fun y_57 h_56 => asB y_57 fun b_58 => some (b_58, h_56)) false h_51 fun b_59 h_60 => scK b_59 true (if 3 + 2 ≤ l0.length then c1 (C 163 [(.agg ((l0.drop 3).take 2))] h_60) fun y_62 h_61 => asB y_62 fun b_63 => some (b_63, h_61) else none) false h_60 fun b_64 h_65 => scK b_64 true (if 6 + 2 ≤ l0.length then c1 (C 163 [(.agg ((l0.drop 6).take 2))] h_65) fun y_67 h_66 => asB y_67 fun b_68 => some (b_68, h_66) else none) false h_65 fun b_69 h_70 => scK b_69 true (if 0 = 0 ∧ l0.length = 9 then if 0 = 0 ∧ (splice (splice (((splice (List.replicate 9 (Cell.int .i64 0)) 0 ([(.int .i64 n_2)] : List Cell)).set 1 (.int .i64 n_44)).set 2 (.int .i64 n_46)) 3 ((l0.drop 3).take 2)) 6 ((l0.drop 6).take 2)).length = 9 then if alike l0 (List.replicate 9 (Cell.int .i64 0)) = true ∧ alike (splice (splice (((splice (List.replicate 9 (Cell.int .i64 0)) 0 ([(.int .i64 n_2)] : List Cell)).set 1 (.int .i64 n_44)).set 2 (.int .i64 n_46)) 3 ((l0.drop 3).take 2)) 6 ((l0.drop 6).take 2)) (List.replicate 9 (Cell.int .i64 0)) = true then some ((decide (l0 = (splice (splice (((splice (List.replicate 9 (Cell.int .i64 0)) 0 ([(.int .i64 n_2)] : List Cell)).set 1 (.int .i64 n_44)).set 2 (.int .i64 n_46)) 3 ((l0.drop 3).take 2)) 6 ((l0.drop 6).take 2)))), h_70) else none else none else none) false h_70 fun b_71 h_72 => some ([(.c (.bool b_71))], h_72) else none else none else none else none else none else none else if (n_4 == 5) = true then atK l0 1 fun q_73 => asI .i64 (.c q_73) fun n_74 => if 3 + 2 ≤ l0.length then atK l0 5 fun q_75 => asI .i64 (.c q_75) fun n_76 => if 6 + 2 ≤ l0.length then if 1 < (splice (List.replicate 9 (Cell.int .i64 0)) 0 ([(.int .i64 n_2)] : List Cell)).length then if 3 + 2 ≤ ((splice (List.replicate 9 (Cell.int .i64 0)) 0 ([(.int .i64 n_2)] : List Cell)).set 1 (.int .i64 n_74)).length ∧ ((l0.drop 3).take 2).length = 2 then if 5 < (splice ((splice (List.replicate 9 (Cell.int .i64 0)) 0 ([(.int .i64 n_2)] : List Cell)).set 1 (.int .i64 n_74)) 3 ((l0.drop 3).take 2)).length then if 6 + 2 ≤ ((splice ((splice (List.replicate 9 (Cell.int .i64 0)) 0 ([(.int .i64 n_2)] : List Cell)).set 1 (.int .i64 n_74)) 3 ((l0.drop 3).take 2)).set 5 (.int .i64 n_76)).length ∧ ((l0.drop 6).take 2).length = 2 then atK l0 1 fun q_77 => asI .i64 (.c q_77) fun n_78 => c1 (C 164 [(.c (.int .i64 n_78))] h0) fun y_80 h_79 => asB y_80 fun b_81 => scK b_81 true (if 3 + 2 ≤ l0.length then c1 (C 163 [(.agg ((l0.drop 3).take 2))] h_79) fun y_83 h_82 => asB y_83 fun b_84 => some (b_84, h_82) else none) false h_79 fun b_85 h_86 => scK b_85 true (if 6 + 2 ≤ l0.length then c1 (C 163 [(.agg ((l0.drop 6).take 2))] h_86) fun y_88 h_87 => asB y_88 fun b_89 => some (b_89, h_87) else none) false h_86 fun b_90 h_91 => scK b_90 true (atK l0 5 fun q_92 => asI .i64 (.c q_92) fun n_93 => some ((decide (n_93 ≥ 0)), h_91)) false h_91 fun b_94 h_95 => scK b_94 true (atK l0 5 fun q_96 => asI .i64 (.c q_96) fun n_97 => some ((decide (n_97 ≤ 11)), h_95)) false h_95 fun b_98 h_99 => scK b_98 true (atK l0 5 fun q_100 => asI .i64 (.c q_100) fun n_101 => scK (decide (n_101 > 0)) false (if 6 + 2 ≤ l0.length then if alike ((l0.drop 6).take 2) ([Cell.int .i64 0, Cell.int .i64 0]) = true ∧ alike (splice [Cell.int .i64 0, Cell.int .i64 0] 0 ([(.int .i64 (-1))] : List Cell)) ([Cell.int .i64 0, Cell.int .i64 0]) = true then some ((decide (((l0.drop 6).take 2) = (splice [Cell.int .i64 0, Cell.int .i64 0] 0 ([(.int .i64 (-1))] : List Cell)))), h_99) else none else none) true h_99 fun b_102 h_103 => some (b_102, h_103)) false h_99 fun b_104 h_105 => scK b_104 true (if 0 = 0 ∧ l0.length = 9 then if 0 = 0 ∧ (splice ((splice ((splice (List.replicate 9 (Cell.int .i64 0)) 0 ([(.int .i64 n_2)] : List Cell)).set 1 (.int .i64 n_74)) 3 ((l0.drop 3).take 2)).set 5 (.int .i64 n_76)) 6 ((l0.drop 6).take 2)).length = 9 then if alike l0 (List.replicate 9 (Cell.int .i64 0)) = true ∧ alike (splice ((splice ((splice (List.replicate 9 (Cell.int .i64 0)) 0 ([(.int .i64 n_2)] : List Cell)).set 1 (.int .i64 n_74)) 3 ((l0.drop 3).take 2)).set 5 (.int .i64 n_76)) 6 ((l0.drop 6).take 2)) (List.replicate 9 (Cell.int .i64 0)) = true then some ((decide (l0 = (splice ((splice ((splice (List.replicate 9 (Cell.int .i64 0)) 0 ([(.int .i64 n_2)] : List Cell)).set 1 (.int .i64 n_74)) 3 ((l0.drop 3).take 2)).set 5 (.int .i64 n_76)) 6 ((l0.drop 6).take 2)))), h_105) else none else none else none) false h_105 fun b_106 h_107 => some ([(.c (.bool b_106))], h_107) else none else none else none else none else none else none else if (n_4 == 6) = true then atK l0 8 fun q_108 => asI .i64 (.c q_108) fun n_109 => if 3 + 2 ≤ l0.length then if 6 + 2 ≤ l0.length then if 8 < (splice (List.replicate 9 (Cell.int .i64 0)) 0 ([(.int .i64 n_2)] : List Cell)).length then if 3 + 2 ≤ ((splice (List.replicate 9 (Cell.int .i64 0)) 0 ([(.int .i64 n_2)] : List Cell)).set 8 (.int .i64 n_109)).length ∧ ((l0.drop 3).take 2).length = 2 then if 6 + 2 ≤ (splice ((splice (List.replicate 9 (Cell.int .i64 0)) 0 ([(.int .i64 n_2)] : List Cell)).set 8 (.int .i64 n_109)) 3 ((l0.drop 3).take 2)).length ∧ ((l0.drop 6).take 2).length = 2 then atK l0 8 fun q_110 => asI .i64 (.c q_110) fun n_111 => scK (decide (n_111 ≥ 0)) true (if 3 + 2 ≤ l0.length then c1 (C 163 [(.agg ((l0.drop 3).take 2))] h0) fun y_113 h_112 => asB y_113 fun b_114 => some (b_114, h_112) else none) false h0 fun b_115 h_116 => scK b_115 true (if 6 + 2 ≤ l0.length then c1 (C 163 [(.agg ((l0.drop 6).take 2))] h_116) fun y_118 h_117 => asB y_118 fun b_119 => some (b_119, h_117) else none) false h_116 fun b_120 h_121 => scK b_120 true (if 0 = 0 ∧ l0.length = 9 then if 0 = 0 ∧ (splice (splice ((splice (List.replicate 9 (Cell.int .i64 0)) 0 ([(.int .i64 n_2)] : List Cell)).set 8 (.int .i64 n_109)) 3 ((l0.drop 3).take 2)) 6 ((l0.drop 6).take 2)).length = 9 then if alike l0 (List.replicate 9 (Cell.int .i64 0)) = true ∧ alike (splice (splice ((splice (List.replicate 9 (Cell.int .i64 0)) 0 ([(.int .i64 n_2)] : List Cell)).set 8 (.int .i64 n_109)) 3 ((l0.drop 3).take 2)) 6 ((l0.drop 6).take 2)) (List.replicate 9 (Cell.int .i64 0)) = true then some ((decide (l0 = (splice (splice ((splice (List.replicate 9 (Cell.int .i64 0)) 0 ([(.int .i64 n_2)] : List Cell)).set 8 (.int .i64 n_109)) 3 ((l0.drop 3).take 2)) 6 ((l0.drop 6).take 2)))), h_121) else none else none else none) false h_121 fun b_122 h_123 => some ([(.c (.bool b_122))], h_123) else none else none else none else none else none else some ([(.c (.bool false))], h0) else none := by kernel_rfl

/- jacquard/print.okCond$1: 161 -/
set_option maxRecDepth 100000 in
theorem print_okCond_1_eq (C : CallF) (L : LoopF) (G : Glo) (x0 : Cell) (h0 : AHeap) :
    print_okCond_1.body C L G [(.c x0)] h0 =
    lenK x0 fun n_1 => scK (n_1 == 0) false (c1 (C 132 [(.c x0), (.c (.fn 165 []))] h0) fun y_3 h_2 => asB y_3 fun b_4 => some (b_4, h_2)) true h0 fun b_5 h_6 => some ([(.c (.bool b_5))], h_6) := by kernel_rfl

/- jacquard/print.isOperand: 163 -/
set_option maxRecDepth 100000 in
theorem print_isOperand_eq (C : CallF) (L : LoopF) (G : Glo) (l0 : List Cell) (h0 : AHeap) :
    print_isOperand.body C L G [(.agg l0)] h0 =
    atK l0 0 fun q_1 => asI .i64 (.c q_1) fun n_2 => scK (n_2 == (-1)) false (atK l0 0 fun q_3 => asI .i64 (.c q_3) fun n_4 => c1 (C 164 [(.c (.int .i64 n_4))] h0) fun y_6 h_5 => asB y_6 fun b_7 => scK b_7 true (atK l0 1 fun q_8 => asI .i64 (.c q_8) fun n_9 => some ((n_9 == 0), h_5)) false h_5 fun b_10 h_11 => some (b_10, h_11)) true h0 fun b_12 h_13 => some ([(.c (.bool b_12))], h_13) := by kernel_rfl

/- jacquard/print.isReg: 164 -/
set_option maxRecDepth 100000 in
theorem print_isReg_eq (C : CallF) (L : LoopF) (G : Glo) (a0 : Int) (h0 : AHeap) :
    print_isReg.body C L G [(.c (.int .i64 a0))] h0 =
    scK (decide (a0 ≥ 0)) true (some ((decide (a0 < 4)), h0)) false h0 fun b_1 h_2 => some ([(.c (.bool b_1))], h_2) := by kernel_rfl

/- jacquard/print.okCond$1$1: 165 -/
set_option maxRecDepth 100000 in
theorem print_okCond_1_1_eq (C : CallF) (L : LoopF) (G : Glo) (l0 : List Cell) (h0 : AHeap) :
    print_okCond_1_1.body C L G [(.agg l0)] h0 =
    if 0 = 0 ∧ l0.length = 4 then c1 (C 166 [(.agg l0)] h0) fun y_2 h_1 => asB y_2 fun b_3 => some ([(.c (.bool (!b_3)))], h_1) else none := by kernel_rfl

/- jacquard/print.okAtom: 166 -/
set_option maxRecDepth 100000 in
theorem print_okAtom_eq (C : CallF) (L : LoopF) (G : Glo) (l0 : List Cell) (h0 : AHeap) :
    print_okAtom.body C L G [(.agg l0)] h0 =
    atK l0 0 fun q_1 => asI .i64 (.c q_1) fun n_2 => if (n_2 == (-1)) = true then atK l0 1 fun q_3 => asI .i64 (.c q_3) fun n_4 => scK (n_4 == 0) true (atK l0 2 fun q_5 => asI .i64 (.c q_5) fun n_6 => c1 (C 158 [(.c (.int .i64 n_6))] h0) fun y_8 h_7 => asB y_8 fun b_9 => some (b_9, h_7)) false h0 fun b_10 h_11 => some ([(.c (.bool b_10))], h_11) else atK l0 0 fun q_12 => asI .i64 (.c q_12) fun n_13 => scK (decide (n_13 ≥ 0)) true (atK l0 0 fun q_14 => asI .i64 (.c q_14) fun n_15 => some ((decide (n_15 ≤ 9)), h0)) false h0 fun b_16 h_17 => scK b_16 true (atK l0 2 fun q_18 => asI .i64 (.c q_18) fun n_19 => some ((n_19 == 0), h_17)) false h_17 fun b_20 h_21 => scK b_20 true (atK l0 1 fun q_22 => asI .i64 (.c q_22) fun n_23 => c1 (C 164 [(.c (.int .i64 n_23))] h_21) fun y_25 h_24 => asB y_25 fun b_26 => some (b_26, h_24)) false h_21 fun b_27 h_28 => some ([(.c (.bool b_27))], h_28) := by kernel_rfl


end Jq

/- Is a test one that could be in a tree? -/
namespace Jq
open Go

def locB (n : Int) : Bool := decide (n ≥ 97) && decide (n ≤ 122)
def regB (n : Int) : Bool := decide (n ≥ 0) && decide (n < 4)
def opB (o : Opd) : Bool := o.reg == -1 || (regB o.reg && o.val == 0)
def fldB (has : Int → Bool) (i : Ins) : Bool :=
  if i.kind = 1 then has i.loc && opB i.a && decide (i.cs = (⟨i.kind, 0, i.loc, i.a, 0, ⟨0, 0⟩, 0⟩ : Ins).cs)
  else if i.kind = 2 then has i.loc && regB i.reg && decide (i.cs = (⟨i.kind, i.reg, i.loc, ⟨0, 0⟩, 0, ⟨0, 0⟩, 0⟩ : Ins).cs)
  else if i.kind = 3 then decide (i.cs = (⟨i.kind, 0, 0, ⟨0, 0⟩, 0, ⟨0, 0⟩, 0⟩ : Ins).cs)
  else if i.kind = 4 then has i.loc && regB i.reg && opB i.a && opB i.b && decide (i.cs = (⟨i.kind, i.reg, i.loc, i.a, 0, i.b, 0⟩ : Ins).cs)
  else if i.kind = 5 then regB i.reg && opB i.a && opB i.b && decide (i.op ≥ 0) && decide (i.op ≤ 11) && (decide (i.op > 0) || decide (i.b.cs = (⟨-1, 0⟩ : Opd).cs)) && decide (i.cs = (⟨i.kind, i.reg, 0, i.a, i.op, i.b, 0⟩ : Ins).cs)
  else if i.kind = 6 then decide (i.n ≥ 0) && opB i.a && opB i.b && decide (i.cs = (⟨i.kind, 0, 0, i.a, 0, i.b, i.n⟩ : Ins).cs)
  else false

theorem alike_ins (i : Ins) : alike i.cs (List.replicate 9 (Cell.int .i64 0)) = true := rfl

section
variable {E : Env}

theorem IsLoc_R (hE : print_IsLoc_In E) (n : Int) (h : AHeap) : R E 158 [.c (.int .i64 n)] h = some ([.c (.bool (locB n))], h) := by
  refine R_intro hE.fn ?_
  rw [print_IsLoc_eq, scK_and]; rfl
theorem isReg_R (hE : print_isReg_In E) (n : Int) (h : AHeap) : R E 164 [.c (.int .i64 n)] h = some ([.c (.bool (regB n))], h) := by
  refine R_intro hE.fn ?_
  rw [print_isReg_eq, scK_and]; rfl
theorem isOperand_R (hE : print_isOperand_In E) (o : Opd) (h : AHeap) : R E 163 [.agg o.cs] h = some ([.c (.bool (opB o))], h) := by
  refine R_intro hE.fn ?_
  have a0 : ∀ {α : Type} (f : Cell → Option α), atK o.cs 0 f = f (.int .i64 o.reg) := fun _ => rfl
  have a1 : ∀ {α : Type} (f : Cell → Option α), atK o.cs 1 f = f (.int .i64 o.val) := fun _ => rfl
  rw [print_isOperand_eq]
  simp only [a0, a1, asI_ok, isReg_R hE.c164, c1_ok, asB_ok, scK_and, scK_or]
  rfl

/-- A function value that answers as said. -/
def Says (E : Env) (h : AHeap) (f : Cell) (has : Int → Bool) : Prop := ∀ (n : Int) {α : Type} (F : AV → AHeap → Option α), (fnK f fun g cs => c1 (R E g ([.c (.int .i64 n)] ++ cs) h) F) = F (.c (.bool (has n))) h

theorem Fields_R (hE : print_Fields_In E) (i : Ins) {f : Cell} {has : Int → Bool} {h : AHeap} (hf : Says E h f has) : R E 159 [.agg i.cs, .c f] h = some ([.c (.bool (fldB has i))], h) := by
  refine R_intro hE.fn ?_
  rw [print_Fields_eq, ins_kind, asI_ok, if_pos ⟨rfl, rfl, rfl⟩, ins_kind, asI_ok]
  by_cases h1 : i.kind = 1
  · rw [if_pos (by simpa using h1), ins_loc, asI_ok, if_pos (by exact Nat.le_of_ble_eq_true rfl), if_pos (by exact Nat.le_of_ble_eq_true rfl), if_pos (by exact ⟨Nat.le_of_ble_eq_true rfl, rfl⟩), ins_loc, asI_ok, hf, asB_ok, if_pos (by exact Nat.le_of_ble_eq_true rfl), ins_a, isOperand_R hE.c163, c1_ok, asB_ok, scK_and, if_pos ⟨rfl, rfl⟩, if_pos ⟨rfl, rfl⟩, if_pos ⟨rfl, rfl⟩, scK_and, fldB, if_pos h1]
    rfl
  rw [if_neg (by simpa using h1)]
  by_cases h2 : i.kind = 2
  · rw [if_pos (by simpa using h2), ins_reg, asI_ok, ins_loc, asI_ok, if_pos (by exact Nat.le_of_ble_eq_true rfl), if_pos (by exact Nat.le_of_ble_eq_true rfl), ins_loc, asI_ok, hf, asB_ok, ins_reg, asI_ok, isReg_R hE.c164, c1_ok, asB_ok, scK_and, if_pos ⟨rfl, rfl⟩, if_pos ⟨rfl, rfl⟩, if_pos ⟨rfl, rfl⟩, scK_and, fldB, if_neg h1, if_pos h2]
    rfl
  rw [if_neg (by simpa using h2)]
  by_cases h3 : i.kind = 3
  · rw [if_pos (by simpa using h3), if_pos ⟨rfl, rfl⟩, if_pos ⟨rfl, rfl⟩, if_pos ⟨rfl, rfl⟩, scK_and, fldB, if_neg h1, if_neg h2, if_pos h3]
    rfl
  rw [if_neg (by simpa using h3)]
  by_cases h4 : i.kind = 4
  · rw [if_pos (by simpa using h4), ins_reg, asI_ok, ins_loc, asI_ok, if_pos (by exact Nat.le_of_ble_eq_true rfl), if_pos (by exact Nat.le_of_ble_eq_true rfl), if_pos (by exact Nat.le_of_ble_eq_true rfl), if_pos (by exact Nat.le_of_ble_eq_true rfl), if_pos (by exact ⟨Nat.le_of_ble_eq_true rfl, rfl⟩), if_pos (by exact ⟨Nat.le_of_ble_eq_true rfl, rfl⟩), ins_loc, asI_ok, hf, asB_ok, ins_reg, asI_ok, isReg_R hE.c164, c1_ok, asB_ok, scK_and, if_pos (by exact Nat.le_of_ble_eq_true rfl), ins_a, isOperand_R hE.c163, c1_ok, asB_ok, scK_and, if_pos (by exact Nat.le_of_ble_eq_true rfl), ins_b, isOperand_R hE.c163, c1_ok, asB_ok, scK_and, if_pos ⟨rfl, rfl⟩, if_pos ⟨rfl, rfl⟩, if_pos ⟨rfl, rfl⟩, scK_and, fldB, if_neg h1, if_neg h2, if_neg h3, if_pos h4]
    rfl
  rw [if_neg (by simpa using h4)]
  by_cases h5 : i.kind = 5
  · rw [if_pos (by simpa using h5), ins_reg, asI_ok, if_pos (by exact Nat.le_of_ble_eq_true rfl), ins_op, asI_ok, if_pos (by exact Nat.le_of_ble_eq_true rfl), if_pos (by exact Nat.le_of_ble_eq_true rfl), if_pos (by exact ⟨Nat.le_of_ble_eq_true rfl, rfl⟩), if_pos (by exact Nat.le_of_ble_eq_true rfl), if_pos (by exact ⟨Nat.le_of_ble_eq_true rfl, rfl⟩), ins_reg, asI_ok, isReg_R hE.c164, c1_ok, asB_ok, if_pos (by exact Nat.le_of_ble_eq_true rfl), ins_a, isOperand_R hE.c163, c1_ok, asB_ok, scK_and, if_pos (by exact Nat.le_of_ble_eq_true rfl), ins_b, isOperand_R hE.c163, c1_ok, asB_ok, scK_and, ins_op, asI_ok, scK_and, ins_op, asI_ok, scK_and, ins_op, asI_ok, if_pos (by exact Nat.le_of_ble_eq_true rfl), if_pos ⟨rfl, rfl⟩, scK_or, scK_and, if_pos ⟨rfl, rfl⟩, if_pos ⟨rfl, rfl⟩, if_pos ⟨rfl, rfl⟩, scK_and, fldB, if_neg h1, if_neg h2, if_neg h3, if_neg h4, if_pos h5]
    rfl
  rw [if_neg (by simpa using h5)]
  by_cases h6 : i.kind = 6
  · rw [if_pos (by simpa using h6), ins_n, asI_ok, if_pos (by exact Nat.le_of_ble_eq_true rfl), if_pos (by exact Nat.le_of_ble_eq_true rfl), if_pos (by exact Nat.le_of_ble_eq_true rfl), if_pos (by exact ⟨Nat.le_of_ble_eq_true rfl, rfl⟩), if_pos (by exact ⟨Nat.le_of_ble_eq_true rfl, rfl⟩), ins_n, asI_ok, if_pos (by exact Nat.le_of_ble_eq_true rfl), ins_a, isOperand_R hE.c163, c1_ok, asB_ok, scK_and, if_pos (by exact Nat.le_of_ble_eq_true rfl), ins_b, isOperand_R hE.c163, c1_ok, asB_ok, scK_and, if_pos ⟨rfl, rfl⟩, if_pos ⟨rfl, rfl⟩, if_pos ⟨rfl, rfl⟩, scK_and, fldB, if_neg h1, if_neg h2, if_neg h3, if_neg h4, if_neg h5, if_pos h6]
    rfl
  rw [if_neg (by simpa using h6), fldB, if_neg h1, if_neg h2, if_neg h3, if_neg h4, if_neg h5, if_neg h6]

theorem okIns_R (hE : print_okIns_In E) (i : Ins) (h : AHeap) : R E 157 [.agg i.cs] h = some ([.c (.bool (fldB locB i))], h) := by
  refine R_intro hE.fn ?_
  have hs : Says E h (.fn 158 []) locB := fun n α F => by
    show c1 (R E 158 ([.c (.int .i64 n)] ++ []) h) F = _
    rw [List.append_nil, IsLoc_R hE.c158, c1_ok]
  rw [print_okIns_eq, if_pos ⟨rfl, rfl⟩, Fields_R hE.c159 i hs, c1_ok, asB_ok]

theorem Ok_1_1_R (hE : print_Ok_1_1_In E) (i : Ins) (h : AHeap) : R E 154 [.agg i.cs] h = some ([.c (.bool (!fldB locB i))], h) := by
  refine R_intro hE.fn ?_
  rw [print_Ok_1_1_eq, if_pos ⟨rfl, rfl⟩, okIns_R hE.c157, c1_ok, asB_ok]

theorem Ok_1_R (hE : print_Ok_1_In E) {x : Cell} {l : List Ins} {h : AHeap} (hx : SlAt h x 9 (codeC l) l.length) (hl : l.length < 9223372036854775807) : R E 140 [.c x] h = some ([.c (.bool (l.any fun i => !fldB locB i))], h) := by
  refine R_intro hE.fn ?_
  have hc := any_sIns_Ins_R hE.c155 (f := .fn 154 []) hx hl (fun i => !fldB locB i) fun i _ α F => by
    show c1 (R E 154 ([.agg i.cs] ++ []) h) F = _
    rw [List.append_nil, Ok_1_1_R hE.c154, c1_ok]
  rw [print_Ok_1_eq, hc, c1_ok, asB_ok]

theorem Ok_2_R (hE : print_Ok_2_In E) (p : Int × Int) (h : AHeap) : R E 142 [.agg (pairCs p)] h = some ([.c (.bool (!locB p.1))], h) := by
  refine R_intro hE.fn ?_
  have a0 : ∀ {α : Type} (f : Cell → Option α), atK (pairCs p) 0 f = f (.int .i64 p.1) := fun _ => rfl
  rw [print_Ok_2_eq, a0, asI_ok, IsLoc_R hE.c158, c1_ok, asB_ok]

/-- Is a name a word? -/
def chrB (b : UInt8) (first : Bool) : Bool := !((decide ((b.toNat : Int) < 97) || decide ((b.toNat : Int) > 122)) && ((first || decide ((b.toNat : Int) < 48)) || decide ((b.toNat : Int) > 57)))
def wordB (s : ByteArray) : Bool := (List.range s.size).all (fun i => match s[i]? with | some b => chrB b (i == 0) | none => true) && !(s.toList == (ByteArray.mk #[]).toList)

theorem isWord_R (hE : print_isWord_In E) {s : ByteArray} (hs : s.size < 9223372036854775807) (h : AHeap) : R E 141 [.c (.str s)] h = some ([.c (.bool (wordB s))], h) := by
  refine R_intro hE.fn ?_
  have loop : ∀ (n i : Nat), i + n = s.size → (Lim (print_isWord_F1 (R E) Lim E.glob) (print_isWord_s1 s s.size (i : Int) h)).bind (fun q => print_isWord_k3 (R E) Lim E.glob h q.1 q.2) =
      some ([.c (.bool (((List.range n).all fun k => match s[i + k]? with | some b => chrB b (i + k == 0) | none => true) && !(s.toList == (ByteArray.mk #[]).toList)))], h) := by
    intro n
    induction n with
    | zero =>
      intro i hi
      have hr : print_isWord_F1 (R E) Lim E.glob (print_isWord_s1 s s.size (i : Int) h) = some (.exit 0, print_isWord_x1_1 s h) := by rw [print_isWord_r1, if_neg (by simp; omega)]
      rw [Lim_exit hr, bind_ok, print_isWord_e1_1]; rfl
    | succ n ih =>
      intro i hi
      have hq : s[i]? = some s[i] := getElem?_pos s i (by omega)
      generalize s[i] = b at hq
      have hz : ((i : Int) == 0) = (i == 0) := by cases i <;> rfl
      have hg : print_isWord_F1 (R E) Lim E.glob (print_isWord_s1 s s.size (i : Int) h) = if (!chrB b (i == 0)) = true then some (.ret, print_isWord_x1_0 false h) else some (.normal, print_isWord_s1 s s.size ((i + 1 : Nat) : Int) h) := by
        rw [print_isWord_r1, if_pos (by simp; omega), if_pos (by omega), Int.toNat_natCast, hq, bind_ok]
        simp only [scK_or, scK_and, hz]
        rw [g_succ (by omega), show (!chrB b (i == 0)) = ((decide ((b.toNat : Int) < 97) || decide ((b.toNat : Int) > 122)) && ((i == 0 || decide ((b.toNat : Int) < 48)) || decide ((b.toNat : Int) > 57))) by unfold chrB; rw [Bool.not_not]]
      rw [List.range_succ_eq_map, List.all_cons, List.all_map, Nat.add_zero, hq]
      dsimp only
      cases hb : chrB b (i == 0) with
      | false =>
        rw [hb, if_pos (show (!false) = true from rfl)] at hg
        rw [Lim_ret hg, bind_ok, print_isWord_e1_0]; rfl
      | true =>
        rw [hb, if_neg (by simp)] at hg
        have h1 := ih (i + 1) (by omega)
        rw [Bool.true_and]
        have he : ((List.range n).all ((fun k => match s[i + k]? with | some b => chrB b (i + k == 0) | none => true) ∘ Nat.succ)) = ((List.range n).all fun k => match s[i + 1 + k]? with | some b => chrB b (i + 1 + k == 0) | none => true) := by
          congr 1
          funext k
          show (match s[i + (k + 1)]? with | some b => chrB b (i + (k + 1) == 0) | none => true) = _
          rw [show i + (k + 1) = i + 1 + k by omega]
        rw [he]
        cases hL : Lim (print_isWord_F1 (R E) Lim E.glob) (print_isWord_s1 s s.size ((i + 1 : Nat) : Int) h) with
        | none => rw [hL] at h1; cases h1
        | some w => rw [Lim_next hg hL]; rw [hL] at h1; exact h1
  have := loop s.size 0 (by omega)
  rw [print_isWord_eq, show ∀ {α : Type} (f : Int → Option α), lenSK (.str s) f = f s.size from fun _ => rfl]
  rw [show ((0 : Nat) : Int) = 0 from rfl] at this
  rw [this]
  unfold wordB
  simp only [Nat.zero_add]

def atmB (a : Atm) : Bool := if a.thread = -1 then (a.reg == 0 && locB a.loc) else decide (a.thread ≥ 0) && decide (a.thread ≤ 9) && (a.loc == 0) && regB a.reg

theorem okAtom_R (hE : print_okAtom_In E) (a : Atm) (h : AHeap) : R E 166 [.agg a.cs] h = some ([.c (.bool (atmB a))], h) := by
  refine R_intro hE.fn ?_
  have a0 : ∀ {α : Type} (f : Cell → Option α), atK a.cs 0 f = f (.int .i64 a.thread) := fun _ => rfl
  have a1 : ∀ {α : Type} (f : Cell → Option α), atK a.cs 1 f = f (.int .i64 a.reg) := fun _ => rfl
  have a2 : ∀ {α : Type} (f : Cell → Option α), atK a.cs 2 f = f (.int .i64 a.loc) := fun _ => rfl
  rw [print_okAtom_eq]
  simp only [a0, a1, a2, asI_ok, IsLoc_R hE.c158, isReg_R hE.c164, c1_ok, asB_ok, scK_and]
  unfold atmB
  by_cases h1 : a.thread = -1
  · rw [if_pos (by simpa using h1), if_pos h1]
  · rw [if_neg (by simpa using h1), if_neg h1]

theorem okCond_1_1_R (hE : print_okCond_1_1_In E) (a : Atm) (h : AHeap) : R E 165 [.agg a.cs] h = some ([.c (.bool (!atmB a))], h) := by
  refine R_intro hE.fn ?_
  rw [print_okCond_1_1_eq, if_pos ⟨rfl, rfl⟩, okAtom_R hE.c166, c1_ok, asB_ok]

def rowBad (r : List Atm) : Bool := r.length == 0 || r.any fun a => !atmB a
theorem okCond_1_R (hE : print_okCond_1_In E) {x : Cell} {l : List Atm} {h : AHeap} (hx : SlAt h x 4 (atmC l) l.length) (hl : l.length < 9223372036854775807) : R E 161 [.c x] h = some ([.c (.bool (rowBad l))], h) := by
  refine R_intro hE.fn ?_
  have hc := any_sAtom_Atom_R hE.c132 (f := .fn 165 []) hx hl (fun i => !atmB i) fun i _ α F => by
    show c1 (R E 165 ([.agg i.cs] ++ []) h) F = _
    rw [List.append_nil, okCond_1_1_R hE.c165, c1_ok]
  rw [print_okCond_1_eq, hx.len, hc, c1_ok, asB_ok, scK_or]
  have hz : ((l.length : Int) == 0) = (l.length == 0) := by cases l <;> rfl
  rw [hz]; rfl

def condB (ck : Int) (any : List (List Atm)) : Bool := if ck = 0 then any.length == 0 else (ck == 1 || ck == 2) && decide ((any.length : Int) > 0) && !(any.any rowBad)

/-- The rows that came in are not too long. -/
structure PTest.fits (T : PTest) : Prop where
  name : T.name.size < 9223372036854775807
  inits : T.inits.length < 9223372036854775807
  thr : T.thr.length < 9223372036854775807
  code : ∀ c ∈ T.thr, c.length < 9223372036854775807
  any : T.any.length < 9223372036854775807
  row : ∀ c ∈ T.any, c.length < 9223372036854775807

theorem okCond_R (hE : print_okCond_In E) {ck : Int} {c : Cell} {any : List (List Atm)} {h : AHeap} (hc : RowsOf 4 atmC h c any) (hl : any.length < 9223372036854775807) (hr : ∀ r ∈ any, r.length < 9223372036854775807) : R E 144 [.agg [.int .i64 ck, c]] h = some ([.c (.bool (condB ck any))], h) := by
  refine R_intro hE.fn ?_
  have a0 : ∀ {α : Type} (f : Cell → Option α), atK [.int .i64 ck, c] 0 f = f (.int .i64 ck) := fun _ => rfl
  have a1 : ∀ {α : Type} (f : Cell → Option α), atK [.int .i64 ck, c] 1 f = f c := fun _ => rfl
  have hcf := any_ssAtom_sAtom_R hE.c146 (f := .fn 161 []) hc hl rowBad fun r hm y hy α F => by
    show c1 (R E 161 ([.c y] ++ []) h) F = _
    rw [List.append_nil, okCond_1_R hE.c161 hy (hr r hm), c1_ok]
  rw [print_okCond_eq]
  simp only [a0, a1, asI_ok, hc.len, hcf, c1_ok, asB_ok, scK_or, scK_and]
  unfold condB
  have hz : ((any.length : Int) == 0) = (any.length == 0) := by cases any <;> rfl
  by_cases h1 : ck = 0
  · rw [if_pos (by simpa using h1), if_pos h1, hz]
  · rw [if_neg (by simpa using h1), if_neg h1]

def okT (T : PTest) : Bool := wordB T.name && !(T.inits.any fun p => !locB p.1) && !(T.thr.any fun c => c.any fun i => !fldB locB i) && condB T.ck T.any

theorem print_Ok_R (hE : print_Ok_In E) {cs : List Cell} {T : PTest} {h : AHeap} (p : TestAt h cs T) (hs : T.fits) : R E 126 [.agg cs] h = some ([.c (.bool (okT T))], h) := by
  refine R_intro hE.fn ?_
  obtain ⟨a, b, c, rfl, ⟨ha, hal⟩, hb, hc⟩ := p
  have a0 : ∀ {α : Type} (f : Cell → Option α), atK [.str T.name, a, b, .int .i64 T.ck, c] 0 f = f (.str T.name) := fun _ => rfl
  have a1 : ∀ {α : Type} (f : Cell → Option α), atK [.str T.name, a, b, .int .i64 T.ck, c] 1 f = f a := fun _ => rfl
  have a2 : ∀ {α : Type} (f : Cell → Option α), atK [.str T.name, a, b, .int .i64 T.ck, c] 2 f = f b := fun _ => rfl
  have c1' := any_sInit_Init_R hE.c143 (f := .fn 142 []) ha hs.inits (fun p => !locB p.1) fun i _ α F => by
    show c1 (R E 142 ([.agg (pairCs i)] ++ []) h) F = _
    rw [List.append_nil, Ok_2_R hE.c142, c1_ok]
  have c2' := any_ssIns_sIns_R hE.c130 (f := .fn 140 []) hb hs.thr (fun c => c.any fun i => !fldB locB i) fun r hm y hy α F => by
    show c1 (R E 140 ([.c y] ++ []) h) F = _
    rw [List.append_nil, Ok_1_R hE.c140 hy (hs.code r hm), c1_ok]
  rw [print_Ok_eq, a0, show ∀ {α : Type} (f : ByteArray → Option α), asS (.c (.str T.name)) f = f T.name from fun _ => rfl, isWord_R hE.c141 hs.name, c1_ok, asB_ok, a1, c1', c1_ok, asB_ok, scK_and, a2, c2', c1_ok, asB_ok, scK_and, if_pos (by exact Nat.le_of_ble_eq_true rfl), show ((([.str T.name, a, b, .int .i64 T.ck, c] : List Cell).drop 3).take 2) = [.int .i64 T.ck, c] from rfl, okCond_R hE.c144 hc hs.any hs.row, c1_ok, asB_ok, scK_and]
  rfl

end
end Jq

namespace Jq
open Go

/- jacquard/well.Check: 116 -/
def well_Check_k2 (C : CallF) (L : LoopF) (G : Glo) (h0 : AHeap) : Ex → St → Option (List AV × AHeap) :=
  kSeq (fun st => well_Check_p1.exec C L G st (well_Check.fin G h0)) (well_Check.fin G h0)
def well_Check_k3 (C : CallF) (L : LoopF) (G : Glo) (h0 : AHeap) : Ex → St → Option (List AV × AHeap) :=
  kBlk 1 (well_Check_k2 C L G h0)
def well_Check_s1 (k1 : Nat) (N1 : Nat) (o1 : Nat) (x22 : Cell) (a23 : Int) (a24 : Int) (h : AHeap) : St := ⟨[.top, .v (.c (.ptr k1 N1 o1)), .top, .top, .top, .top, .top, .top, .top, .top, .top, .top, .top, .top, .top, .top, .top, .top, .top, .top, .top, .top, .v (.c x22), .v (.c (.int .i64 a23)), .v (.c (.int .i64 a24)), .top, .top, .top, .top, .top, .top, .top], [], h⟩
def well_Check_F1 (C : CallF) (L : LoopF) (G : Glo) : St → Option (Ex × St) :=
  roundF (fun st f => well_Check_b1.exec C L G st f) [1, 22, 23, 24] [] [(0, [2], []), (2, [], [])]
def well_Check_x1_0 (a2 : Int) (h : AHeap) : St := ⟨[.top, .top, .v (.c (.int .i64 a2)), .top, .top, .top, .top, .top, .top, .top, .top, .top, .top, .top, .top, .top, .top, .top, .top, .top, .top, .top, .top, .top, .top, .top, .top, .top, .top, .top, .top, .top], [], h⟩
def well_Check_x1_2 (h : AHeap) : St := ⟨[.top, .top, .top, .top, .top, .top, .top, .top, .top, .top, .top, .top, .top, .top, .top, .top, .top, .top, .top, .top, .top, .top, .top, .top, .top, .top, .top, .top, .top, .top, .top, .top], [], h⟩
theorem well_Check_r1 (C : CallF) (L : LoopF) (G : Glo) (k1 : Nat) (N1 : Nat) (o1 : Nat) (x22 : Cell) (a23 : Int) (a24 : Int) (h : AHeap) :
    well_Check_F1 C L G (well_Check_s1 k1 N1 o1 x22 a23 a24 h) =
    if (decide (a24 < a23)) = true then idxSK 1 x22 a24 fun k_22 N_23 o_24 => rdH h k_22 N_23 fun l_25 => atK l_25 o_24 fun q_26 => c1 (C 132 [(.c q_26), (.c (.fn 131 [(k1, N1, o1)]))] h) fun y_28 h_27 => asB y_28 fun b_29 => if b_29 = true then some (.ret, (well_Check_x1_0 10 h_27)) else some (.normal, (well_Check_s1 k1 N1 o1 x22 a23 (G.wrap .i64 (a24 + 1)) h_27)) else some ((.exit 1), (well_Check_x1_2 h)) := by kernel_rfl
theorem well_Check_e1_0 (C : CallF) (L : LoopF) (G : Glo) (h0 : AHeap) (a2 : Int) (h : AHeap) :
    (well_Check_k3 C L G h0) .ret (well_Check_x1_0 a2 h) =
    finish true h0 [(.c (.int .i64 a2))] h := by kernel_rfl
theorem well_Check_e1_2 (C : CallF) (L : LoopF) (G : Glo) (h0 : AHeap) (h : AHeap) :
    (well_Check_k3 C L G h0) (.exit 1) (well_Check_x1_2 h) =
    finish true h0 [(.c (.int .i64 0))] h := by kernel_rfl
set_option maxRecDepth 100000 in
theorem well_Check_eq (C : CallF) (L : LoopF) (G : Glo) (l0 : List Cell) (h0 : AHeap) :
    well_Check.body C L G [(.agg l0)] h0 =
    rdH (h0 ++ [some (Blk.mk true 0 (AV.cells (.agg l0)))]) h0.length ((AV.cells (.agg l0)).length) fun l_1 => if 0 = 0 ∧ l_1.length = 5 then c1 (C 126 [(.agg l_1)] (h0 ++ [some (Blk.mk true 0 (AV.cells (.agg l0)))])) fun y_3 h_2 => asB y_3 fun b_4 => if (!b_4) = true then finish true h0 [(.c (.int .i64 1))] h_2 else rdH h_2 h0.length ((AV.cells (.agg l0)).length) fun l_5 => if 0 = 0 ∧ l_5.length = 5 then c1 (C 127 [(.agg l_5)] h_2) fun y_7 h_6 => asB y_7 fun b_8 => if b_8 = true then finish true h0 [(.c (.int .i64 8))] h_6 else rdH h_6 h0.length ((AV.cells (.agg l0)).length) fun l_9 => atK l_9 1 fun q_10 => c1 (C 128 [(.c q_10)] h_6) fun y_12 h_11 => asB y_12 fun b_13 => if b_13 = true then finish true h0 [(.c (.int .i64 9))] h_11 else rdH h_11 h0.length ((AV.cells (.agg l0)).length) fun l_14 => atK l_14 2 fun q_15 => c1 (C 130 [(.c q_15), (.c (.fn 129 []))] h_11) fun y_17 h_16 => asB y_17 fun b_18 => if b_18 = true then finish true h0 [(.c (.int .i64 10))] h_16 else rdH h_16 h0.length ((AV.cells (.agg l0)).length) fun l_19 => atK l_19 4 fun q_20 => lenK q_20 fun n_21 => (L (well_Check_F1 C L G) (well_Check_s1 h0.length ((AV.cells (.agg l0)).length) 0 q_20 n_21 0 h_16)).bind fun p_30 => (well_Check_k3 C L G h0) p_30.1 p_30.2 else none else none := by kernel_rfl

/- jacquard/well.Locs: 117 -/
def well_Locs_k2 (C : CallF) (L : LoopF) (G : Glo) (h0 : AHeap) : Ex → St → Option (List AV × AHeap) :=
  kSeq (fun st => well_Locs_p1.exec C L G st (well_Locs.fin G h0)) (well_Locs.fin G h0)
def well_Locs_k3 (C : CallF) (L : LoopF) (G : Glo) (h0 : AHeap) : Ex → St → Option (List AV × AHeap) :=
  kBlk 0 (well_Locs_k2 C L G h0)
def well_Locs_s1 (x3 : Cell) (a4 : Int) (a8 : Int) (h : AHeap) : St := ⟨[.top, .top, .top, .v (.c x3), .v (.c (.int .u64 a4)), .top, .top, .top, .v (.c (.int .i64 a8)), .top, .top, .top, .top, .top, .top, .top, .top, .top, .top, .top, .top, .top, .top, .top], [none], h⟩
def well_Locs_F1 (C : CallF) (L : LoopF) (G : Glo) : St → Option (Ex × St) :=
  roundF (fun st f => well_Locs_b1.exec C L G st f) [3, 4, 8] [] [(1, [3], [])]
def well_Locs_x1_1 (x3 : Cell) (h : AHeap) : St := ⟨[.top, .top, .top, .v (.c x3), .top, .top, .top, .top, .top, .top, .top, .top, .top, .top, .top, .top, .top, .top, .top, .top, .top, .top, .top, .top], [none], h⟩
theorem well_Locs_r1 (C : CallF) (L : LoopF) (G : Glo) (x3 : Cell) (a4 : Int) (a8 : Int) (h : AHeap) :
    well_Locs_F1 C L G (well_Locs_s1 x3 a4 a8 h) =
    if (decide (a8 < 26)) = true then if a8 < 0 then none else if ((G.band .u64 (G.shr .u64 a4 a8) 1) == 1) = true then if (splice [Cell.int .u8 0] 0 ([(.int .u8 (G.wrap .u8 (97 + (G.wrap .u8 a8))))] : List Cell)).length = 1 * 1 then appK 1 1 x3 (splice [Cell.int .u8 0] 0 ([(.int .u8 (G.wrap .u8 (97 + (G.wrap .u8 a8))))] : List Cell)) h fun x_4 h_5 => some (.normal, (well_Locs_s1 x_4 a4 (G.wrap .i64 (a8 + 1)) h_5)) else none else some (.normal, (well_Locs_s1 x3 a4 (G.wrap .i64 (a8 + 1)) h)) else some ((.exit 0), (well_Locs_x1_1 x3 h)) := by kernel_rfl
theorem well_Locs_e1_1 (C : CallF) (L : LoopF) (G : Glo) (h0 : AHeap) (x3 : Cell) (h : AHeap) :
    (well_Locs_k3 C L G h0) (.exit 0) (well_Locs_x1_1 x3 h) =
    some ([(.c x3)], h) := by kernel_rfl
set_option maxRecDepth 100000 in
theorem well_Locs_eq (C : CallF) (L : LoopF) (G : Glo) (l0 : List Cell) (h0 : AHeap) :
    well_Locs.body C L G [(.agg l0)] h0 =
    if 0 = 0 ∧ l0.length = 5 then c1 (C 133 [(.agg l0)] h0) fun y_2 h_1 => asI .u64 y_2 fun n_3 => (L (well_Locs_F1 C L G) (well_Locs_s1 .nils n_3 0 h_1)).bind fun p_6 => (well_Locs_k3 C L G h0) p_6.1 p_6.2 else none := by kernel_rfl

/- jacquard/well.big: 127 -/
def well_big_k2 (C : CallF) (L : LoopF) (G : Glo) (h0 : AHeap) : Ex → St → Option (List AV × AHeap) :=
  kSeq (fun st => well_big_p1.exec C L G st (well_big.fin G h0)) (well_big.fin G h0)
def well_big_k3 (C : CallF) (L : LoopF) (G : Glo) (h0 : AHeap) : Ex → St → Option (List AV × AHeap) :=
  kBlk 0 (well_big_k2 C L G h0)
def well_big_s1 (a3 : Int) (x8 : Cell) (a9 : Int) (a10 : Int) (s0 : List Cell) (h : AHeap) : St := ⟨[.top, .loc 0 0, .top, .v (.c (.int .i64 a3)), .top, .top, .top, .top, .v (.c x8), .v (.c (.int .i64 a9)), .v (.c (.int .i64 a10)), .top, .top, .top, .top, .top, .top, .top, .top, .top, .top, .top, .top, .top, .top, .top, .top, .top, .top, .top, .top, .top, .top, .top, .top, .top, .top, .top, .top, .top, .top, .top, .top, .top, .top, .top, .top, .top, .top, .top, .top, .top, .top, .top, .top, .top, .top, .top, .top, .top, .top, .top], [some s0], h⟩
def well_big_F1 (C : CallF) (L : LoopF) (G : Glo) : St → Option (Ex × St) :=
  roundF (fun st f => well_big_b1.exec C L G st f) [1, 3, 8, 9, 10] [0] [(0, [2], []), (1, [1, 3], [0])]
def well_big_x1_0 (b2 : Bool) (h : AHeap) : St := ⟨[.top, .top, .v (.c (.bool b2)), .top, .top, .top, .top, .top, .top, .top, .top, .top, .top, .top, .top, .top, .top, .top, .top, .top, .top, .top, .top, .top, .top, .top, .top, .top, .top, .top, .top, .top, .top, .top, .top, .top, .top, .top, .top, .top, .top, .top, .top, .top, .top, .top, .top, .top, .top, .top, .top, .top, .top, .top, .top, .top, .top, .top, .top, .top, .top, .top], [none], h⟩
def well_big_x1_1 (a3 : Int) (s0 : List Cell) (h : AHeap) : St := ⟨[.top, .loc 0 0, .top, .v (.c (.int .i64 a3)), .top, .top, .top, .top, .top, .top, .top, .top, .top, .top, .top, .top, .top, .top, .top, .top, .top, .top, .top, .top, .top, .top, .top, .top, .top, .top, .top, .top, .top, .top, .top, .top, .top, .top, .top, .top, .top, .top, .top, .top, .top, .top, .top, .top, .top, .top, .top, .top, .top, .top, .top, .top, .top, .top, .top, .top, .top, .top], [some s0], h⟩
theorem well_big_r1 (C : CallF) (L : LoopF) (G : Glo) (a3 : Int) (x8 : Cell) (a9 : Int) (a10 : Int) (s0 : List Cell) (h : AHeap) :
    well_big_F1 C L G (well_big_s1 a3 x8 a9 a10 s0 h) =
    if (decide (a10 < a9)) = true then idxSK 1 x8 a10 fun k_3 N_4 o_5 => rdH h k_3 N_4 fun l_6 => atK l_6 o_5 fun q_7 => lenK q_7 fun n_8 => if (decide (n_8 > 10)) = true then some (.ret, (well_big_x1_0 true h)) else lenK q_7 fun n_9 => some (.normal, (well_big_s1 (G.wrap .i64 (a3 + n_9)) x8 a9 (G.wrap .i64 (a10 + 1)) s0 h)) else some ((.exit 0), (well_big_x1_1 a3 s0 h)) := by kernel_rfl
theorem well_big_e1_0 (C : CallF) (L : LoopF) (G : Glo) (h0 : AHeap) (b2 : Bool) (h : AHeap) :
    (well_big_k3 C L G h0) .ret (well_big_x1_0 b2 h) =
    some ([(.c (.bool b2))], h) := by kernel_rfl
theorem well_big_e1_1 (C : CallF) (L : LoopF) (G : Glo) (h0 : AHeap) (a3 : Int) (s0 : List Cell) (h : AHeap) :
    (well_big_k3 C L G h0) (.exit 0) (well_big_x1_1 a3 s0 h) =
    atK s0 2 fun q_10 => lenK q_10 fun n_11 => scK (n_11 == 0) false (atK s0 2 fun q_12 => lenK q_12 fun n_13 => some ((decide (n_13 > 4)), h)) true h fun b_14 h_15 => scK b_14 false (some ((decide (a3 > 24)), h_15)) true h_15 fun b_16 h_17 => scK b_16 false (if 0 = 0 ∧ s0.length = 5 then c1 (C 117 [(.agg s0)] h_17) fun y_19 h_18 => asC y_19 fun x_20 => lenK x_20 fun n_21 => some ((decide (n_21 > 4)), h_18) else none) true h_17 fun b_22 h_23 => scK b_22 false (atK s0 4 fun q_24 => lenK q_24 fun n_25 => some ((decide (n_25 > 8)), h_23)) true h_23 fun b_26 h_27 => scK b_26 false (atK s0 4 fun q_28 => c1 (C 146 [(.c q_28), (.c (.fn 145 []))] h_27) fun y_30 h_29 => asB y_30 fun b_31 => some (b_31, h_29)) true h_27 fun b_32 h_33 => scK b_32 false (atK s0 0 fun q_34 => asS (.c q_34) fun z_35 => lenSK (.str z_35) fun n_36 => some ((decide (n_36 > 20)), h_33)) true h_33 fun b_37 h_38 => some ([(.c (.bool b_37))], h_38) := by kernel_rfl
set_option maxRecDepth 100000 in
theorem well_big_eq (C : CallF) (L : LoopF) (G : Glo) (l0 : List Cell) (h0 : AHeap) :
    well_big.body C L G [(.agg l0)] h0 =
    atK l0 2 fun q_1 => lenK q_1 fun n_2 => (L (well_big_F1 C L G) (well_big_s1 0 q_1 n_2 0 l0 h0)).bind fun p_39 => (well_big_k3 C L G h0) p_39.1 p_39.2 := by kernel_rfl

/- jacquard/well.twice: 128 -/
def well_twice_k2 (C : CallF) (L : LoopF) (G : Glo) (h0 : AHeap) : Ex → St → Option (List AV × AHeap) :=
  kSeq (fun st => well_twice_p1.exec C L G st (well_twice.fin G h0)) (well_twice.fin G h0)
def well_twice_k3 (C : CallF) (L : LoopF) (G : Glo) (h0 : AHeap) : Ex → St → Option (List AV × AHeap) :=
  kBlk 0 (well_twice_k2 C L G h0)
def well_twice_s1 (a3 : Int) (x6 : Cell) (a7 : Int) (a8 : Int) (h : AHeap) : St := ⟨[.top, .top, .top, .v (.c (.int .u64 a3)), .top, .top, .v (.c x6), .v (.c (.int .i64 a7)), .v (.c (.int .i64 a8)), .top, .top, .top, .top, .top, .top, .top, .top, .top, .top, .top, .top, .top, .top, .top, .top, .top], [none], h⟩
def well_twice_F1 (C : CallF) (L : LoopF) (G : Glo) : St → Option (Ex × St) :=
  roundF (fun st f => well_twice_b1.exec C L G st f) [3, 6, 7, 8] [] [(0, [2], []), (1, [], [])]
def well_twice_x1_0 (b2 : Bool) (h : AHeap) : St := ⟨[.top, .top, .v (.c (.bool b2)), .top, .top, .top, .top, .top, .top, .top, .top, .top, .top, .top, .top, .top, .top, .top, .top, .top, .top, .top, .top, .top, .top, .top], [none], h⟩
def well_twice_x1_1 (h : AHeap) : St := ⟨[.top, .top, .top, .top, .top, .top, .top, .top, .top, .top, .top, .top, .top, .top, .top, .top, .top, .top, .top, .top, .top, .top, .top, .top, .top, .top], [none], h⟩
theorem well_twice_r1 (C : CallF) (L : LoopF) (G : Glo) (a3 : Int) (x6 : Cell) (a7 : Int) (a8 : Int) (h : AHeap) :
    well_twice_F1 C L G (well_twice_s1 a3 x6 a7 a8 h) =
    if (decide (a8 < a7)) = true then idxSK 2 x6 a8 fun k_2 N_3 o_4 => rdH h k_2 N_3 fun l_5 => if o_4 + 2 ≤ l_5.length then if 0 = 0 ∧ [Cell.int .i64 0, Cell.int .i64 0].length = 2 ∧ ((l_5.drop o_4).take 2).length = 2 then atK ((l_5.drop o_4).take 2) 0 fun q_6 => asI .i64 (.c q_6) fun n_7 => if (G.wrap .i64 (n_7 - 97)) < 0 then none else let v_8 : Int := (G.band .u64 (G.shr .u64 a3 (G.wrap .i64 (n_7 - 97))) 1); if (v_8 == 1) = true then some (.ret, (well_twice_x1_0 true h)) else atK ((l_5.drop o_4).take 2) 0 fun q_9 => asI .i64 (.c q_9) fun n_10 => if (G.wrap .i64 (n_10 - 97)) < 0 then none else let v_11 : Int := (G.bor .u64 a3 (G.shl .u64 1 (G.wrap .i64 (n_10 - 97)))); some (.normal, (well_twice_s1 v_11 x6 a7 (G.wrap .i64 (a8 + 1)) h)) else none else none else some ((.exit 0), (well_twice_x1_1 h)) := by kernel_rfl
theorem well_twice_e1_0 (C : CallF) (L : LoopF) (G : Glo) (h0 : AHeap) (b2 : Bool) (h : AHeap) :
    (well_twice_k3 C L G h0) .ret (well_twice_x1_0 b2 h) =
    some ([(.c (.bool b2))], h) := by kernel_rfl
theorem well_twice_e1_1 (C : CallF) (L : LoopF) (G : Glo) (h0 : AHeap) (h : AHeap) :
    (well_twice_k3 C L G h0) (.exit 0) (well_twice_x1_1 h) =
    some ([(.c (.bool false))], h) := by kernel_rfl
set_option maxRecDepth 100000 in
theorem well_twice_eq (C : CallF) (L : LoopF) (G : Glo) (x0 : Cell) (h0 : AHeap) :
    well_twice.body C L G [(.c x0)] h0 =
    lenK x0 fun n_1 => (L (well_twice_F1 C L G) (well_twice_s1 0 x0 n_1 0 h0)).bind fun p_12 => (well_twice_k3 C L G h0) p_12.1 p_12.2 := by kernel_rfl

/- jacquard/well.Check$1: 129 -/
set_option maxRecDepth 100000 in
theorem well_Check_1_eq (C : CallF) (L : LoopF) (G : Glo) (x0 : Cell) (h0 : AHeap) :
    well_Check_1.body C L G [(.c x0)] h0 =
    c1 (C 148 [(.c x0)] h0) fun y_2 h_1 => asB y_2 fun b_3 => some ([(.c (.bool (!b_3)))], h_1) := by kernel_rfl

/- jacquard/well.Check$2: 131 -/
set_option maxRecDepth 100000 in
theorem well_Check_2_eq (C : CallF) (L : LoopF) (G : Glo) (l0 : List Cell) (k1 : Nat) (N1 : Nat) (o1 : Nat) (h0 : AHeap) :
    well_Check_2.body C L G [(.agg l0), (.c (.ptr k1 N1 o1))] h0 =
    atK l0 0 fun q_1 => asI .i64 (.c q_1) fun n_2 => scK (n_2 != (-1)) true (atK l0 0 fun q_3 => asI .i64 (.c q_3) fun n_4 => rdH h0 k1 N1 fun l_5 => atK l_5 (o1 + 2) fun q_6 => lenK q_6 fun n_7 => some ((decide (n_4 ≥ n_7)), h0)) false h0 fun b_8 h_9 => some ([(.c (.bool b_8))], h_9) := by kernel_rfl

/- jacquard/well.letters: 133 -/
def well_letters_k2 (C : CallF) (L : LoopF) (G : Glo) (h0 : AHeap) : Ex → St → Option (List AV × AHeap) :=
  kSeq (fun st => well_letters_p1.exec C L G st (well_letters.fin G h0)) (well_letters.fin G h0)
def well_letters_k3 (C : CallF) (L : LoopF) (G : Glo) (h0 : AHeap) : Ex → St → Option (List AV × AHeap) :=
  kBlk 0 (well_letters_k2 C L G h0)
def well_letters_s1 (k3 : Nat) (N3 : Nat) (o3 : Nat) (x4 : Cell) (x17 : Cell) (a18 : Int) (a19 : Int) (s0 : List Cell) (h : AHeap) : St := ⟨[.top, .loc 0 0, .top, .v (.c (.ptr k3 N3 o3)), .v (.c x4), .top, .top, .top, .top, .top, .top, .top, .top, .top, .top, .top, .top, .v (.c x17), .v (.c (.int .i64 a18)), .v (.c (.int .i64 a19)), .top, .top, .top, .top, .top, .top, .top, .top, .top, .top, .top, .top, .top, .top, .top, .top, .top, .top, .top, .top, .top, .top, .top, .top, .top, .top, .top, .top, .top, .top, .top, .top, .top, .top, .top, .top, .top, .top, .top, .top, .top, .top, .top, .top, .top, .top, .top, .top], [some s0, none, none, none], h⟩
def well_letters_F1 (C : CallF) (L : LoopF) (G : Glo) : St → Option (Ex × St) :=
  roundF (fun st f => well_letters_b1.exec C L G st f) [1, 3, 4, 17, 18, 19] [0] [(1, [1, 3, 4], [0])]
def well_letters_x1_1 (k3 : Nat) (N3 : Nat) (o3 : Nat) (x4 : Cell) (s0 : List Cell) (h : AHeap) : St := ⟨[.top, .loc 0 0, .top, .v (.c (.ptr k3 N3 o3)), .v (.c x4), .top, .top, .top, .top, .top, .top, .top, .top, .top, .top, .top, .top, .top, .top, .top, .top, .top, .top, .top, .top, .top, .top, .top, .top, .top, .top, .top, .top, .top, .top, .top, .top, .top, .top, .top, .top, .top, .top, .top, .top, .top, .top, .top, .top, .top, .top, .top, .top, .top, .top, .top, .top, .top, .top, .top, .top, .top, .top, .top, .top, .top, .top, .top], [some s0, none, none, none], h⟩
def well_letters_k4 (C : CallF) (L : LoopF) (G : Glo) (h0 : AHeap) : Ex → St → Option (List AV × AHeap) :=
  kSeq (fun st => well_letters_p2.exec C L G st (well_letters.fin G h0)) (well_letters.fin G h0)
def well_letters_k5 (C : CallF) (L : LoopF) (G : Glo) (h0 : AHeap) : Ex → St → Option (List AV × AHeap) :=
  kBlk 2 (well_letters_k4 C L G h0)
def well_letters_s3 (k3 : Nat) (N3 : Nat) (o3 : Nat) (x4 : Cell) (x29 : Cell) (a30 : Int) (a31 : Int) (s0 : List Cell) (h : AHeap) : St := ⟨[.top, .loc 0 0, .top, .v (.c (.ptr k3 N3 o3)), .v (.c x4), .top, .top, .top, .top, .top, .top, .top, .top, .top, .top, .top, .top, .top, .top, .top, .top, .top, .top, .top, .top, .top, .top, .top, .top, .v (.c x29), .v (.c (.int .i64 a30)), .v (.c (.int .i64 a31)), .top, .top, .top, .top, .top, .top, .top, .top, .top, .top, .top, .top, .top, .top, .top, .top, .top, .top, .top, .top, .top, .top, .top, .top, .top, .top, .top, .top, .top, .top, .top, .top, .top, .top, .top, .top], [some s0, none, none, none], h⟩
def well_letters_F3 (C : CallF) (L : LoopF) (G : Glo) : St → Option (Ex × St) :=
  roundF (fun st f => well_letters_b3.exec C L G st f) [1, 3, 4, 29, 30, 31] [0] [(3, [1, 3, 4], [0])]
def well_letters_k6 (C : CallF) (L : LoopF) (G : Glo) : Ex → St → Option (Ex × St) :=
  kSeq (fun st => well_letters_p3.exec C L G st (kLoop [1, 3, 4, 29, 30, 31] [0] [(3, [1, 3, 4], [0])])) (kLoop [1, 3, 4, 29, 30, 31] [0] [(3, [1, 3, 4], [0])])
def well_letters_k7 (C : CallF) (L : LoopF) (G : Glo) : Ex → St → Option (Ex × St) :=
  kBlk 3 (well_letters_k6 C L G)
def well_letters_k8 (C : CallF) (L : LoopF) (G : Glo) : Ex → St → Option (Ex × St) :=
  kBlk 4 (well_letters_k7 C L G)
def well_letters_s2 (k3 : Nat) (N3 : Nat) (o3 : Nat) (x4 : Cell) (x29 : Cell) (a30 : Int) (a31 : Int) (x35 : Cell) (a36 : Int) (a37 : Int) (s0 : List Cell) (h : AHeap) : St := ⟨[.top, .loc 0 0, .top, .v (.c (.ptr k3 N3 o3)), .v (.c x4), .top, .top, .top, .top, .top, .top, .top, .top, .top, .top, .top, .top, .top, .top, .top, .top, .top, .top, .top, .top, .top, .top, .top, .top, .v (.c x29), .v (.c (.int .i64 a30)), .v (.c (.int .i64 a31)), .top, .top, .top, .v (.c x35), .v (.c (.int .i64 a36)), .v (.c (.int .i64 a37)), .top, .top, .top, .top, .top, .top, .top, .top, .top, .top, .top, .top, .top, .top, .top, .top, .top, .top, .top, .top, .top, .top, .top, .top, .top, .top, .top, .top, .top, .top], [some s0, none, none, none], h⟩
def well_letters_F2 (C : CallF) (L : LoopF) (G : Glo) : St → Option (Ex × St) :=
  roundF (fun st f => well_letters_b2.exec C L G st f) [1, 3, 4, 29, 30, 31, 35, 36, 37] [0] [(5, [1, 3, 4, 29, 30, 31], [0])]
def well_letters_x2_5 (k3 : Nat) (N3 : Nat) (o3 : Nat) (x4 : Cell) (x29 : Cell) (a30 : Int) (a31 : Int) (s0 : List Cell) (h : AHeap) : St := ⟨[.top, .loc 0 0, .top, .v (.c (.ptr k3 N3 o3)), .v (.c x4), .top, .top, .top, .top, .top, .top, .top, .top, .top, .top, .top, .top, .top, .top, .top, .top, .top, .top, .top, .top, .top, .top, .top, .top, .v (.c x29), .v (.c (.int .i64 a30)), .v (.c (.int .i64 a31)), .top, .top, .top, .top, .top, .top, .top, .top, .top, .top, .top, .top, .top, .top, .top, .top, .top, .top, .top, .top, .top, .top, .top, .top, .top, .top, .top, .top, .top, .top, .top, .top, .top, .top, .top, .top], [some s0, none, none, none], h⟩
def well_letters_x3_3 (k3 : Nat) (N3 : Nat) (o3 : Nat) (x4 : Cell) (s0 : List Cell) (h : AHeap) : St := ⟨[.top, .loc 0 0, .top, .v (.c (.ptr k3 N3 o3)), .v (.c x4), .top, .top, .top, .top, .top, .top, .top, .top, .top, .top, .top, .top, .top, .top, .top, .top, .top, .top, .top, .top, .top, .top, .top, .top, .top, .top, .top, .top, .top, .top, .top, .top, .top, .top, .top, .top, .top, .top, .top, .top, .top, .top, .top, .top, .top, .top, .top, .top, .top, .top, .top, .top, .top, .top, .top, .top, .top, .top, .top, .top, .top, .top, .top], [some s0, none, none, none], h⟩
def well_letters_k9 (C : CallF) (L : LoopF) (G : Glo) (h0 : AHeap) : Ex → St → Option (List AV × AHeap) :=
  kSeq (fun st => well_letters_p4.exec C L G st (well_letters.fin G h0)) (well_letters.fin G h0)
def well_letters_k10 (C : CallF) (L : LoopF) (G : Glo) (h0 : AHeap) : Ex → St → Option (List AV × AHeap) :=
  kBlk 6 (well_letters_k9 C L G h0)
def well_letters_s5 (k3 : Nat) (N3 : Nat) (o3 : Nat) (x4 : Cell) (x49 : Cell) (a50 : Int) (a51 : Int) (h : AHeap) : St := ⟨[.top, .top, .top, .v (.c (.ptr k3 N3 o3)), .v (.c x4), .top, .top, .top, .top, .top, .top, .top, .top, .top, .top, .top, .top, .top, .top, .top, .top, .top, .top, .top, .top, .top, .top, .top, .top, .top, .top, .top, .top, .top, .top, .top, .top, .top, .top, .top, .top, .top, .top, .top, .top, .top, .top, .top, .top, .v (.c x49), .v (.c (.int .i64 a50)), .v (.c (.int .i64 a51)), .top, .top, .top, .top, .top, .top, .top, .top, .top, .top, .top, .top, .top, .top, .top, .top], [none, none, none, none], h⟩
def well_letters_F5 (C : CallF) (L : LoopF) (G : Glo) : St → Option (Ex × St) :=
  roundF (fun st f => well_letters_b5.exec C L G st f) [3, 4, 49, 50, 51] [] [(7, [3], [])]
def well_letters_k11 (C : CallF) (L : LoopF) (G : Glo) : Ex → St → Option (Ex × St) :=
  kSeq (fun st => well_letters_p5.exec C L G st (kLoop [3, 4, 49, 50, 51] [] [(7, [3], [])])) (kLoop [3, 4, 49, 50, 51] [] [(7, [3], [])])
def well_letters_k12 (C : CallF) (L : LoopF) (G : Glo) : Ex → St → Option (Ex × St) :=
  kBlk 7 (well_letters_k11 C L G)
def well_letters_k13 (C : CallF) (L : LoopF) (G : Glo) : Ex → St → Option (Ex × St) :=
  kBlk 8 (well_letters_k12 C L G)
def well_letters_s4 (k3 : Nat) (N3 : Nat) (o3 : Nat) (x4 : Cell) (x49 : Cell) (a50 : Int) (a51 : Int) (x55 : Cell) (a56 : Int) (a57 : Int) (h : AHeap) : St := ⟨[.top, .top, .top, .v (.c (.ptr k3 N3 o3)), .v (.c x4), .top, .top, .top, .top, .top, .top, .top, .top, .top, .top, .top, .top, .top, .top, .top, .top, .top, .top, .top, .top, .top, .top, .top, .top, .top, .top, .top, .top, .top, .top, .top, .top, .top, .top, .top, .top, .top, .top, .top, .top, .top, .top, .top, .top, .v (.c x49), .v (.c (.int .i64 a50)), .v (.c (.int .i64 a51)), .top, .top, .top, .v (.c x55), .v (.c (.int .i64 a56)), .v (.c (.int .i64 a57)), .top, .top, .top, .top, .top, .top, .top, .top, .top, .top], [none, none, none, none], h⟩
def well_letters_F4 (C : CallF) (L : LoopF) (G : Glo) : St → Option (Ex × St) :=
  roundF (fun st f => well_letters_b4.exec C L G st f) [3, 4, 49, 50, 51, 55, 56, 57] [] [(9, [3, 4, 49, 50, 51], [])]
def well_letters_x4_9 (k3 : Nat) (N3 : Nat) (o3 : Nat) (x4 : Cell) (x49 : Cell) (a50 : Int) (a51 : Int) (h : AHeap) : St := ⟨[.top, .top, .top, .v (.c (.ptr k3 N3 o3)), .v (.c x4), .top, .top, .top, .top, .top, .top, .top, .top, .top, .top, .top, .top, .top, .top, .top, .top, .top, .top, .top, .top, .top, .top, .top, .top, .top, .top, .top, .top, .top, .top, .top, .top, .top, .top, .top, .top, .top, .top, .top, .top, .top, .top, .top, .top, .v (.c x49), .v (.c (.int .i64 a50)), .v (.c (.int .i64 a51)), .top, .top, .top, .top, .top, .top, .top, .top, .top, .top, .top, .top, .top, .top, .top, .top], [none, none, none, none], h⟩
def well_letters_x5_7 (k3 : Nat) (N3 : Nat) (o3 : Nat) (h : AHeap) : St := ⟨[.top, .top, .top, .v (.c (.ptr k3 N3 o3)), .top, .top, .top, .top, .top, .top, .top, .top, .top, .top, .top, .top, .top, .top, .top, .top, .top, .top, .top, .top, .top, .top, .top, .top, .top, .top, .top, .top, .top, .top, .top, .top, .top, .top, .top, .top, .top, .top, .top, .top, .top, .top, .top, .top, .top, .top, .top, .top, .top, .top, .top, .top, .top, .top, .top, .top, .top, .top, .top, .top, .top, .top, .top, .top], [none, none, none, none], h⟩
theorem well_letters_r1 (C : CallF) (L : LoopF) (G : Glo) (k3 : Nat) (N3 : Nat) (o3 : Nat) (x4 : Cell) (x17 : Cell) (a18 : Int) (a19 : Int) (s0 : List Cell) (h : AHeap) :
    well_letters_F1 C L G (well_letters_s1 k3 N3 o3 x4 x17 a18 a19 s0 h) =
    if (decide (a19 < a18)) = true then idxSK 2 x17 a19 fun k_3 N_4 o_5 => rdH h k_3 N_4 fun l_6 => if o_5 + 2 ≤ l_6.length then if 0 = 0 ∧ [Cell.int .i64 0, Cell.int .i64 0].length = 2 ∧ ((l_6.drop o_5).take 2).length = 2 then atK ((l_6.drop o_5).take 2) 0 fun q_7 => asI .i64 (.c q_7) fun n_8 => fnK x4 fun g_9 l_10 => c0 (C g_9 ([(.c (.int .i64 n_8))] ++ l_10) h) fun h_11 => some (.normal, (well_letters_s1 k3 N3 o3 x4 x17 a18 (G.wrap .i64 (a19 + 1)) s0 h_11)) else none else none else some ((.exit 0), (well_letters_x1_1 k3 N3 o3 x4 s0 h)) := by kernel_rfl
theorem well_letters_r2 (C : CallF) (L : LoopF) (G : Glo) (k3 : Nat) (N3 : Nat) (o3 : Nat) (x4 : Cell) (x29 : Cell) (a30 : Int) (a31 : Int) (x35 : Cell) (a36 : Int) (a37 : Int) (s0 : List Cell) (h : AHeap) :
    well_letters_F2 C L G (well_letters_s2 k3 N3 o3 x4 x29 a30 a31 x35 a36 a37 s0 h) =
    if (decide (a37 < a36)) = true then idxSK 9 x35 a37 fun k_20 N_21 o_22 => rdH h k_20 N_21 fun l_23 => if o_22 + 9 ≤ l_23.length then if 0 = 0 ∧ (List.replicate 9 (Cell.int .i64 0)).length = 9 ∧ ((l_23.drop o_22).take 9).length = 9 then atK ((l_23.drop o_22).take 9) 2 fun q_24 => asI .i64 (.c q_24) fun n_25 => fnK x4 fun g_26 l_27 => c0 (C g_26 ([(.c (.int .i64 n_25))] ++ l_27) h) fun h_28 => some (.normal, (well_letters_s2 k3 N3 o3 x4 x29 a30 a31 x35 a36 (G.wrap .i64 (a37 + 1)) s0 h_28)) else none else none else some ((.exit 4), (well_letters_x2_5 k3 N3 o3 x4 x29 a30 a31 s0 h)) := by kernel_rfl
theorem well_letters_e2_5 (C : CallF) (L : LoopF) (G : Glo) (k3 : Nat) (N3 : Nat) (o3 : Nat) (x4 : Cell) (x29 : Cell) (a30 : Int) (a31 : Int) (s0 : List Cell) (h : AHeap) :
    (well_letters_k8 C L G) (.exit 4) (well_letters_x2_5 k3 N3 o3 x4 x29 a30 a31 s0 h) =
    some (.normal, (well_letters_s3 k3 N3 o3 x4 x29 a30 (G.wrap .i64 (a31 + 1)) s0 h)) := by kernel_rfl
theorem well_letters_r3 (C : CallF) (L : LoopF) (G : Glo) (k3 : Nat) (N3 : Nat) (o3 : Nat) (x4 : Cell) (x29 : Cell) (a30 : Int) (a31 : Int) (s0 : List Cell) (h : AHeap) :
    well_letters_F3 C L G (well_letters_s3 k3 N3 o3 x4 x29 a30 a31 s0 h) =
    if (decide (a31 < a30)) = true then idxSK 1 x29 a31 fun k_14 N_15 o_16 => rdH h k_14 N_15 fun l_17 => atK l_17 o_16 fun q_18 => lenK q_18 fun n_19 => (L (well_letters_F2 C L G) (well_letters_s2 k3 N3 o3 x4 x29 a30 a31 q_18 n_19 0 s0 h)).bind fun p_29 => (well_letters_k8 C L G) p_29.1 p_29.2 else some ((.exit 2), (well_letters_x3_3 k3 N3 o3 x4 s0 h)) := by kernel_rfl
theorem well_letters_r4 (C : CallF) (L : LoopF) (G : Glo) (k3 : Nat) (N3 : Nat) (o3 : Nat) (x4 : Cell) (x49 : Cell) (a50 : Int) (a51 : Int) (x55 : Cell) (a56 : Int) (a57 : Int) (h : AHeap) :
    well_letters_F4 C L G (well_letters_s4 k3 N3 o3 x4 x49 a50 a51 x55 a56 a57 h) =
    if (decide (a57 < a56)) = true then idxSK 4 x55 a57 fun k_38 N_39 o_40 => rdH h k_38 N_39 fun l_41 => if o_40 + 4 ≤ l_41.length then if 0 = 0 ∧ [Cell.int .i64 0, Cell.int .i64 0, Cell.int .i64 0, Cell.int .i64 0].length = 4 ∧ ((l_41.drop o_40).take 4).length = 4 then atK ((l_41.drop o_40).take 4) 2 fun q_42 => asI .i64 (.c q_42) fun n_43 => fnK x4 fun g_44 l_45 => c0 (C g_44 ([(.c (.int .i64 n_43))] ++ l_45) h) fun h_46 => some (.normal, (well_letters_s4 k3 N3 o3 x4 x49 a50 a51 x55 a56 (G.wrap .i64 (a57 + 1)) h_46)) else none else none else some ((.exit 8), (well_letters_x4_9 k3 N3 o3 x4 x49 a50 a51 h)) := by kernel_rfl
theorem well_letters_e4_9 (C : CallF) (L : LoopF) (G : Glo) (k3 : Nat) (N3 : Nat) (o3 : Nat) (x4 : Cell) (x49 : Cell) (a50 : Int) (a51 : Int) (h : AHeap) :
    (well_letters_k13 C L G) (.exit 8) (well_letters_x4_9 k3 N3 o3 x4 x49 a50 a51 h) =
    some (.normal, (well_letters_s5 k3 N3 o3 x4 x49 a50 (G.wrap .i64 (a51 + 1)) h)) := by kernel_rfl
theorem well_letters_r5 (C : CallF) (L : LoopF) (G : Glo) (k3 : Nat) (N3 : Nat) (o3 : Nat) (x4 : Cell) (x49 : Cell) (a50 : Int) (a51 : Int) (h : AHeap) :
    well_letters_F5 C L G (well_letters_s5 k3 N3 o3 x4 x49 a50 a51 h) =
    if (decide (a51 < a50)) = true then idxSK 1 x49 a51 fun k_32 N_33 o_34 => rdH h k_32 N_33 fun l_35 => atK l_35 o_34 fun q_36 => lenK q_36 fun n_37 => (L (well_letters_F4 C L G) (well_letters_s4 k3 N3 o3 x4 x49 a50 a51 q_36 n_37 0 h)).bind fun p_47 => (well_letters_k13 C L G) p_47.1 p_47.2 else some ((.exit 6), (well_letters_x5_7 k3 N3 o3 h)) := by kernel_rfl
theorem well_letters_e5_7 (C : CallF) (L : LoopF) (G : Glo) (h0 : AHeap) (k3 : Nat) (N3 : Nat) (o3 : Nat) (h : AHeap) :
    (well_letters_k10 C L G h0) (.exit 6) (well_letters_x5_7 k3 N3 o3 h) =
    rdH h k3 N3 fun l_48 => atK l_48 o3 fun q_49 => asI .u64 (.c q_49) fun n_50 => finish true h0 [(.c (.int .u64 n_50))] h := by kernel_rfl
theorem well_letters_e3_3 (C : CallF) (L : LoopF) (G : Glo) (h0 : AHeap) (k3 : Nat) (N3 : Nat) (o3 : Nat) (x4 : Cell) (s0 : List Cell) (h : AHeap) :
    (well_letters_k5 C L G h0) (.exit 2) (well_letters_x3_3 k3 N3 o3 x4 s0 h) =
    atK s0 4 fun q_30 => lenK q_30 fun n_31 => (L (well_letters_F5 C L G) (well_letters_s5 k3 N3 o3 x4 q_30 n_31 0 h)).bind fun p_51 => (well_letters_k10 C L G h0) p_51.1 p_51.2 := by kernel_rfl
theorem well_letters_e1_1 (C : CallF) (L : LoopF) (G : Glo) (h0 : AHeap) (k3 : Nat) (N3 : Nat) (o3 : Nat) (x4 : Cell) (s0 : List Cell) (h : AHeap) :
    (well_letters_k3 C L G h0) (.exit 0) (well_letters_x1_1 k3 N3 o3 x4 s0 h) =
    atK s0 2 fun q_12 => lenK q_12 fun n_13 => (L (well_letters_F3 C L G) (well_letters_s3 k3 N3 o3 x4 q_12 n_13 0 s0 h)).bind fun p_52 => (well_letters_k5 C L G h0) p_52.1 p_52.2 := by kernel_rfl
set_option maxRecDepth 100000 in
theorem well_letters_eq (C : CallF) (L : LoopF) (G : Glo) (l0 : List Cell) (h0 : AHeap) :
    well_letters.body C L G [(.agg l0)] h0 =
    atK l0 1 fun q_1 => lenK q_1 fun n_2 => (L (well_letters_F1 C L G) (well_letters_s1 h0.length (([Cell.int .u64 0]).length) 0 (.fn 150 [(h0.length, ([Cell.int .u64 0]).length, 0)]) q_1 n_2 0 l0 (h0 ++ [some (Blk.mk true 0 ([Cell.int .u64 0]))]))).bind fun p_53 => (well_letters_k3 C L G h0) p_53.1 p_53.2 := by kernel_rfl

/- jacquard/well.big$1: 145 -/
set_option maxRecDepth 100000 in
theorem well_big_1_eq (C : CallF) (L : LoopF) (G : Glo) (x0 : Cell) (h0 : AHeap) :
    well_big_1.body C L G [(.c x0)] h0 =
    lenK x0 fun n_1 => some ([(.c (.bool (decide (n_1 > 8))))], h0) := by kernel_rfl

/- jacquard/well.Jumps: 148 -/
def well_Jumps_k2 (C : CallF) (L : LoopF) (G : Glo) (h0 : AHeap) : Ex → St → Option (List AV × AHeap) :=
  kSeq (fun st => well_Jumps_p1.exec C L G st (well_Jumps.fin G h0)) (well_Jumps.fin G h0)
def well_Jumps_k3 (C : CallF) (L : LoopF) (G : Glo) (h0 : AHeap) : Ex → St → Option (List AV × AHeap) :=
  kBlk 0 (well_Jumps_k2 C L G h0)
def well_Jumps_s1 (x0 : Cell) (x5 : Cell) (a6 : Int) (a7 : Int) (h : AHeap) : St := ⟨[.v (.c x0), .top, .top, .top, .top, .v (.c x5), .v (.c (.int .i64 a6)), .v (.c (.int .i64 a7)), .top, .top, .top, .top, .top, .top, .top, .top, .top, .top, .top, .top, .top, .top, .top, .top, .top, .top, .top, .top, .top, .top, .top], [none], h⟩
def well_Jumps_F1 (C : CallF) (L : LoopF) (G : Glo) : St → Option (Ex × St) :=
  roundF (fun st f => well_Jumps_b1.exec C L G st f) [0, 5, 6, 7] [] [(0, [2], []), (1, [], [])]
def well_Jumps_x1_0 (b2 : Bool) (h : AHeap) : St := ⟨[.top, .top, .v (.c (.bool b2)), .top, .top, .top, .top, .top, .top, .top, .top, .top, .top, .top, .top, .top, .top, .top, .top, .top, .top, .top, .top, .top, .top, .top, .top, .top, .top, .top, .top], [none], h⟩
def well_Jumps_x1_1 (h : AHeap) : St := ⟨[.top, .top, .top, .top, .top, .top, .top, .top, .top, .top, .top, .top, .top, .top, .top, .top, .top, .top, .top, .top, .top, .top, .top, .top, .top, .top, .top, .top, .top, .top, .top], [none], h⟩
theorem well_Jumps_r1 (C : CallF) (L : LoopF) (G : Glo) (x0 : Cell) (x5 : Cell) (a6 : Int) (a7 : Int) (h : AHeap) :
    well_Jumps_F1 C L G (well_Jumps_s1 x0 x5 a6 a7 h) =
    if (decide (a7 < a6)) = true then idxSK 9 x5 a7 fun k_2 N_3 o_4 => rdH h k_2 N_3 fun l_5 => if o_4 + 9 ≤ l_5.length then if 0 = 0 ∧ (List.replicate 9 (Cell.int .i64 0)).length = 9 ∧ ((l_5.drop o_4).take 9).length = 9 then atK ((l_5.drop o_4).take 9) 0 fun q_6 => asI .i64 (.c q_6) fun n_7 => scK (n_7 == 6) true (atK ((l_5.drop o_4).take 9) 8 fun q_8 => asI .i64 (.c q_8) fun n_9 => scK (decide (n_9 < 1)) false (atK ((l_5.drop o_4).take 9) 8 fun q_10 => asI .i64 (.c q_10) fun n_11 => lenK x0 fun n_12 => let v_13 : Int := (G.wrap .i64 ((G.wrap .i64 (n_12 - a7)) - 1)); some ((decide (n_11 > v_13)), h)) true h fun b_14 h_15 => some (b_14, h_15)) false h fun b_16 h_17 => if b_16 = true then some (.ret, (well_Jumps_x1_0 false h_17)) else some (.normal, (well_Jumps_s1 x0 x5 a6 (G.wrap .i64 (a7 + 1)) h_17)) else none else none else some ((.exit 0), (well_Jumps_x1_1 h)) := by kernel_rfl
theorem well_Jumps_e1_0 (C : CallF) (L : LoopF) (G : Glo) (h0 : AHeap) (b2 : Bool) (h : AHeap) :
    (well_Jumps_k3 C L G h0) .ret (well_Jumps_x1_0 b2 h) =
    some ([(.c (.bool b2))], h) := by kernel_rfl
theorem well_Jumps_e1_1 (C : CallF) (L : LoopF) (G : Glo) (h0 : AHeap) (h : AHeap) :
    (well_Jumps_k3 C L G h0) (.exit 0) (well_Jumps_x1_1 h) =
    some ([(.c (.bool true))], h) := by kernel_rfl
set_option maxRecDepth 100000 in
theorem well_Jumps_eq (C : CallF) (L : LoopF) (G : Glo) (x0 : Cell) (h0 : AHeap) :
    well_Jumps.body C L G [(.c x0)] h0 =
    lenK x0 fun n_1 => (L (well_Jumps_F1 C L G) (well_Jumps_s1 x0 x0 n_1 0 h0)).bind fun p_18 => (well_Jumps_k3 C L G h0) p_18.1 p_18.2 := by kernel_rfl

/- jacquard/well.letters$1: 150 -/
set_option maxRecDepth 100000 in
theorem well_letters_1_eq (C : CallF) (L : LoopF) (G : Glo) (a0 : Int) (k1 : Nat) (N1 : Nat) (o1 : Nat) (h0 : AHeap) :
    well_letters_1.body C L G [(.c (.int .i64 a0)), (.c (.ptr k1 N1 o1))] h0 =
    c1 (C 158 [(.c (.int .i64 a0))] h0) fun y_2 h_1 => asB y_2 fun b_3 => if b_3 = true then rdH h_1 k1 N1 fun l_4 => atK l_4 o1 fun q_5 => asI .u64 (.c q_5) fun n_6 => if (G.wrap .i64 (a0 - 97)) < 0 then none else let v_7 : Int := (G.bor .u64 n_6 (G.shl .u64 1 (G.wrap .i64 (a0 - 97)))); rdH h_1 k1 N1 fun l_8 => if o1 < l_8.length then putH h_1 k1 (l_8.set o1 (.int .u64 v_7)) fun h_9 => some ([], h_9) else none else some ([], h_1) := by kernel_rfl


end Jq

/- Is a test small enough? -/
namespace Jq
open Go

/-- Is a letter named, as it stands? -/
def thereW (T : PTest) (b : Nat) : Bool := (T.inits.any fun p => p.1 == (b : Int)) || (T.thr.any fun c => c.any fun i => i.loc == (b : Int)) || (T.any.any fun c => c.any fun a => a.loc == (b : Int))

def LtAt (h0 h : AHeap) (S : Nat → Bool) : Prop :=
  Kp h0.length h0 h ∧ ∃ m : Nat, m < 2 ^ 26 ∧ (∀ i, i < 26 → m.testBit i = S (97 + i)) ∧ blk? h h0.length = some ⟨true, 0, [.int .u64 (m : Int)]⟩

theorem LtAt.congr {h0 h : AHeap} {S S' : Nat → Bool} (v : LtAt h0 h S) (hs : ∀ b, 97 ≤ b → b ≤ 122 → S' b = S b) : LtAt h0 h S' := by
  obtain ⟨k, m, m1, m2, m3⟩ := v
  exact ⟨k, m, m1, fun i hi => by rw [m2 i hi, hs (97 + i) (by omega) (by omega)], m3⟩

section
variable {E : Env}

theorem rdw {α : Type} {h : AHeap} {k : Nat} {a : Cell} (hk : blk? h k = some ⟨true, 0, [a]⟩) {F : List Cell → Option α} : rdH h k 1 F = F [a] := rdH_ok hk rfl

theorem add_step (hE : well_letters_1_In E) {h0 h : AHeap} {S S' : Nat → Bool} (v : LtAt h0 h S) (n : Int) (hs : ∀ b, 97 ≤ b → b ≤ 122 → S' b = (S b || n == (b : Int))) :
    ∃ h', (∀ {α : Type} (F : AHeap → Option α), (fnK (.fn 150 [(h0.length, 1, 0)]) fun g l => c0 (R E g ([.c (.int .i64 n)] ++ l) h) F) = F h') ∧ LtAt h0 h' S' := by
  obtain ⟨k, m, m1, m2, m3⟩ := v
  by_cases hl : locB n = true
  · have hr : 97 ≤ n ∧ n ≤ 122 := by unfold locB at hl; simpa using hl
    obtain ⟨q, hq⟩ : ∃ q : Nat, n - 97 = (q : Int) := ⟨(n - 97).toNat, by omega⟩
    have hq26 : q < 26 := by omega
    have hp : 2 ^ q < 2 ^ 26 := Nat.pow_lt_pow_right (by omega) hq26
    have hor : m ||| 2 ^ q < 2 ^ 26 := Nat.or_lt_two_pow m1 hp
    refine ⟨setBlk h h0.length (some ⟨true, 0, [.int .u64 ((m ||| 2 ^ q : Nat) : Int)]⟩), fun F => ?_, k.trans (Kp.set (Nat.le_refl _) _), m ||| 2 ^ q, hor, fun i hi => ?_, blk_set_self (blk_lt' m3) _⟩
    · show c0 (R E 150 ([.c (.int .i64 n)] ++ [.c (.ptr h0.length 1 0)]) h) F = _
      have hb : R E 150 [.c (.int .i64 n), .c (.ptr h0.length 1 0)] h = some ([], setBlk h h0.length (some ⟨true, 0, [.int .u64 ((m ||| 2 ^ q : Nat) : Int)]⟩)) := by
        refine R_intro hE.fn ?_
        rw [well_letters_1_eq, IsLoc_R hE.c158, c1_ok, asB_ok, if_pos hl, rdw m3, atK_ok (i := 0) (c := .int .u64 (m : Int)) rfl, asI_ok, g_wrap_i64 (by omega) (by omega), hq, if_neg (by omega)]
        dsimp only
        rw [rdw m3, if_pos (by simp), putH_ok m3 rfl, g_shl_one (by omega), g_bor (by omega) (by omega)]
        rfl
      rw [show ([AV.c (.int .i64 n)] ++ [.c (.ptr h0.length 1 0)]) = [.c (.int .i64 n), .c (.ptr h0.length 1 0)] from rfl, hb]; rfl
    · rw [Nat.testBit_or, Nat.testBit_two_pow, m2 i hi, hs (97 + i) (by omega) (by omega)]
      congr 1
      rw [Bool.eq_iff_iff]; simp; omega
  · have hr : ¬ (97 ≤ n ∧ n ≤ 122) := by unfold locB at hl; simpa using hl
    have hl' : locB n = false := by simpa using hl
    refine ⟨h, fun F => ?_, k, m, m1, fun i hi => ?_, m3⟩
    · show c0 (R E 150 ([.c (.int .i64 n)] ++ [.c (.ptr h0.length 1 0)]) h) F = _
      have hb : R E 150 [.c (.int .i64 n), .c (.ptr h0.length 1 0)] h = some ([], h) := by
        refine R_intro hE.fn ?_
        rw [well_letters_1_eq, IsLoc_R hE.c158, c1_ok, asB_ok, hl', if_neg (by simp)]
      rw [show ([AV.c (.int .i64 n)] ++ [.c (.ptr h0.length 1 0)]) = [.c (.int .i64 n), .c (.ptr h0.length 1 0)] from rfl, hb]; rfl
    · rw [m2 i hi, hs (97 + i) (by omega) (by omega), show (n == ((97 + i : Nat) : Int)) = false by rw [beq_eq_false_iff_ne]; omega, Bool.or_false]

theorem letters_R (hE : well_letters_In E) {cs : List Cell} {T : PTest} {h : AHeap} (p : TestAt h cs T) (hs : T.fits) :
    ∃ m : Nat, R E 133 [.agg cs] h = some ([.c (.int .u64 (m : Int))], h) ∧ m < 2 ^ 26 ∧ ∀ i, i < 26 → m.testBit i = thereW T (97 + i) := by
  obtain ⟨a, b, c, rfl, ⟨ha, hal⟩, hb, hc⟩ := p
  have a1 : ∀ {α : Type} (f : Cell → Option α), atK [.str T.name, a, b, .int .i64 T.ck, c] 1 f = f a := fun _ => rfl
  have a2 : ∀ {α : Type} (f : Cell → Option α), atK [.str T.name, a, b, .int .i64 T.ck, c] 2 f = f b := fun _ => rfl
  have a4 : ∀ {α : Type} (f : Cell → Option α), atK [.str T.name, a, b, .int .i64 T.ck, c] 4 f = f c := fun _ => rfl
  have n1 := hs.inits
  have n2 := hs.thr
  have n3 := hs.any
  have v0 : LtAt h (h ++ [some ⟨true, 0, [.int .u64 0]⟩]) (fun _ => false) := ⟨Kp.app _ (Nat.le_refl _), 0, by omega, fun i _ => by simp, blk_new _ _⟩
  obtain ⟨st1, ⟨h1, rfl, v1⟩, hL1⟩ := Lim_inv (F := well_letters_F1 (R E) Lim E.glob) (fun i st => ∃ h1, st = well_letters_s1 h.length 1 0 (.fn 150 [(h.length, 1, 0)]) a T.inits.length (i : Int) [.str T.name, a, b, .int .i64 T.ck, c] h1 ∧ LtAt h h1 (fun q => (T.inits.take i).any fun p => p.1 == (q : Int))) 0 T.inits.length (by omega)
    (fun i st _ hi => by
      rintro ⟨h1, rfl, v⟩
      have hq : T.inits[i]? = some T.inits[i] := List.getElem?_eq_getElem hi
      generalize T.inits[i] = q at hq
      obtain ⟨off, cc, g1, g2, g3⟩ := (ha.keep hal v.1).pairG hq
      obtain ⟨h2, f1, v2⟩ := add_step hE.c150 (S' := fun r => (T.inits.take (i + 1)).any fun p => p.1 == (r : Int)) v q.1 (fun r _ _ => any_take_succ hq _)
      refine ⟨_, ?_, h2, rfl, v2⟩
      rw [well_letters_r1, if_pos (by simp; omega), g1, if_pos g2, g3, if_pos ⟨rfl, rfl, rfl⟩, show ∀ {α : Type} (f : Cell → Option α), atK (pairCs q) 0 f = f (.int .i64 q.1) from fun _ => rfl, asI_ok, f1, g_succ (by omega)]) (st := well_letters_s1 h.length 1 0 (.fn 150 [(h.length, 1, 0)]) a T.inits.length ((0 : Nat) : Int) [.str T.name, a, b, .int .i64 T.ck, c] (h ++ [some ⟨true, 0, [.int .u64 0]⟩])) ⟨_, rfl, v0.congr fun _ _ _ => rfl⟩
  have e1 : well_letters_F1 (R E) Lim E.glob (well_letters_s1 h.length 1 0 (.fn 150 [(h.length, 1, 0)]) a T.inits.length (T.inits.length : Int) [.str T.name, a, b, .int .i64 T.ck, c] h1) = some (.exit 0, well_letters_x1_1 h.length 1 0 (.fn 150 [(h.length, 1, 0)]) [.str T.name, a, b, .int .i64 T.ck, c] h1) := by
    rw [well_letters_r1, if_neg (by simp)]
  have hr1 := hL1 _ (Lim_exit e1)
  rw [List.take_of_length_le (Nat.le_refl _)] at v1
  obtain ⟨ts, t1, t2, t3⟩ := hb
  obtain ⟨us, u1, u2, u3⟩ := hc
  have mid : ∀ (t : Nat) (code : List Ins) (y : Cell), code ∈ T.thr → SlAt h y 9 (codeC code) code.length → Low h.length y → ∀ (h2 : AHeap) (S : Nat → Bool), LtAt h h2 S →
      ∃ h3, Lim (well_letters_F2 (R E) Lim E.glob) (well_letters_s2 h.length 1 0 (.fn 150 [(h.length, 1, 0)]) b T.thr.length (t : Int) y code.length ((0 : Nat) : Int) [.str T.name, a, b, .int .i64 T.ck, c] h2) = some (.exit 4, well_letters_x2_5 h.length 1 0 (.fn 150 [(h.length, 1, 0)]) b T.thr.length (t : Int) [.str T.name, a, b, .int .i64 T.ck, c] h3) ∧
        LtAt h h3 (fun q => S q || code.any fun i => i.loc == (q : Int)) := by
    intro t code y hm y2 y3 h2 S v
    have hcl := hs.code code hm
    obtain ⟨st, ⟨h3, rfl, v3⟩, hL⟩ := Lim_inv (F := well_letters_F2 (R E) Lim E.glob) (fun i st => ∃ h3, st = well_letters_s2 h.length 1 0 (.fn 150 [(h.length, 1, 0)]) b T.thr.length (t : Int) y code.length (i : Int) [.str T.name, a, b, .int .i64 T.ck, c] h3 ∧ LtAt h h3 (fun q => S q || (code.take i).any fun i => i.loc == (q : Int))) 0 code.length (by omega)
      (fun i st _ hi => by
        rintro ⟨h3, rfl, v⟩
        have hq : code[i]? = some code[i] := List.getElem?_eq_getElem hi
        generalize code[i] = q at hq
        obtain ⟨off, cc, g1, g2, g3⟩ := (y2.keep y3 v.1).insG hq
        obtain ⟨h4, f1, v2⟩ := add_step hE.c150 (S' := fun r => S r || (code.take (i + 1)).any fun p => p.loc == (r : Int)) v q.loc (fun r _ _ => by rw [any_take_succ hq, Bool.or_assoc])
        refine ⟨_, ?_, h4, rfl, v2⟩
        rw [well_letters_r2, if_pos (by simp; omega), g1, if_pos g2, g3, if_pos ⟨rfl, rfl, rfl⟩, ins_loc, asI_ok, f1, g_succ (by omega)]) (st := well_letters_s2 h.length 1 0 (.fn 150 [(h.length, 1, 0)]) b T.thr.length (t : Int) y code.length ((0 : Nat) : Int) [.str T.name, a, b, .int .i64 T.ck, c] h2) ⟨h2, rfl, v.congr fun _ _ _ => by simp⟩
    rw [List.take_of_length_le (Nat.le_refl _)] at v3
    refine ⟨h3, hL _ (Lim_exit ?_), v3⟩
    rw [well_letters_r2, if_neg (by simp)]
  have mid4 : ∀ (t : Nat) (row : List Atm) (y : Cell), row ∈ T.any → SlAt h y 4 (atmC row) row.length → Low h.length y → ∀ (h2 : AHeap) (S : Nat → Bool), LtAt h h2 S →
      ∃ h3, Lim (well_letters_F4 (R E) Lim E.glob) (well_letters_s4 h.length 1 0 (.fn 150 [(h.length, 1, 0)]) c T.any.length (t : Int) y row.length ((0 : Nat) : Int) h2) = some (.exit 8, well_letters_x4_9 h.length 1 0 (.fn 150 [(h.length, 1, 0)]) c T.any.length (t : Int) h3) ∧
        LtAt h h3 (fun q => S q || row.any fun i => i.loc == (q : Int)) := by
    intro t code y hm y2 y3 h2 S v
    have hcl := hs.row code hm
    obtain ⟨st, ⟨h3, rfl, v3⟩, hL⟩ := Lim_inv (F := well_letters_F4 (R E) Lim E.glob) (fun i st => ∃ h3, st = well_letters_s4 h.length 1 0 (.fn 150 [(h.length, 1, 0)]) c T.any.length (t : Int) y code.length (i : Int) h3 ∧ LtAt h h3 (fun q => S q || (code.take i).any fun i => i.loc == (q : Int))) 0 code.length (by omega)
      (fun i st _ hi => by
        rintro ⟨h3, rfl, v⟩
        have hq : code[i]? = some code[i] := List.getElem?_eq_getElem hi
        generalize code[i] = q at hq
        obtain ⟨off, cc, g1, g2, g3⟩ := (y2.keep y3 v.1).atmG hq
        obtain ⟨h4, f1, v2⟩ := add_step hE.c150 (S' := fun r => S r || (code.take (i + 1)).any fun p => p.loc == (r : Int)) v q.loc (fun r _ _ => by rw [any_take_succ hq, Bool.or_assoc])
        refine ⟨_, ?_, h4, rfl, v2⟩
        rw [well_letters_r4, if_pos (by simp; omega), g1, if_pos g2, g3, if_pos ⟨rfl, rfl, rfl⟩, show ∀ {α : Type} (f : Cell → Option α), atK q.cs 2 f = f (.int .i64 q.loc) from fun _ => rfl, asI_ok, f1, g_succ (by omega)]) (st := well_letters_s4 h.length 1 0 (.fn 150 [(h.length, 1, 0)]) c T.any.length (t : Int) y code.length ((0 : Nat) : Int) h2) ⟨h2, rfl, v.congr fun _ _ _ => by simp⟩
    rw [List.take_of_length_le (Nat.le_refl _)] at v3
    refine ⟨h3, hL _ (Lim_exit ?_), v3⟩
    rw [well_letters_r4, if_neg (by simp)]
  obtain ⟨st2, ⟨h2, rfl, v2⟩, hL2⟩ := Lim_inv (F := well_letters_F3 (R E) Lim E.glob) (fun i st => ∃ h2, st = well_letters_s3 h.length 1 0 (.fn 150 [(h.length, 1, 0)]) b T.thr.length (i : Int) [.str T.name, a, b, .int .i64 T.ck, c] h2 ∧ LtAt h h2 (fun q => (T.inits.any fun p => p.1 == (q : Int)) || (T.thr.take i).any fun c => c.any fun i => i.loc == (q : Int))) 0 T.thr.length (by omega)
    (fun i st _ hi => by
      rintro ⟨h2, rfl, v⟩
      have hq : T.thr[i]? = some T.thr[i] := List.getElem?_eq_getElem hi
      generalize T.thr[i] = code at hq
      obtain ⟨y, y1, y2, y3⟩ := t3 i code hq
      obtain ⟨h3, f1, v3⟩ := mid i code y (List.mem_of_getElem? hq) y2 y3 h2 _ v
      refine ⟨_, ?_, h3, rfl, v3.congr fun r _ _ => by rw [any_take_succ hq, Bool.or_assoc]⟩
      rw [well_letters_r3, if_pos (by simp; omega), (t1.keep t2 v.1).get1 hi y1, y2.len, show (0 : Int) = ((0 : Nat) : Int) from rfl, f1, bind_ok, well_letters_e2_5, g_succ (by omega)]) (st := well_letters_s3 h.length 1 0 (.fn 150 [(h.length, 1, 0)]) b T.thr.length ((0 : Nat) : Int) [.str T.name, a, b, .int .i64 T.ck, c] h1) ⟨h1, rfl, v1.congr fun _ _ _ => by simp⟩
  have e2 : well_letters_F3 (R E) Lim E.glob (well_letters_s3 h.length 1 0 (.fn 150 [(h.length, 1, 0)]) b T.thr.length (T.thr.length : Int) [.str T.name, a, b, .int .i64 T.ck, c] h2) = some (.exit 2, well_letters_x3_3 h.length 1 0 (.fn 150 [(h.length, 1, 0)]) [.str T.name, a, b, .int .i64 T.ck, c] h2) := by
    rw [well_letters_r3, if_neg (by simp)]
  have hr2 := hL2 _ (Lim_exit e2)
  rw [List.take_of_length_le (Nat.le_refl _)] at v2
  obtain ⟨st3, ⟨h3, rfl, v3⟩, hL3⟩ := Lim_inv (F := well_letters_F5 (R E) Lim E.glob) (fun i st => ∃ h2, st = well_letters_s5 h.length 1 0 (.fn 150 [(h.length, 1, 0)]) c T.any.length (i : Int) h2 ∧ LtAt h h2 (fun q => ((T.inits.any fun p => p.1 == (q : Int)) || (T.thr.any fun c => c.any fun i => i.loc == (q : Int))) || (T.any.take i).any fun c => c.any fun i => i.loc == (q : Int))) 0 T.any.length (by omega)
    (fun i st _ hi => by
      rintro ⟨h2, rfl, v⟩
      have hq : T.any[i]? = some T.any[i] := List.getElem?_eq_getElem hi
      generalize T.any[i] = code at hq
      obtain ⟨y, y1, y2, y3⟩ := u3 i code hq
      obtain ⟨h3, f1, v3⟩ := mid4 i code y (List.mem_of_getElem? hq) y2 y3 h2 _ v
      refine ⟨_, ?_, h3, rfl, v3.congr fun r _ _ => by rw [any_take_succ hq]; simp only [Bool.or_assoc]⟩
      rw [well_letters_r5, if_pos (by simp; omega), (u1.keep u2 v.1).get1 hi y1, y2.len, show (0 : Int) = ((0 : Nat) : Int) from rfl, f1, bind_ok, well_letters_e4_9, g_succ (by omega)]) (st := well_letters_s5 h.length 1 0 (.fn 150 [(h.length, 1, 0)]) c T.any.length ((0 : Nat) : Int) h2) ⟨h2, rfl, v2.congr fun _ _ _ => by simp⟩
  have e3 : well_letters_F5 (R E) Lim E.glob (well_letters_s5 h.length 1 0 (.fn 150 [(h.length, 1, 0)]) c T.any.length (T.any.length : Int) h3) = some (.exit 6, well_letters_x5_7 h.length 1 0 h3) := by
    rw [well_letters_r5, if_neg (by simp)]
  have hr3 := hL3 _ (Lim_exit e3)
  rw [List.take_of_length_le (Nat.le_refl _)] at v3
  obtain ⟨kk, m, m1, m2, m3⟩ := v3
  refine ⟨m, R_intro hE.fn ?_, m1, m2⟩
  rw [well_letters_eq, a1, ha.len, show ([Cell.int .u64 0] : List Cell).length = 1 from rfl, show (0 : Int) = ((0 : Nat) : Int) from rfl, show (Cell.int .u64 ((0 : Nat) : Int)) = .int .u64 0 from rfl, hr1, bind_ok, well_letters_e1_1, a2, t1.len, show (0 : Int) = ((0 : Nat) : Int) from rfl, hr2, bind_ok, well_letters_e3_3, a4, u1.len, show (0 : Int) = ((0 : Nat) : Int) from rfl, hr3, bind_ok, well_letters_e5_7, rdw m3, atK_ok (i := 0) (c := .int .u64 (m : Int)) rfl, asI_ok]
  exact finish_gc kk (by simp [avOk, AV.cells, idOk])

end
end Jq

/- A test's locations; is it too big; do its skips lead to where they may; the check. -/
namespace Jq
open Go

theorem testBit_and1 (m i : Nat) : (((m >>> i &&& 1 : Nat) : Int) == 1) = m.testBit i := by
  rw [Nat.testBit_eq_decide_div_mod_eq, Nat.and_one_is_mod, Nat.shiftRight_eq_div_pow, Bool.eq_iff_iff, beq_iff_eq, decide_eq_true_eq]
  omega

def locsW (T : PTest) : List Int := locsF (thereW T) 26
def jmpB (l : List Ins) : Bool := (List.range l.length).all fun k => match l[k]? with | some i => !(i.kind == 6 && (decide (i.n < 1) || decide (i.n > (l.length : Int) - k - 1))) | none => true
def sumL (l : List (List Ins)) : Int := ((l.map List.length).sum : Nat)
def bigB (T : PTest) : Bool := (T.thr.any fun c => decide ((c.length : Int) > 10)) || ((((((T.thr.length : Int) == 0 || decide ((T.thr.length : Int) > 4) || decide (sumL T.thr > 24)) || decide (((locsW T).length : Int) > 4)) || decide ((T.any.length : Int) > 8)) || (T.any.any fun r => decide ((r.length : Int) > 8))) || decide ((T.name.size : Int) > 20))
def twB (l : List (Int × Int)) : Bool := (List.range l.length).any fun k => match l[k]? with | some p => (l.take k).any (fun q => q.1 == p.1) | none => false
def outB (n : Nat) (a : Atm) : Bool := (a.thread != -1) && decide (a.thread ≥ (n : Int))
def checkT (T : PTest) : Int := if (!okT T) = true then 1 else if bigB T = true then 8 else if twB T.inits = true then 9 else if (T.thr.any fun c => !jmpB c) = true then 10 else if (T.any.any fun r => r.any (outB T.thr.length)) = true then 10 else 0

theorem PTest.small.fits {T : PTest} (s : T.small) (hn : T.name.size < 9223372036854775807) : T.fits :=
  ⟨hn, by have := s.inits; omega, by have := s.thr; omega, fun c hc => by have := s.code c hc; omega, by have := s.any; omega, fun c hc => by have := s.row c hc; omega⟩

section
variable {E : Env}

theorem Locs_R (hE : well_Locs_In E) {cs : List Cell} {T : PTest} {h : AHeap} (p : TestAt h cs T) (hs : T.fits) :
    ∃ y h', R E 117 [.agg cs] h = some ([.c y], h') ∧ Own h.length h' y 1 (intC .u8 (locsW T)) (locsW T).length ∧ Kp h.length h h' := by
  obtain ⟨m, hr, hm, hbit⟩ := letters_R hE.c133 p hs
  have hmb : maxBytes ≥ 100 := by unfold maxBytes; omega
  obtain ⟨st, ⟨y, h1, rfl, hy, hk⟩, hL⟩ := Lim_inv (F := well_Locs_F1 (R E) Lim E.glob) (fun i st => ∃ y h1, st = well_Locs_s1 y (m : Int) (i : Int) h1 ∧ Own h.length h1 y 1 (intC .u8 (locsF (thereW T) i)) (locsF (thereW T) i).length ∧ Kp h.length h h1) 0 26 (by omega)
    (fun i st _ hi => by
      rintro ⟨y, h1, rfl, hy, hk⟩
      have hlen := locsF_len (thereW T) i
      have hw8 : E.glob.wrap .u8 (97 + E.glob.wrap .u8 (i : Int)) = ((97 + i : Nat) : Int) := by
        show IntKind.wrap .u8 (97 + IntKind.wrap .u8 _) = _
        simp only [IntKind.wrap, IntKind.signed, IntKind.bits, Bool.false_and, Bool.false_eq_true, if_false]; omega
      have hrd : well_Locs_F1 (R E) Lim E.glob (well_Locs_s1 y (m : Int) (i : Int) h1) = if thereW T (97 + i) = true then appK 1 1 y [.int .u8 ((97 + i : Nat) : Int)] h1 fun x h' => some (.normal, well_Locs_s1 x (m : Int) ((i + 1 : Nat) : Int) h') else some (.normal, well_Locs_s1 y (m : Int) ((i + 1 : Nat) : Int) h1) := by
        have hsh : m >>> i < 2 ^ 64 := by
          rw [Nat.shiftRight_eq_div_pow]
          exact Nat.lt_of_le_of_lt (Nat.div_le_self _ _) (by omega)
        rw [well_Locs_r1, if_pos (by simp; omega), if_neg (by omega), g_shr (by omega), show (1 : Int) = ((1 : Nat) : Int) from rfl, g_band hsh (by omega), show ((1 : Nat) : Int) = 1 from rfl, testBit_and1, hbit i hi, hw8, g_succ (by omega)]
        rfl
      rw [hrd]
      by_cases ht : thereW T (97 + i) = true
      · obtain ⟨y2, h2, hap, hy2, hk2, _⟩ := hy.app (bytes := 1) (xs := [.int .u8 ((97 + i : Nat) : Int)]) hk.1 rfl (by omega) (by omega) (by omega)
        refine ⟨_, by rw [if_pos ht, hap], y2, h2, rfl, ?_, hk.trans hk2⟩
        rw [locsF_succ, if_pos ht, intC_snoc, List.length_append, List.length_singleton]; exact hy2
      · refine ⟨_, by rw [if_neg ht], y, h1, rfl, ?_, hk⟩
        rw [locsF_succ, if_neg ht]; exact hy) (st := well_Locs_s1 .nils (m : Int) ((0 : Nat) : Int) h) ⟨.nils, h, rfl, Own.nil _ _ _, Kp.refl _ _⟩
  have e1 : well_Locs_F1 (R E) Lim E.glob (well_Locs_s1 y (m : Int) ((26 : Nat) : Int) h1) = some (.exit 0, well_Locs_x1_1 y h1) := by
    rw [well_Locs_r1, if_neg (by simp)]
  have h3 := hL _ (Lim_exit e1)
  rw [show ((0 : Nat) : Int) = 0 from rfl] at h3
  refine ⟨y, h1, R_intro hE.fn ?_, hy, hk⟩
  rw [well_Locs_eq, if_pos ⟨rfl, p.len⟩, hr, c1_ok, asI_ok, h3, bind_ok, well_Locs_e1_1]

theorem Jumps_R (hE : well_Jumps_In E) {x : Cell} {l : List Ins} {h : AHeap} (hx : SlAt h x 9 (codeC l) l.length) (hl : l.length < 9223372036854775807) : R E 148 [.c x] h = some ([.c (.bool (jmpB l))], h) := by
  refine R_intro hE.fn ?_
  have loop : ∀ (n i : Nat), i + n = l.length → (Lim (well_Jumps_F1 (R E) Lim E.glob) (well_Jumps_s1 x x l.length (i : Int) h)).bind (fun q => well_Jumps_k3 (R E) Lim E.glob h q.1 q.2) =
      some ([.c (.bool ((List.range n).all fun k => match l[i + k]? with | some q => !(q.kind == 6 && (decide (q.n < 1) || decide (q.n > (l.length : Int) - ((i + k : Nat) : Int) - 1))) | none => true))], h) := by
    intro n
    induction n with
    | zero =>
      intro i hi
      have hr : well_Jumps_F1 (R E) Lim E.glob (well_Jumps_s1 x x l.length (i : Int) h) = some (.exit 0, well_Jumps_x1_1 h) := by rw [well_Jumps_r1, if_neg (by simp; omega)]
      rw [Lim_exit hr, bind_ok, well_Jumps_e1_1]; rfl
    | succ n ih =>
      intro i hi
      have hq : l[i]? = some l[i] := List.getElem?_eq_getElem (by omega)
      generalize l[i] = b at hq
      obtain ⟨off, cc, g1, g2, g3⟩ := hx.insG hq
      have hg : well_Jumps_F1 (R E) Lim E.glob (well_Jumps_s1 x x l.length (i : Int) h) = if (b.kind == 6 && (decide (b.n < 1) || decide (b.n > (l.length : Int) - (i : Int) - 1))) = true then some (.ret, well_Jumps_x1_0 false h) else some (.normal, well_Jumps_s1 x x l.length ((i + 1 : Nat) : Int) h) := by
        rw [well_Jumps_r1, if_pos (by simp; omega), g1, if_pos g2, g3, if_pos ⟨rfl, rfl, rfl⟩, ins_kind, asI_ok, ins_n, asI_ok, ins_n, asI_ok, hx.len]
        dsimp only
        rw [g_wrap_i64 (x := (l.length : Int) - (i : Int)) (by omega) (by omega), g_wrap_i64 (by omega) (by omega), scK_or, scK_and, g_succ (by omega)]
      rw [List.range_succ_eq_map, List.all_cons, List.all_map, Nat.add_zero, hq]
      dsimp only
      cases hb : (b.kind == 6 && (decide (b.n < 1) || decide (b.n > (l.length : Int) - (i : Int) - 1))) with
      | true =>
        rw [hb, if_pos rfl] at hg
        rw [Lim_ret hg, bind_ok, well_Jumps_e1_0]; rfl
      | false =>
        rw [hb, if_neg (by simp)] at hg
        have h1 := ih (i + 1) (by omega)
        rw [Bool.not_false, Bool.true_and]
        have he : ((List.range n).all ((fun k => match l[i + k]? with | some q => !(q.kind == 6 && (decide (q.n < 1) || decide (q.n > (l.length : Int) - ((i + k : Nat) : Int) - 1))) | none => true) ∘ Nat.succ)) = ((List.range n).all fun k => match l[i + 1 + k]? with | some q => !(q.kind == 6 && (decide (q.n < 1) || decide (q.n > (l.length : Int) - ((i + 1 + k : Nat) : Int) - 1))) | none => true) := by
          congr 1
          funext k
          show (match l[i + (k + 1)]? with | some q => !(q.kind == 6 && (decide (q.n < 1) || decide (q.n > (l.length : Int) - ((i + (k + 1) : Nat) : Int) - 1))) | none => true) = _
          rw [show i + (k + 1) = i + 1 + k by omega]
        rw [he]
        cases hL : Lim (well_Jumps_F1 (R E) Lim E.glob) (well_Jumps_s1 x x l.length ((i + 1 : Nat) : Int) h) with
        | none => rw [hL] at h1; cases h1
        | some w => rw [Lim_next hg hL]; rw [hL] at h1; exact h1
  have := loop l.length 0 (by omega)
  rw [well_Jumps_eq, hx.len]
  rw [show ((0 : Nat) : Int) = 0 from rfl] at this
  rw [this]
  unfold jmpB
  simp only [Nat.zero_add]

end
end Jq

/- Is a test too big; is a location begun twice; the check. -/
namespace Jq
open Go

section
variable {E : Env}

theorem big_1_R (hE : well_big_1_In E) {x : Cell} {l : List Atm} {h : AHeap} (hx : SlAt h x 4 (atmC l) l.length) : R E 145 [.c x] h = some ([.c (.bool (decide ((l.length : Int) > 8)))], h) := by
  refine R_intro hE.fn ?_
  rw [well_big_1_eq, hx.len]

theorem sumT_le (l : List (List Ins)) (h : ∀ c ∈ l, c.length ≤ 1000) : (l.map List.length).sum ≤ 1000 * l.length := by
  induction l with
  | nil => simp
  | cons a l ih =>
    have h1 := h a (by simp)
    have h2 := ih fun c hc => h c (by simp [hc])
    rw [List.map_cons, List.sum_cons, List.length_cons]; omega

theorem sumL_snoc (l : List (List Ins)) (c : List Ins) : sumL (l ++ [c]) = sumL l + c.length := by
  unfold sumL; rw [List.map_append, List.sum_append]; simp

theorem big_R (hE : well_big_In E) {cs : List Cell} {T : PTest} {h : AHeap} (p : TestAt h cs T) (hs : T.small) (hn : T.name.size < 9223372036854775807) :
    ∃ h', R E 127 [.agg cs] h = some ([.c (.bool (bigB T))], h') ∧ Kp h.length h h' := by
  have hfit := hs.fits hn
  obtain ⟨yl, hl1, rl, ol, kl⟩ := Locs_R hE.c117 p hfit
  have p' := p
  obtain ⟨a, b, c, rfl, ⟨ha, hal⟩, hb, hc⟩ := p'
  have a0 : ∀ {α : Type} (f : Cell → Option α), atK [.str T.name, a, b, .int .i64 T.ck, c] 0 f = f (.str T.name) := fun _ => rfl
  have a2 : ∀ {α : Type} (f : Cell → Option α), atK [.str T.name, a, b, .int .i64 T.ck, c] 2 f = f b := fun _ => rfl
  have a4 : ∀ {α : Type} (f : Cell → Option α), atK [.str T.name, a, b, .int .i64 T.ck, c] 4 f = f c := fun _ => rfl
  have n2 := hs.thr
  have loop : ∀ (n i : Nat), i + n = T.thr.length → ∃ st, Lim (well_big_F1 (R E) Lim E.glob) (well_big_s1 (sumL (T.thr.take i)) b T.thr.length (i : Int) [.str T.name, a, b, .int .i64 T.ck, c] h) = some st ∧
      (((T.thr.drop i).any fun c => decide ((c.length : Int) > 10)) = true ∧ st = (.ret, well_big_x1_0 true h) ∨ ((T.thr.drop i).any fun c => decide ((c.length : Int) > 10)) = false ∧ st = (.exit 0, well_big_x1_1 (sumL T.thr) [.str T.name, a, b, .int .i64 T.ck, c] h)) := by
    intro n
    induction n with
    | zero =>
      intro i hi
      have hr : well_big_F1 (R E) Lim E.glob (well_big_s1 (sumL (T.thr.take i)) b T.thr.length (i : Int) [.str T.name, a, b, .int .i64 T.ck, c] h) = some (.exit 0, well_big_x1_1 (sumL (T.thr.take i)) [.str T.name, a, b, .int .i64 T.ck, c] h) := by rw [well_big_r1, if_neg (by simp; omega)]
      refine ⟨_, Lim_exit hr, .inr ⟨by rw [List.drop_of_length_le (by omega)]; rfl, by rw [List.take_of_length_le (by omega)]⟩⟩
    | succ n ih =>
      intro i hi
      have hq : T.thr[i]? = some T.thr[i] := List.getElem?_eq_getElem (by omega)
      have hdr : T.thr.drop i = T.thr[i] :: T.thr.drop (i + 1) := List.drop_eq_getElem_cons (by omega)
      generalize T.thr[i] = q at hq hdr
      obtain ⟨y, y1, y2, y3⟩ := hb.get (β := Ex × St) hq
      have hsum := sumT_le (T.thr.take i) fun c hc => hs.code c (List.mem_of_mem_take hc)
      rw [List.length_take] at hsum
      have hql := hs.code q (List.mem_of_getElem? hq)
      have hw : E.glob.wrap .i64 (sumL (T.thr.take i) + (q.length : Int)) = sumL (T.thr.take (i + 1)) := by
        rw [takeI_succ hq, sumL_snoc]
        unfold sumL
        exact g_wrap_i64 (by omega) (by omega)
      rw [hdr, List.any_cons]
      cases hbb : decide ((q.length : Int) > 10) with
      | true =>
        have hr : well_big_F1 (R E) Lim E.glob (well_big_s1 (sumL (T.thr.take i)) b T.thr.length (i : Int) [.str T.name, a, b, .int .i64 T.ck, c] h) = some (.ret, well_big_x1_0 true h) := by
          rw [well_big_r1, if_pos (by simp; omega), y3, y1.len, hbb, if_pos rfl]
        exact ⟨_, Lim_ret hr, .inl ⟨Bool.true_or _, rfl⟩⟩
      | false =>
        have hr : well_big_F1 (R E) Lim E.glob (well_big_s1 (sumL (T.thr.take i)) b T.thr.length (i : Int) [.str T.name, a, b, .int .i64 T.ck, c] h) = some (.normal, well_big_s1 (sumL (T.thr.take (i + 1))) b T.thr.length ((i + 1 : Nat) : Int) [.str T.name, a, b, .int .i64 T.ck, c] h) := by
          rw [well_big_r1, if_pos (by simp; omega), y3, y1.len, hbb, if_neg (by simp), y1.len, hw, g_succ (by omega)]
        obtain ⟨st, h1, h2⟩ := ih (i + 1) (by omega)
        exact ⟨st, Lim_next hr h1, by rw [Bool.false_or]; exact h2⟩
  obtain ⟨st, h1, h2⟩ := loop T.thr.length 0 (by omega)
  rw [show sumL (T.thr.take 0) = 0 from rfl, show ((0 : Nat) : Int) = 0 from rfl] at h1
  rw [List.drop_zero] at h2
  rcases h2 with ⟨h2, rfl⟩ | ⟨h2, rfl⟩
  · refine ⟨h, R_intro hE.fn ?_, Kp.refl _ _⟩
    rw [well_big_eq, a2, hb.len, h1, bind_ok, well_big_e1_0]
    unfold bigB
    rw [h2, Bool.true_or]
  · have hcf := fun (H : AHeap) (k : Kp h.length h H) => any_ssAtom_sAtom_R hE.c146 (f := .fn 145 []) (h := H) (hc.keep k) (by have := hs.any; omega) (fun r => decide ((r.length : Int) > 8)) fun r hm y hy α F => by
      show c1 (R E 145 ([.c y] ++ []) H) F = _
      rw [List.append_nil, big_1_R hE.c145 hy, c1_ok]
    have s0 : ∀ {α : Type} (f : ByteArray → Option α), asS (.c (.str T.name)) f = f T.name := fun _ => rfl
    have s1 : ∀ {α : Type} (f : Int → Option α), lenSK (.str T.name) f = f T.name.size := fun _ => rfl
    have rest : ∀ (x : Bool) (H : AHeap), Kp h.length h H → ((scK x false (atK [.str T.name, a, b, .int .i64 T.ck, c] 4 fun q_24 => lenK q_24 fun n_25 => some ((decide (n_25 > 8)), H)) true H fun b_26 h_27 => scK b_26 false (atK [.str T.name, a, b, .int .i64 T.ck, c] 4 fun q_28 => c1 (R E 146 [(.c q_28), (.c (.fn 145 []))] h_27) fun y_30 h_29 => asB y_30 fun b_31 => some (b_31, h_29)) true h_27 fun b_32 h_33 => scK b_32 false (atK [.str T.name, a, b, .int .i64 T.ck, c] 0 fun q_34 => asS (.c q_34) fun z_35 => lenSK (.str z_35) fun n_36 => some ((decide (n_36 > 20)), h_33)) true h_33 fun b_37 h_38 => some ([(.c (.bool b_37))], h_38)) : Option (List AV × AHeap)) = some ([.c (.bool (((x || decide ((T.any.length : Int) > 8)) || (T.any.any fun r => decide ((r.length : Int) > 8))) || decide ((T.name.size : Int) > 20)))], H) := by
      intro x H k
      rw [a4, (hc.keep k).len, scK_or, a4, hcf H k, c1_ok, asB_ok, scK_or, a0, s0, s1, scK_or]
    have hfin : (((T.thr.length : Int) == 0 || decide ((T.thr.length : Int) > 4) || decide (sumL T.thr > 24)) = true ∧ well_big.body (R E) Lim E.glob [.agg [.str T.name, a, b, .int .i64 T.ck, c]] h = some ([.c (.bool (bigB T))], h)) ∨ (well_big.body (R E) Lim E.glob [.agg [.str T.name, a, b, .int .i64 T.ck, c]] h = some ([.c (.bool (bigB T))], hl1)) := by
      rw [well_big_eq, a2, hb.len, h1, bind_ok, well_big_e1_1, a2, hb.len, a2, hb.len, scK_or, scK_or]
      unfold bigB
      rw [h2, Bool.false_or]
      cases hx : ((T.thr.length : Int) == 0 || decide ((T.thr.length : Int) > 4) || decide (sumL T.thr > 24)) with
      | true =>
        refine .inl ⟨rfl, ?_⟩
        rw [scK_tf, rest true h (Kp.refl _ _)]
        simp only [Bool.true_or]
      | false =>
        refine .inr ?_
        rw [scK_ok, if_pos ⟨rfl, rfl⟩, rl, c1_ok, asC_ok, ol.at.len, bind_ok]
        dsimp only
        rw [rest _ hl1 kl, Bool.false_or]
    rcases hfin with ⟨_, hh⟩ | hh
    · exact ⟨h, R_intro hE.fn hh, Kp.refl _ _⟩
    · exact ⟨hl1, R_intro hE.fn hh, kl⟩

theorem twice_R (hE : well_twice_In E) {x : Cell} {l : List (Int × Int)} {h : AHeap} (hx : SlAt h x 2 (pairC l) l.length) (hl : l.length < 9223372036854775807) (hg : ∀ p ∈ l, locB p.1 = true) : R E 128 [.c x] h = some ([.c (.bool (twB l))], h) := by
  refine R_intro hE.fn ?_
  have loop : ∀ (n i m : Nat), i + n = l.length → m < 2 ^ 26 → (∀ j, j < 26 → m.testBit j = (l.take i).any fun q => q.1 == ((97 + j : Nat) : Int)) → (Lim (well_twice_F1 (R E) Lim E.glob) (well_twice_s1 (m : Int) x l.length (i : Int) h)).bind (fun q => well_twice_k3 (R E) Lim E.glob h q.1 q.2) =
      some ([.c (.bool ((List.range n).any fun k => match l[i + k]? with | some p => (l.take (i + k)).any (fun q => q.1 == p.1) | none => false))], h) := by
    intro n
    induction n with
    | zero =>
      intro i m hi _ _
      have hr : well_twice_F1 (R E) Lim E.glob (well_twice_s1 (m : Int) x l.length (i : Int) h) = some (.exit 0, well_twice_x1_1 h) := by rw [well_twice_r1, if_neg (by simp; omega)]
      rw [Lim_exit hr, bind_ok, well_twice_e1_1]; rfl
    | succ n ih =>
      intro i m hi hm hbit
      have hq : l[i]? = some l[i] := List.getElem?_eq_getElem (by omega)
      generalize l[i] = p at hq
      have hp := hg p (List.mem_of_getElem? hq)
      have hr97 : 97 ≤ p.1 ∧ p.1 ≤ 122 := by unfold locB at hp; simpa using hp
      obtain ⟨v, hv⟩ : ∃ v : Nat, p.1 - 97 = (v : Int) := ⟨(p.1 - 97).toNat, by omega⟩
      have hv26 : v < 26 := by omega
      have hpv : p.1 = ((97 + v : Nat) : Int) := by omega
      obtain ⟨off, cc, g1, g2, g3⟩ := hx.pairG hq
      have hsh : m >>> v < 2 ^ 64 := by
        rw [Nat.shiftRight_eq_div_pow]
        exact Nat.lt_of_le_of_lt (Nat.div_le_self _ _) (by omega)
      have hpw : 2 ^ v < 2 ^ 26 := Nat.pow_lt_pow_right (by omega) hv26
      have hor : m ||| 2 ^ v < 2 ^ 26 := Nat.or_lt_two_pow hm hpw
      have hstep : well_twice_F1 (R E) Lim E.glob (well_twice_s1 (m : Int) x l.length (i : Int) h) = if ((l.take i).any fun q => q.1 == p.1) = true then some (.ret, well_twice_x1_0 true h) else some (.normal, well_twice_s1 ((m ||| 2 ^ v : Nat) : Int) x l.length ((i + 1 : Nat) : Int) h) := by
        have a0 : ∀ {α : Type} (f : Cell → Option α), atK (pairCs p) 0 f = f (.int .i64 p.1) := fun _ => rfl
        rw [well_twice_r1, if_pos (by simp; omega), g1, if_pos g2, g3, if_pos ⟨rfl, rfl, rfl⟩, a0, asI_ok, g_wrap_i64 (x := p.1 - 97) (by omega) (by omega), hv, if_neg (by omega)]
        dsimp only
        rw [g_shr (by omega), show (1 : Int) = ((1 : Nat) : Int) from rfl, g_band hsh (by omega), show ((1 : Nat) : Int) = 1 from rfl, testBit_and1, hbit v hv26, ← hpv, a0, asI_ok, g_wrap_i64 (x := p.1 - 97) (by omega) (by omega), hv, if_neg (show ¬ ((v : Int) < 0) by omega)]
        rw [g_shl_one (by omega), g_bor (by omega) (by omega), g_succ (by omega)]
      rw [List.range_succ_eq_map, List.any_cons, List.any_map, Nat.add_zero, hq]
      dsimp only
      cases hb : ((l.take i).any fun q => q.1 == p.1) with
      | true =>
        rw [hb, if_pos rfl] at hstep
        rw [Lim_ret hstep, bind_ok, well_twice_e1_0]; rfl
      | false =>
        rw [hb, if_neg (by simp)] at hstep
        have h1 := ih (i + 1) (m ||| 2 ^ v) (by omega) hor (fun j hj => by
          rw [Nat.testBit_or, Nat.testBit_two_pow, hbit j hj, any_take_succ hq, hpv]
          congr 1
          rw [Bool.eq_iff_iff]; simp; omega)
        rw [Bool.false_or]
        have he : ((List.range n).any ((fun k => match l[i + k]? with | some p => (l.take (i + k)).any (fun q => q.1 == p.1) | none => false) ∘ Nat.succ)) = ((List.range n).any fun k => match l[i + 1 + k]? with | some p => (l.take (i + 1 + k)).any (fun q => q.1 == p.1) | none => false) := by
          congr 1
          funext k
          show (match l[i + (k + 1)]? with | some p => (l.take (i + (k + 1))).any (fun q => q.1 == p.1) | none => false) = _
          rw [show i + (k + 1) = i + 1 + k by omega]
        rw [he]
        cases hL : Lim (well_twice_F1 (R E) Lim E.glob) (well_twice_s1 ((m ||| 2 ^ v : Nat) : Int) x l.length ((i + 1 : Nat) : Int) h) with
        | none => rw [hL] at h1; cases h1
        | some w => rw [Lim_next hstep hL]; rw [hL] at h1; exact h1
  have := loop l.length 0 0 (by omega) (by omega) (fun j _ => by simp)
  rw [well_twice_eq, hx.len]
  rw [show ((0 : Nat) : Int) = 0 from rfl] at this
  rw [this]
  unfold twB
  simp only [Nat.zero_add]
  all_goals rfl

theorem Check_1_R (hE : well_Check_1_In E) {x : Cell} {l : List Ins} {h : AHeap} (hx : SlAt h x 9 (codeC l) l.length) (hl : l.length < 9223372036854775807) : R E 129 [.c x] h = some ([.c (.bool (!jmpB l))], h) := by
  refine R_intro hE.fn ?_
  rw [well_Check_1_eq, Jumps_R hE.c148 hx hl, c1_ok, asB_ok]

theorem okT_locs {T : PTest} (h : okT T = true) : ∀ p ∈ T.inits, locB p.1 = true := by
  unfold okT at h
  simp only [Bool.and_eq_true, Bool.not_eq_true', List.any_eq_false] at h
  intro p hp
  have := h.1.1.2 p hp
  simpa using this

theorem Check_R (hE : well_Check_In E) {cs : List Cell} {T : PTest} {h : AHeap} (p : TestAt h cs T) (hs : T.small) (hn : T.name.size < 9223372036854775807) :
    R E 116 [.agg cs] h = some ([.c (.int .i64 (checkT T))], h) := by
  have hfit := hs.fits hn
  refine R_intro hE.fn ?_
  have hlen := p.len
  have k1 : Kp h.length h (h ++ [some ⟨true, 0, cs⟩]) := Kp.app _ (Nat.le_refl _)
  have b1 : blk? (h ++ [some ⟨true, 0, cs⟩]) h.length = some ⟨true, 0, cs⟩ := blk_new _ _
  have hcell : AV.cells (.agg cs) = cs := rfl
  have n1 : h.length < (h ++ [some (Blk.mk true 0 cs)]).length := by simp
  rw [well_Check_eq]
  simp only [hcell]
  generalize h ++ [some (Blk.mk true 0 cs)] = h1 at *
  have p1 := p.keep k1
  obtain ⟨h2, r2, k2⟩ := big_R hE.c127 p1 hs hn
  have b2 : blk? h2 h.length = some ⟨true, 0, cs⟩ := by rw [k2.blk n1]; exact b1
  have kk : Kp h.length h h2 := k1.trans (k2.mono k1.1)
  have p2 := p1.keep k2
  have fin : ∀ (h' : AHeap) (n : Int), Kp h.length h h' → finish true h [.c (.int .i64 n)] h' = some ([.c (.int .i64 n)], h) := fun h' n hk => finish_gc hk (by simp [avOk, AV.cells, idOk])
  have hinl : okT T = true → ∀ p ∈ T.inits, locB p.1 = true := okT_locs
  rw [rdH_ok b1 rfl, if_pos ⟨trivial, hlen⟩, print_Ok_R hE.c126 p1 hfit, c1_ok, asB_ok]
  unfold checkT
  by_cases ho : (!okT T) = true
  · rw [if_pos ho, if_pos ho, fin _ _ k1]
  have ho' : okT T = true := by simpa using ho
  rw [if_neg ho, if_neg ho, rdH_ok b1 rfl, if_pos ⟨trivial, hlen⟩, r2, c1_ok, asB_ok]
  by_cases hbg : bigB T = true
  · rw [if_pos hbg, if_pos hbg, fin _ _ kk]
  rw [if_neg hbg, if_neg hbg, rdH_ok b2 rfl]
  dsimp only
  obtain ⟨a, b, c, rfl, ⟨ha, hal⟩, hb, hc⟩ := p2
  have a1 : ∀ {α : Type} (f : Cell → Option α), atK [.str T.name, a, b, .int .i64 T.ck, c] 1 f = f a := fun _ => rfl
  have a2 : ∀ {α : Type} (f : Cell → Option α), atK [.str T.name, a, b, .int .i64 T.ck, c] 2 f = f b := fun _ => rfl
  have a4 : ∀ {α : Type} (f : Cell → Option α), atK [.str T.name, a, b, .int .i64 T.ck, c] 4 f = f c := fun _ => rfl
  have cj := any_ssIns_sIns_R hE.c130 (f := .fn 129 []) hb hfit.thr (fun c => !jmpB c) fun r hm y hy α F => by
    show c1 (R E 129 ([.c y] ++ []) h2) F = _
    rw [List.append_nil, Check_1_R hE.c129 hy (hfit.code r hm), c1_ok]
  rw [a1, twice_R hE.c128 ha hfit.inits (hinl ho'), c1_ok, asB_ok]
  by_cases htw : twB T.inits = true
  · rw [if_pos htw, if_pos htw, fin _ _ kk]
  rw [if_neg htw, if_neg htw, rdH_ok b2 rfl]
  dsimp only
  rw [a2, cj, c1_ok, asB_ok]
  by_cases hj : (T.thr.any fun c => !jmpB c) = true
  · rw [if_pos hj, if_pos hj, fin _ _ kk]
  rw [if_neg hj, if_neg hj, rdH_ok b2 rfl]
  dsimp only
  rw [a4, hc.len]
  have hatm : ∀ (r : List Atm) (y : Cell), r ∈ T.any → SlAt h2 y 4 (atmC r) r.length → R E 132 [.c y, .c (.fn 131 [(h.length, ([Cell.str T.name, a, b, .int .i64 T.ck, c] : List Cell).length, 0)])] h2 = some ([.c (.bool (r.any (outB T.thr.length)))], h2) := by
    intro r y hm hy
    refine any_sAtom_Atom_R hE.c132 hy (hfit.row r hm) (outB T.thr.length) fun i _ α F => ?_
    show c1 (R E 131 ([.agg i.cs] ++ [.c (.ptr h.length _ 0)]) h2) F = _
    have : R E 131 ([.agg i.cs] ++ [.c (.ptr h.length ([Cell.str T.name, a, b, .int .i64 T.ck, c] : List Cell).length 0)]) h2 = some ([.c (.bool (outB T.thr.length i))], h2) := by
      refine R_intro hE.c131.fn ?_
      have q0 : ∀ {α : Type} (f : Cell → Option α), atK i.cs 0 f = f (.int .i64 i.thread) := fun _ => rfl
      show well_Check_2.body (R E) Lim E.glob [.agg i.cs, .c (.ptr h.length _ 0)] h2 = _
      rw [well_Check_2_eq, q0, asI_ok, q0, asI_ok, rdH_ok b2 rfl]
      dsimp only
      rw [show 0 + 2 = 2 from rfl, a2, hb.len, scK_and]; rfl
    rw [this, c1_ok]
  have loop : ∀ (n i : Nat), i + n = T.any.length → (Lim (well_Check_F1 (R E) Lim E.glob) (well_Check_s1 h.length ([Cell.str T.name, a, b, .int .i64 T.ck, c] : List Cell).length 0 c T.any.length (i : Int) h2)).bind (fun q => well_Check_k3 (R E) Lim E.glob h q.1 q.2) =
      some ([.c (.int .i64 (if ((T.any.drop i).any fun r => r.any (outB T.thr.length)) = true then 10 else 0))], h) := by
    intro n
    induction n with
    | zero =>
      intro i hi
      have hr : well_Check_F1 (R E) Lim E.glob (well_Check_s1 h.length ([Cell.str T.name, a, b, .int .i64 T.ck, c] : List Cell).length 0 c T.any.length (i : Int) h2) = some (.exit 1, well_Check_x1_2 h2) := by rw [well_Check_r1, if_neg (by simp; omega)]
      rw [Lim_exit hr, bind_ok, well_Check_e1_2, List.drop_of_length_le (by omega), fin _ _ kk]; rfl
    | succ n ih =>
      intro i hi
      have hal := hs.any
      have hq : T.any[i]? = some T.any[i] := List.getElem?_eq_getElem (by omega)
      have hdr : T.any.drop i = T.any[i] :: T.any.drop (i + 1) := List.drop_eq_getElem_cons (by omega)
      generalize T.any[i] = q at hq hdr
      obtain ⟨y, y1, y2, y3⟩ := hc.get (β := Ex × St) hq
      have hp := hatm q y (List.mem_of_getElem? hq) y1
      rw [hdr, List.any_cons]
      cases hbb : q.any (outB T.thr.length) with
      | true =>
        have hr : well_Check_F1 (R E) Lim E.glob (well_Check_s1 h.length ([Cell.str T.name, a, b, .int .i64 T.ck, c] : List Cell).length 0 c T.any.length (i : Int) h2) = some (.ret, well_Check_x1_0 10 h2) := by
          rw [well_Check_r1, if_pos (by simp; omega), y3, hp, c1_ok, asB_ok, hbb, if_pos rfl]
        rw [Lim_ret hr, bind_ok, well_Check_e1_0, fin _ _ kk]; rfl
      | false =>
        have hr : well_Check_F1 (R E) Lim E.glob (well_Check_s1 h.length ([Cell.str T.name, a, b, .int .i64 T.ck, c] : List Cell).length 0 c T.any.length (i : Int) h2) = some (.normal, well_Check_s1 h.length ([Cell.str T.name, a, b, .int .i64 T.ck, c] : List Cell).length 0 c T.any.length ((i + 1 : Nat) : Int) h2) := by
          rw [well_Check_r1, if_pos (by simp; omega), y3, hp, c1_ok, asB_ok, hbb, if_neg (by simp), g_succ (by omega)]
        have h1 := ih (i + 1) (by omega)
        rw [Bool.false_or]
        cases hL : Lim (well_Check_F1 (R E) Lim E.glob) (well_Check_s1 h.length ([Cell.str T.name, a, b, .int .i64 T.ck, c] : List Cell).length 0 c T.any.length ((i + 1 : Nat) : Int) h2) with
        | none => rw [hL] at h1; cases h1
        | some w => rw [Lim_next hr hL]; rw [hL] at h1; exact h1
  have := loop T.any.length 0 (by omega)
  rw [show ((0 : Nat) : Int) = 0 from rfl, List.drop_zero] at this
  exact this

end
end Jq

namespace Jq
open Go

/- jacquard/jacquardlaw3.Small: 97 -/
def jacquardlaw3_Small_k2 (C : CallF) (L : LoopF) (G : Glo) (h0 : AHeap) : Ex → St → Option (List AV × AHeap) :=
  kSeq (fun st => jacquardlaw3_Small_p1.exec C L G st (jacquardlaw3_Small.fin G h0)) (jacquardlaw3_Small.fin G h0)
def jacquardlaw3_Small_c1 (a1 : Int) (x7 : Cell) (a8 : Int) (a9 : Int) (s0 : List Cell) (s1 : List Cell) (h : AHeap) : St := ⟨[.top, .v (.c (.int .i64 a1)), .top, .top, .loc 0 0, .loc 1 0, .top, .v (.c x7), .v (.c (.int .i64 a8)), .v (.c (.int .i64 a9)), .top, .top, .top, .top, .top, .top, .top, .top, .top, .top, .top, .top, .top, .top, .top, .top, .top, .top, .top, .top, .top, .top, .top, .top, .top, .top, .top, .top, .top, .top, .top, .top, .top, .top, .top, .top, .top, .top, .top, .top, .top, .top, .top, .top, .top, .top, .top, .top, .top, .top, .top, .top, .top, .top, .top, .top, .top, .top, .top, .top, .top, .top, .top, .top, .top, .top, .top, .top, .top, .top, .top, .top, .top, .top, .top, .top, .top, .top, .top, .top, .top, .top, .top, .top, .top, .top, .top, .top, .top, .top, .top, .top, .top, .top, .top, .top, .top, .top, .top, .top, .top, .top, .top, .top, .top, .top, .top, .top, .top, .top, .top, .top, .top, .top, .top, .top, .top, .top, .top, .top, .top, .top, .top, .top, .top, .top, .top, .top, .top, .top, .top, .top, .top, .top, .top, .top, .top, .top, .top, .top, .top, .top, .top, .top, .top, .top, .top, .top, .top, .top, .top, .top, .top, .top, .top, .top, .top, .top, .top, .top, .top, .top, .top, .top, .top, .top, .top, .top, .top, .top, .top, .top, .top, .top], [some s0, some s1, none], h⟩
def jacquardlaw3_Small_k3 (C : CallF) (L : LoopF) (G : Glo) (h0 : AHeap) : Ex → St → Option (List AV × AHeap) :=
  kSeq (fun st => jacquardlaw3_Small_p2.exec C L G st (jacquardlaw3_Small.fin G h0)) (jacquardlaw3_Small.fin G h0)
def jacquardlaw3_Small_k4 (C : CallF) (L : LoopF) (G : Glo) (h0 : AHeap) : Ex → St → Option (List AV × AHeap) :=
  kBlk 0 (jacquardlaw3_Small_k3 C L G h0)
def jacquardlaw3_Small_s2 (a1 : Int) (x7 : Cell) (a8 : Int) (a9 : Int) (a10 : Int) (a11 : Int) (s0 : List Cell) (s1 : List Cell) (h : AHeap) : St := ⟨[.top, .v (.c (.int .i64 a1)), .top, .top, .loc 0 0, .loc 1 0, .top, .v (.c x7), .v (.c (.int .i64 a8)), .v (.c (.int .i64 a9)), .v (.c (.int .i64 a10)), .v (.c (.int .i64 a11)), .top, .top, .top, .top, .top, .top, .top, .top, .top, .top, .top, .top, .top, .top, .top, .top, .top, .top, .top, .top, .top, .top, .top, .top, .top, .top, .top, .top, .top, .top, .top, .top, .top, .top, .top, .top, .top, .top, .top, .top, .top, .top, .top, .top, .top, .top, .top, .top, .top, .top, .top, .top, .top, .top, .top, .top, .top, .top, .top, .top, .top, .top, .top, .top, .top, .top, .top, .top, .top, .top, .top, .top, .top, .top, .top, .top, .top, .top, .top, .top, .top, .top, .top, .top, .top, .top, .top, .top, .top, .top, .top, .top, .top, .top, .top, .top, .top, .top, .top, .top, .top, .top, .top, .top, .top, .top, .top, .top, .top, .top, .top, .top, .top, .top, .top, .top, .top, .top, .top, .top, .top, .top, .top, .top, .top, .top, .top, .top, .top, .top, .top, .top, .top, .top, .top, .top, .top, .top, .top, .top, .top, .top, .top, .top, .top, .top, .top, .top, .top, .top, .top, .top, .top, .top, .top, .top, .top, .top, .top, .top, .top, .top, .top, .top, .top, .top, .top, .top, .top, .top, .top, .top], [some s0, some s1, none], h⟩
def jacquardlaw3_Small_F2 (C : CallF) (L : LoopF) (G : Glo) : St → Option (Ex × St) :=
  roundF (fun st f => jacquardlaw3_Small_b2.exec C L G st f) [1, 4, 5, 7, 8, 9, 10, 11] [0, 1] [(1, [4, 5, 7], [0, 1])]
def jacquardlaw3_Small_k5 (C : CallF) (L : LoopF) (G : Glo) : Ex → St → Option (Ex × St) :=
  kSeq (fun st => jacquardlaw3_Small_p3.exec C L G st (kLoop [1, 4, 5, 7, 8, 9, 10, 11] [0, 1] [(1, [4, 5, 7], [0, 1])])) (kLoop [1, 4, 5, 7, 8, 9, 10, 11] [0, 1] [(1, [4, 5, 7], [0, 1])])
def jacquardlaw3_Small_k6 (C : CallF) (L : LoopF) (G : Glo) : Ex → St → Option (Ex × St) :=
  kBlk 1 (jacquardlaw3_Small_k5 C L G)
def jacquardlaw3_Small_k7 (C : CallF) (L : LoopF) (G : Glo) : Ex → St → Option (Ex × St) :=
  kSeq (fun st => jacquardlaw3_Small_p4.exec C L G st (jacquardlaw3_Small_k6 C L G)) (jacquardlaw3_Small_k6 C L G)
def jacquardlaw3_Small_k8 (C : CallF) (L : LoopF) (G : Glo) : Ex → St → Option (Ex × St) :=
  kBlk 2 (jacquardlaw3_Small_k7 C L G)
def jacquardlaw3_Small_s1 (a1 : Int) (x7 : Cell) (a8 : Int) (a9 : Int) (a10 : Int) (a11 : Int) (x12 : Cell) (a13 : Int) (s0 : List Cell) (s1 : List Cell) (h : AHeap) : St := ⟨[.top, .v (.c (.int .i64 a1)), .top, .top, .loc 0 0, .loc 1 0, .top, .v (.c x7), .v (.c (.int .i64 a8)), .v (.c (.int .i64 a9)), .v (.c (.int .i64 a10)), .v (.c (.int .i64 a11)), .v (.c x12), .v (.c (.int .i64 a13)), .top, .top, .top, .top, .top, .top, .top, .top, .top, .top, .top, .top, .top, .top, .top, .top, .top, .top, .top, .top, .top, .top, .top, .top, .top, .top, .top, .top, .top, .top, .top, .top, .top, .top, .top, .top, .top, .top, .top, .top, .top, .top, .top, .top, .top, .top, .top, .top, .top, .top, .top, .top, .top, .top, .top, .top, .top, .top, .top, .top, .top, .top, .top, .top, .top, .top, .top, .top, .top, .top, .top, .top, .top, .top, .top, .top, .top, .top, .top, .top, .top, .top, .top, .top, .top, .top, .top, .top, .top, .top, .top, .top, .top, .top, .top, .top, .top, .top, .top, .top, .top, .top, .top, .top, .top, .top, .top, .top, .top, .top, .top, .top, .top, .top, .top, .top, .top, .top, .top, .top, .top, .top, .top, .top, .top, .top, .top, .top, .top, .top, .top, .top, .top, .top, .top, .top, .top, .top, .top, .top, .top, .top, .top, .top, .top, .top, .top, .top, .top, .top, .top, .top, .top, .top, .top, .top, .top, .top, .top, .top, .top, .top, .top, .top, .top, .top, .top, .top, .top, .top], [some s0, some s1, none], h⟩
def jacquardlaw3_Small_F1 (C : CallF) (L : LoopF) (G : Glo) : St → Option (Ex × St) :=
  roundF (fun st f => jacquardlaw3_Small_b1.exec C L G st f) [1, 4, 5, 7, 8, 9, 10, 11, 12, 13] [0, 1] [(3, [1, 4, 5, 7, 8, 9, 10, 11, 12], [0, 1])]
def jacquardlaw3_Small_k9 (C : CallF) (L : LoopF) (G : Glo) : Ex → St → Option (Ex × St) :=
  kSeq (fun st => jacquardlaw3_Small_p5.exec C L G st (kLoop [1, 4, 5, 7, 8, 9, 10, 11, 12, 13] [0, 1] [(3, [1, 4, 5, 7, 8, 9, 10, 11, 12], [0, 1])])) (kLoop [1, 4, 5, 7, 8, 9, 10, 11, 12, 13] [0, 1] [(3, [1, 4, 5, 7, 8, 9, 10, 11, 12], [0, 1])])
def jacquardlaw3_Small_k10 (C : CallF) (L : LoopF) (G : Glo) : Ex → St → Option (Ex × St) :=
  kBlk 3 (jacquardlaw3_Small_k9 C L G)
def jacquardlaw3_Small_k11 (C : CallF) (L : LoopF) (G : Glo) : Ex → St → Option (Ex × St) :=
  kSeq (fun st => jacquardlaw3_Small_p6.exec C L G st (jacquardlaw3_Small_k10 C L G)) (jacquardlaw3_Small_k10 C L G)
def jacquardlaw3_Small_c2 (a1 : Int) (x7 : Cell) (a8 : Int) (a9 : Int) (a10 : Int) (a11 : Int) (x12 : Cell) (a13 : Int) (a14 : Int) (a15 : Int) (s0 : List Cell) (s1 : List Cell) (s2 : List Cell) (h : AHeap) : St := ⟨[.top, .v (.c (.int .i64 a1)), .top, .top, .loc 0 0, .loc 1 0, .top, .v (.c x7), .v (.c (.int .i64 a8)), .v (.c (.int .i64 a9)), .v (.c (.int .i64 a10)), .v (.c (.int .i64 a11)), .v (.c x12), .v (.c (.int .i64 a13)), .v (.c (.int .i64 a14)), .v (.c (.int .i64 a15)), .loc 2 0, .top, .top, .top, .top, .top, .top, .top, .top, .top, .top, .top, .top, .top, .top, .top, .top, .top, .top, .top, .top, .top, .top, .top, .top, .top, .top, .top, .top, .top, .top, .top, .top, .top, .top, .top, .top, .top, .top, .top, .top, .top, .top, .top, .top, .top, .top, .top, .top, .top, .top, .top, .top, .top, .top, .top, .top, .top, .top, .top, .top, .top, .top, .top, .top, .top, .top, .top, .top, .top, .top, .top, .top, .top, .top, .top, .top, .top, .top, .top, .top, .top, .top, .top, .top, .top, .top, .top, .top, .top, .top, .top, .top, .top, .top, .top, .top, .top, .top, .top, .top, .top, .top, .top, .top, .top, .top, .top, .top, .top, .top, .top, .top, .top, .top, .top, .top, .top, .top, .top, .top, .top, .top, .top, .top, .top, .top, .top, .top, .top, .top, .top, .top, .top, .top, .top, .top, .top, .top, .top, .top, .top, .top, .top, .top, .top, .top, .top, .top, .top, .top, .top, .top, .top, .top, .top, .top, .top, .top, .top, .top, .top, .top, .top, .top, .top, .top, .top], [some s0, some s1, some s2], h⟩
def jacquardlaw3_Small_k12 (C : CallF) (L : LoopF) (G : Glo) : Ex → St → Option (Ex × St) :=
  kBlk 4 (jacquardlaw3_Small_k10 C L G)
def jacquardlaw3_Small_k13 (C : CallF) (L : LoopF) (G : Glo) : Ex → St → Option (Ex × St) :=
  kSeq (fun st => jacquardlaw3_Small_p7.exec C L G st (jacquardlaw3_Small_k12 C L G)) (jacquardlaw3_Small_k12 C L G)
def jacquardlaw3_Small_c3 (a1 : Int) (x7 : Cell) (a8 : Int) (a9 : Int) (a10 : Int) (a11 : Int) (x12 : Cell) (a13 : Int) (a15 : Int) (a17 : Int) (a83 : Int) (b95 : Bool) (s0 : List Cell) (s1 : List Cell) (s2 : List Cell) (h : AHeap) : St := ⟨[.top, .v (.c (.int .i64 a1)), .top, .top, .loc 0 0, .loc 1 0, .top, .v (.c x7), .v (.c (.int .i64 a8)), .v (.c (.int .i64 a9)), .v (.c (.int .i64 a10)), .v (.c (.int .i64 a11)), .v (.c x12), .v (.c (.int .i64 a13)), .top, .v (.c (.int .i64 a15)), .loc 2 0, .v (.c (.int .i64 a17)), .top, .top, .top, .top, .top, .top, .top, .top, .top, .top, .top, .top, .top, .top, .top, .top, .top, .top, .top, .top, .top, .top, .top, .top, .top, .top, .top, .top, .top, .top, .top, .top, .top, .top, .top, .top, .top, .top, .top, .top, .top, .top, .top, .top, .top, .top, .top, .top, .top, .top, .top, .top, .top, .top, .top, .top, .top, .top, .top, .top, .top, .top, .top, .top, .top, .v (.c (.int .i64 a83)), .top, .top, .top, .top, .top, .top, .top, .top, .top, .top, .top, .v (.c (.bool b95)), .top, .top, .top, .top, .top, .top, .top, .top, .top, .top, .top, .top, .top, .top, .top, .top, .top, .top, .top, .top, .top, .top, .top, .top, .top, .top, .top, .top, .top, .top, .top, .top, .top, .top, .top, .top, .top, .top, .top, .top, .top, .top, .top, .top, .top, .top, .top, .top, .top, .top, .top, .top, .top, .top, .top, .top, .top, .top, .top, .top, .top, .top, .top, .top, .top, .top, .top, .top, .top, .top, .top, .top, .top, .top, .top, .top, .top, .top, .top, .top, .top, .top, .top, .top, .top, .top, .top, .top], [some s0, some s1, some s2], h⟩
def jacquardlaw3_Small_k14 (C : CallF) (L : LoopF) (G : Glo) : Ex → St → Option (Ex × St) :=
  kSeq (fun st => jacquardlaw3_Small_p8.exec C L G st (jacquardlaw3_Small_k12 C L G)) (jacquardlaw3_Small_k12 C L G)
def jacquardlaw3_Small_c4 (a1 : Int) (x7 : Cell) (a8 : Int) (a9 : Int) (a10 : Int) (a11 : Int) (x12 : Cell) (a13 : Int) (a15 : Int) (a17 : Int) (a83 : Int) (b108 : Bool) (s0 : List Cell) (s1 : List Cell) (s2 : List Cell) (h : AHeap) : St := ⟨[.top, .v (.c (.int .i64 a1)), .top, .top, .loc 0 0, .loc 1 0, .top, .v (.c x7), .v (.c (.int .i64 a8)), .v (.c (.int .i64 a9)), .v (.c (.int .i64 a10)), .v (.c (.int .i64 a11)), .v (.c x12), .v (.c (.int .i64 a13)), .top, .v (.c (.int .i64 a15)), .loc 2 0, .v (.c (.int .i64 a17)), .top, .top, .top, .top, .top, .top, .top, .top, .top, .top, .top, .top, .top, .top, .top, .top, .top, .top, .top, .top, .top, .top, .top, .top, .top, .top, .top, .top, .top, .top, .top, .top, .top, .top, .top, .top, .top, .top, .top, .top, .top, .top, .top, .top, .top, .top, .top, .top, .top, .top, .top, .top, .top, .top, .top, .top, .top, .top, .top, .top, .top, .top, .top, .top, .top, .v (.c (.int .i64 a83)), .top, .top, .top, .top, .top, .top, .top, .top, .top, .top, .top, .top, .top, .top, .top, .top, .top, .top, .top, .top, .top, .top, .top, .top, .v (.c (.bool b108)), .top, .top, .top, .top, .top, .top, .top, .top, .top, .top, .top, .top, .top, .top, .top, .top, .top, .top, .top, .top, .top, .top, .top, .top, .top, .top, .top, .top, .top, .top, .top, .top, .top, .top, .top, .top, .top, .top, .top, .top, .top, .top, .top, .top, .top, .top, .top, .top, .top, .top, .top, .top, .top, .top, .top, .top, .top, .top, .top, .top, .top, .top, .top, .top, .top, .top, .top, .top, .top, .top, .top, .top, .top, .top, .top], [some s0, some s1, some s2], h⟩
def jacquardlaw3_Small_x1_3 (a1 : Int) (x7 : Cell) (a8 : Int) (a9 : Int) (a10 : Int) (a11 : Int) (x12 : Cell) (s0 : List Cell) (s1 : List Cell) (h : AHeap) : St := ⟨[.top, .v (.c (.int .i64 a1)), .top, .top, .loc 0 0, .loc 1 0, .top, .v (.c x7), .v (.c (.int .i64 a8)), .v (.c (.int .i64 a9)), .v (.c (.int .i64 a10)), .v (.c (.int .i64 a11)), .v (.c x12), .top, .top, .top, .top, .top, .top, .top, .top, .top, .top, .top, .top, .top, .top, .top, .top, .top, .top, .top, .top, .top, .top, .top, .top, .top, .top, .top, .top, .top, .top, .top, .top, .top, .top, .top, .top, .top, .top, .top, .top, .top, .top, .top, .top, .top, .top, .top, .top, .top, .top, .top, .top, .top, .top, .top, .top, .top, .top, .top, .top, .top, .top, .top, .top, .top, .top, .top, .top, .top, .top, .top, .top, .top, .top, .top, .top, .top, .top, .top, .top, .top, .top, .top, .top, .top, .top, .top, .top, .top, .top, .top, .top, .top, .top, .top, .top, .top, .top, .top, .top, .top, .top, .top, .top, .top, .top, .top, .top, .top, .top, .top, .top, .top, .top, .top, .top, .top, .top, .top, .top, .top, .top, .top, .top, .top, .top, .top, .top, .top, .top, .top, .top, .top, .top, .top, .top, .top, .top, .top, .top, .top, .top, .top, .top, .top, .top, .top, .top, .top, .top, .top, .top, .top, .top, .top, .top, .top, .top, .top, .top, .top, .top, .top, .top, .top, .top, .top, .top, .top, .top, .top], [some s0, some s1, none], h⟩
def jacquardlaw3_Small_x2_1 (x7 : Cell) (s0 : List Cell) (s1 : List Cell) (h : AHeap) : St := ⟨[.top, .top, .top, .top, .loc 0 0, .loc 1 0, .top, .v (.c x7), .top, .top, .top, .top, .top, .top, .top, .top, .top, .top, .top, .top, .top, .top, .top, .top, .top, .top, .top, .top, .top, .top, .top, .top, .top, .top, .top, .top, .top, .top, .top, .top, .top, .top, .top, .top, .top, .top, .top, .top, .top, .top, .top, .top, .top, .top, .top, .top, .top, .top, .top, .top, .top, .top, .top, .top, .top, .top, .top, .top, .top, .top, .top, .top, .top, .top, .top, .top, .top, .top, .top, .top, .top, .top, .top, .top, .top, .top, .top, .top, .top, .top, .top, .top, .top, .top, .top, .top, .top, .top, .top, .top, .top, .top, .top, .top, .top, .top, .top, .top, .top, .top, .top, .top, .top, .top, .top, .top, .top, .top, .top, .top, .top, .top, .top, .top, .top, .top, .top, .top, .top, .top, .top, .top, .top, .top, .top, .top, .top, .top, .top, .top, .top, .top, .top, .top, .top, .top, .top, .top, .top, .top, .top, .top, .top, .top, .top, .top, .top, .top, .top, .top, .top, .top, .top, .top, .top, .top, .top, .top, .top, .top, .top, .top, .top, .top, .top, .top, .top, .top, .top, .top, .top, .top, .top, .top], [some s0, some s1, none], h⟩
theorem jacquardlaw3_Small_ec4_n (C : CallF) (L : LoopF) (G : Glo) (a1 : Int) (x7 : Cell) (a8 : Int) (a9 : Int) (a10 : Int) (a11 : Int) (x12 : Cell) (a13 : Int) (a15 : Int) (a17 : Int) (a83 : Int) (b108 : Bool) (s0 : List Cell) (s1 : List Cell) (s2 : List Cell) (h : AHeap) :
    (jacquardlaw3_Small_k14 C L G) .normal (jacquardlaw3_Small_c4 a1 x7 a8 a9 a10 a11 x12 a13 a15 a17 a83 b108 s0 s1 s2 h) =
    if b108 = true then if (splice (splice (splice (List.replicate 9 (Cell.int .i64 0)) 0 ([(.int .i64 2)] : List Cell)) 1 ([(.int .i64 a17)] : List Cell)) 2 ([(.int .i64 a15)] : List Cell)).length = 9 ∧ 0 + 9 ≤ (List.replicate 9 (Cell.int .i64 0)).length then if (splice (List.replicate 9 (Cell.int .i64 0)) 0 (splice (splice (splice (List.replicate 9 (Cell.int .i64 0)) 0 ([(.int .i64 2)] : List Cell)) 1 ([(.int .i64 a17)] : List Cell)) 2 ([(.int .i64 a15)] : List Cell))).length = 1 * 9 then appK 9 72 x12 (splice (List.replicate 9 (Cell.int .i64 0)) 0 (splice (splice (splice (List.replicate 9 (Cell.int .i64 0)) 0 ([(.int .i64 2)] : List Cell)) 1 ([(.int .i64 a17)] : List Cell)) 2 ([(.int .i64 a15)] : List Cell))) h fun x_41 h_42 => some (.normal, (jacquardlaw3_Small_s1 a1 x7 a8 a9 (G.wrap .i64 (a10 + 1)) a11 x_41 (G.wrap .i64 (a13 - 1)) s0 s1 h_42)) else none else none else if (a83 == 8) = true then if (splice (List.replicate 9 (Cell.int .i64 0)) 0 ([(.int .i64 3)] : List Cell)).length = 9 ∧ 0 + 9 ≤ (List.replicate 9 (Cell.int .i64 0)).length then if (splice (List.replicate 9 (Cell.int .i64 0)) 0 (splice (List.replicate 9 (Cell.int .i64 0)) 0 ([(.int .i64 3)] : List Cell))).length = 1 * 9 then appK 9 72 x12 (splice (List.replicate 9 (Cell.int .i64 0)) 0 (splice (List.replicate 9 (Cell.int .i64 0)) 0 ([(.int .i64 3)] : List Cell))) h fun x_43 h_44 => some (.normal, (jacquardlaw3_Small_s1 a1 x7 a8 a9 a10 a11 x_43 (G.wrap .i64 (a13 - 1)) s0 s1 h_44)) else none else none else if (a83 == 9) = true then if 0 = 0 ∧ s2.length = 2 then if s2.length = 2 ∧ 3 + 2 ≤ (splice (splice (splice (List.replicate 9 (Cell.int .i64 0)) 0 ([(.int .i64 4)] : List Cell)) 1 ([(.int .i64 a17)] : List Cell)) 2 ([(.int .i64 a15)] : List Cell)).length then if (splice (splice [Cell.int .i64 0, Cell.int .i64 0] 0 ([(.int .i64 (-1))] : List Cell)) 1 ([(.int .i64 1)] : List Cell)).length = 2 ∧ 6 + 2 ≤ (splice (splice (splice (splice (List.replicate 9 (Cell.int .i64 0)) 0 ([(.int .i64 4)] : List Cell)) 1 ([(.int .i64 a17)] : List Cell)) 2 ([(.int .i64 a15)] : List Cell)) 3 s2).length then if (splice (splice (splice (splice (splice (List.replicate 9 (Cell.int .i64 0)) 0 ([(.int .i64 4)] : List Cell)) 1 ([(.int .i64 a17)] : List Cell)) 2 ([(.int .i64 a15)] : List Cell)) 3 s2) 6 (splice (splice [Cell.int .i64 0, Cell.int .i64 0] 0 ([(.int .i64 (-1))] : List Cell)) 1 ([(.int .i64 1)] : List Cell))).length = 9 ∧ 0 + 9 ≤ (List.replicate 9 (Cell.int .i64 0)).length then if (splice (List.replicate 9 (Cell.int .i64 0)) 0 (splice (splice (splice (splice (splice (List.replicate 9 (Cell.int .i64 0)) 0 ([(.int .i64 4)] : List Cell)) 1 ([(.int .i64 a17)] : List Cell)) 2 ([(.int .i64 a15)] : List Cell)) 3 s2) 6 (splice (splice [Cell.int .i64 0, Cell.int .i64 0] 0 ([(.int .i64 (-1))] : List Cell)) 1 ([(.int .i64 1)] : List Cell)))).length = 1 * 9 then appK 9 72 x12 (splice (List.replicate 9 (Cell.int .i64 0)) 0 (splice (splice (splice (splice (splice (List.replicate 9 (Cell.int .i64 0)) 0 ([(.int .i64 4)] : List Cell)) 1 ([(.int .i64 a17)] : List Cell)) 2 ([(.int .i64 a15)] : List Cell)) 3 s2) 6 (splice (splice [Cell.int .i64 0, Cell.int .i64 0] 0 ([(.int .i64 (-1))] : List Cell)) 1 ([(.int .i64 1)] : List Cell)))) h fun x_45 h_46 => some (.normal, (jacquardlaw3_Small_s1 a1 x7 a8 a9 (G.wrap .i64 (a10 + 1)) a11 x_45 (G.wrap .i64 (a13 - 1)) s0 s1 h_46)) else none else none else none else none else none else if (a83 == 10) = true then if 0 = 0 ∧ s2.length = 2 then if s2.length = 2 ∧ 3 + 2 ≤ (splice (splice (List.replicate 9 (Cell.int .i64 0)) 0 ([(.int .i64 5)] : List Cell)) 1 ([(.int .i64 a17)] : List Cell)).length then if ([(.int .i64 6)] : List Cell).length = 1 ∧ 5 + 1 ≤ (splice (splice (splice (List.replicate 9 (Cell.int .i64 0)) 0 ([(.int .i64 5)] : List Cell)) 1 ([(.int .i64 a17)] : List Cell)) 3 s2).length then if (splice (splice [Cell.int .i64 0, Cell.int .i64 0] 0 ([(.int .i64 (-1))] : List Cell)) 1 ([(.int .i64 1)] : List Cell)).length = 2 ∧ 6 + 2 ≤ (splice (splice (splice (splice (List.replicate 9 (Cell.int .i64 0)) 0 ([(.int .i64 5)] : List Cell)) 1 ([(.int .i64 a17)] : List Cell)) 3 s2) 5 ([(.int .i64 6)] : List Cell)).length then if (splice (splice (splice (splice (splice (List.replicate 9 (Cell.int .i64 0)) 0 ([(.int .i64 5)] : List Cell)) 1 ([(.int .i64 a17)] : List Cell)) 3 s2) 5 ([(.int .i64 6)] : List Cell)) 6 (splice (splice [Cell.int .i64 0, Cell.int .i64 0] 0 ([(.int .i64 (-1))] : List Cell)) 1 ([(.int .i64 1)] : List Cell))).length = 9 ∧ 0 + 9 ≤ (List.replicate 9 (Cell.int .i64 0)).length then if (splice (List.replicate 9 (Cell.int .i64 0)) 0 (splice (splice (splice (splice (splice (List.replicate 9 (Cell.int .i64 0)) 0 ([(.int .i64 5)] : List Cell)) 1 ([(.int .i64 a17)] : List Cell)) 3 s2) 5 ([(.int .i64 6)] : List Cell)) 6 (splice (splice [Cell.int .i64 0, Cell.int .i64 0] 0 ([(.int .i64 (-1))] : List Cell)) 1 ([(.int .i64 1)] : List Cell)))).length = 1 * 9 then appK 9 72 x12 (splice (List.replicate 9 (Cell.int .i64 0)) 0 (splice (splice (splice (splice (splice (List.replicate 9 (Cell.int .i64 0)) 0 ([(.int .i64 5)] : List Cell)) 1 ([(.int .i64 a17)] : List Cell)) 3 s2) 5 ([(.int .i64 6)] : List Cell)) 6 (splice (splice [Cell.int .i64 0, Cell.int .i64 0] 0 ([(.int .i64 (-1))] : List Cell)) 1 ([(.int .i64 1)] : List Cell)))) h fun x_47 h_48 => some (.normal, (jacquardlaw3_Small_s1 a1 x7 a8 a9 a10 a11 x_47 (G.wrap .i64 (a13 - 1)) s0 s1 h_48)) else none else none else none else none else none else none else if 0 = 0 ∧ s2.length = 2 then if s2.length = 2 ∧ 3 + 2 ≤ (splice (List.replicate 9 (Cell.int .i64 0)) 0 ([(.int .i64 6)] : List Cell)).length then if (splice [Cell.int .i64 0, Cell.int .i64 0] 0 ([(.int .i64 (-1))] : List Cell)).length = 2 ∧ 6 + 2 ≤ (splice (splice (List.replicate 9 (Cell.int .i64 0)) 0 ([(.int .i64 6)] : List Cell)) 3 s2).length then if ([(.int .i64 1)] : List Cell).length = 1 ∧ 8 + 1 ≤ (splice (splice (splice (List.replicate 9 (Cell.int .i64 0)) 0 ([(.int .i64 6)] : List Cell)) 3 s2) 6 (splice [Cell.int .i64 0, Cell.int .i64 0] 0 ([(.int .i64 (-1))] : List Cell))).length then if (splice (splice [Cell.int .i64 0, Cell.int .i64 0] 0 ([(.int .i64 (-1))] : List Cell)) 1 ([(.int .i64 2)] : List Cell)).length = 2 ∧ 3 + 2 ≤ (splice (splice (List.replicate 9 (Cell.int .i64 0)) 0 ([(.int .i64 1)] : List Cell)) 2 ([(.int .i64 a15)] : List Cell)).length then if (splice (splice (splice (splice (List.replicate 9 (Cell.int .i64 0)) 0 ([(.int .i64 6)] : List Cell)) 3 s2) 6 (splice [Cell.int .i64 0, Cell.int .i64 0] 0 ([(.int .i64 (-1))] : List Cell))) 8 ([(.int .i64 1)] : List Cell)).length = 9 ∧ 0 + 9 ≤ (List.replicate 18 (Cell.int .i64 0)).length then if (splice (splice (splice (List.replicate 9 (Cell.int .i64 0)) 0 ([(.int .i64 1)] : List Cell)) 2 ([(.int .i64 a15)] : List Cell)) 3 (splice (splice [Cell.int .i64 0, Cell.int .i64 0] 0 ([(.int .i64 (-1))] : List Cell)) 1 ([(.int .i64 2)] : List Cell))).length = 9 ∧ 9 + 9 ≤ (splice (List.replicate 18 (Cell.int .i64 0)) 0 (splice (splice (splice (splice (List.replicate 9 (Cell.int .i64 0)) 0 ([(.int .i64 6)] : List Cell)) 3 s2) 6 (splice [Cell.int .i64 0, Cell.int .i64 0] 0 ([(.int .i64 (-1))] : List Cell))) 8 ([(.int .i64 1)] : List Cell))).length then if (splice (splice (List.replicate 18 (Cell.int .i64 0)) 0 (splice (splice (splice (splice (List.replicate 9 (Cell.int .i64 0)) 0 ([(.int .i64 6)] : List Cell)) 3 s2) 6 (splice [Cell.int .i64 0, Cell.int .i64 0] 0 ([(.int .i64 (-1))] : List Cell))) 8 ([(.int .i64 1)] : List Cell))) 9 (splice (splice (splice (List.replicate 9 (Cell.int .i64 0)) 0 ([(.int .i64 1)] : List Cell)) 2 ([(.int .i64 a15)] : List Cell)) 3 (splice (splice [Cell.int .i64 0, Cell.int .i64 0] 0 ([(.int .i64 (-1))] : List Cell)) 1 ([(.int .i64 2)] : List Cell)))).length = 2 * 9 then appK 9 72 x12 (splice (splice (List.replicate 18 (Cell.int .i64 0)) 0 (splice (splice (splice (splice (List.replicate 9 (Cell.int .i64 0)) 0 ([(.int .i64 6)] : List Cell)) 3 s2) 6 (splice [Cell.int .i64 0, Cell.int .i64 0] 0 ([(.int .i64 (-1))] : List Cell))) 8 ([(.int .i64 1)] : List Cell))) 9 (splice (splice (splice (List.replicate 9 (Cell.int .i64 0)) 0 ([(.int .i64 1)] : List Cell)) 2 ([(.int .i64 a15)] : List Cell)) 3 (splice (splice [Cell.int .i64 0, Cell.int .i64 0] 0 ([(.int .i64 (-1))] : List Cell)) 1 ([(.int .i64 2)] : List Cell)))) h fun x_49 h_50 => some (.normal, (jacquardlaw3_Small_s1 a1 x7 a8 a9 (G.wrap .i64 (a10 + 1)) a11 x_49 (G.wrap .i64 (a13 - 1)) s0 s1 h_50)) else none else none else none else none else none else none else none else none := by kernel_rfl
theorem jacquardlaw3_Small_ec3_n (C : CallF) (L : LoopF) (G : Glo) (a1 : Int) (x7 : Cell) (a8 : Int) (a9 : Int) (a10 : Int) (a11 : Int) (x12 : Cell) (a13 : Int) (a15 : Int) (a17 : Int) (a83 : Int) (b95 : Bool) (s0 : List Cell) (s1 : List Cell) (s2 : List Cell) (h : AHeap) :
    (jacquardlaw3_Small_k13 C L G) .normal (jacquardlaw3_Small_c3 a1 x7 a8 a9 a10 a11 x12 a13 a15 a17 a83 b95 s0 s1 s2 h) =
    if b95 = true then if 0 = 0 ∧ s2.length = 2 then if s2.length = 2 ∧ 3 + 2 ≤ (splice (splice (List.replicate 9 (Cell.int .i64 0)) 0 ([(.int .i64 1)] : List Cell)) 2 ([(.int .i64 a15)] : List Cell)).length then if (splice (splice (splice (List.replicate 9 (Cell.int .i64 0)) 0 ([(.int .i64 1)] : List Cell)) 2 ([(.int .i64 a15)] : List Cell)) 3 s2).length = 9 ∧ 0 + 9 ≤ (List.replicate 9 (Cell.int .i64 0)).length then if (splice (List.replicate 9 (Cell.int .i64 0)) 0 (splice (splice (splice (List.replicate 9 (Cell.int .i64 0)) 0 ([(.int .i64 1)] : List Cell)) 2 ([(.int .i64 a15)] : List Cell)) 3 s2)).length = 1 * 9 then appK 9 72 x12 (splice (List.replicate 9 (Cell.int .i64 0)) 0 (splice (splice (splice (List.replicate 9 (Cell.int .i64 0)) 0 ([(.int .i64 1)] : List Cell)) 2 ([(.int .i64 a15)] : List Cell)) 3 s2)) h fun x_39 h_40 => some (.normal, (jacquardlaw3_Small_s1 a1 x7 a8 a9 (G.wrap .i64 (a10 + 1)) a11 x_39 (G.wrap .i64 (a13 - 1)) s0 s1 h_40)) else none else none else none else none else (if (a83 == 4) = true then some (.normal, (jacquardlaw3_Small_c4 a1 x7 a8 a9 a10 a11 x12 a13 a15 a17 a83 (a83 == 4) s0 s1 s2 h)) else if (a83 == 5) = true then some (.normal, (jacquardlaw3_Small_c4 a1 x7 a8 a9 a10 a11 x12 a13 a15 a17 a83 (a83 == 5) s0 s1 s2 h)) else if (a83 == 6) = true then some (.normal, (jacquardlaw3_Small_c4 a1 x7 a8 a9 a10 a11 x12 a13 a15 a17 a83 (a83 == 6) s0 s1 s2 h)) else some (.normal, (jacquardlaw3_Small_c4 a1 x7 a8 a9 a10 a11 x12 a13 a15 a17 a83 (a83 == 7) s0 s1 s2 h)) : Option (Ex × St)).bind fun p_51 => (jacquardlaw3_Small_k14 C L G) p_51.1 p_51.2 := by kernel_rfl
theorem jacquardlaw3_Small_ec2_n (C : CallF) (L : LoopF) (G : Glo) (a1 : Int) (x7 : Cell) (a8 : Int) (a9 : Int) (a10 : Int) (a11 : Int) (x12 : Cell) (a13 : Int) (a14 : Int) (a15 : Int) (s0 : List Cell) (s1 : List Cell) (s2 : List Cell) (h : AHeap) :
    (jacquardlaw3_Small_k11 C L G) .normal (jacquardlaw3_Small_c2 a1 x7 a8 a9 a10 a11 x12 a13 a14 a15 s0 s1 s2 h) =
    (if ((G.rem .i64 a14 12) == 0) = true then some (.normal, (jacquardlaw3_Small_c3 a1 x7 a8 a9 a10 a11 x12 a13 a15 (G.band .i64 (G.shr .i64 a14 11) 1) (G.rem .i64 a14 12) ((G.rem .i64 a14 12) == 0) s0 s1 s2 h)) else if ((G.rem .i64 a14 12) == 1) = true then some (.normal, (jacquardlaw3_Small_c3 a1 x7 a8 a9 a10 a11 x12 a13 a15 (G.band .i64 (G.shr .i64 a14 11) 1) (G.rem .i64 a14 12) ((G.rem .i64 a14 12) == 1) s0 s1 s2 h)) else if ((G.rem .i64 a14 12) == 2) = true then some (.normal, (jacquardlaw3_Small_c3 a1 x7 a8 a9 a10 a11 x12 a13 a15 (G.band .i64 (G.shr .i64 a14 11) 1) (G.rem .i64 a14 12) ((G.rem .i64 a14 12) == 2) s0 s1 s2 h)) else some (.normal, (jacquardlaw3_Small_c3 a1 x7 a8 a9 a10 a11 x12 a13 a15 (G.band .i64 (G.shr .i64 a14 11) 1) (G.rem .i64 a14 12) ((G.rem .i64 a14 12) == 3) s0 s1 s2 h)) : Option (Ex × St)).bind fun p_52 => (jacquardlaw3_Small_k13 C L G) p_52.1 p_52.2 := by kernel_rfl
theorem jacquardlaw3_Small_r1 (C : CallF) (L : LoopF) (G : Glo) (a1 : Int) (x7 : Cell) (a8 : Int) (a9 : Int) (a10 : Int) (a11 : Int) (x12 : Cell) (a13 : Int) (s0 : List Cell) (s1 : List Cell) (h : AHeap) :
    jacquardlaw3_Small_F1 C L G (jacquardlaw3_Small_s1 a1 x7 a8 a9 a10 a11 x12 a13 s0 s1 h) =
    scK (decide (a13 > 0)) true (some ((decide (a10 < a1)), h)) false h fun b_31 h_32 => if b_31 = true then fnK x7 fun g_33 l_34 => c1 (C g_33 ([] ++ l_34) h_32) fun y_36 h_35 => asI .i64 y_36 fun n_37 => if a9 = 0 then none else let v_38 : Int := (G.wrap .i64 (120 + (G.rem .i64 (G.shr .i64 n_37 4) a9))); if 0 = 0 ∧ [Cell.int .i64 0, Cell.int .i64 0].length = 2 ∧ (splice (splice [Cell.int .i64 0, Cell.int .i64 0] 0 ([(.int .i64 (-1))] : List Cell)) 1 ([(.int .i64 (G.rem .i64 (G.shr .i64 n_37 6) 3))] : List Cell)).length = 2 then (if ((G.rem .i64 (G.shr .i64 n_37 8) 3) == 0) = true then if 0 = 0 ∧ (splice (splice [Cell.int .i64 0, Cell.int .i64 0] 0 ([(.int .i64 (-1))] : List Cell)) 1 ([(.int .i64 (G.rem .i64 (G.shr .i64 n_37 6) 3))] : List Cell)).length = 2 ∧ (splice [Cell.int .i64 0, Cell.int .i64 0] 0 ([(.int .i64 (G.band .i64 (G.shr .i64 n_37 10) 1))] : List Cell)).length = 2 then some (.normal, (jacquardlaw3_Small_c2 a1 x7 a8 a9 a10 a11 x12 a13 n_37 v_38 s0 s1 (splice [Cell.int .i64 0, Cell.int .i64 0] 0 ([(.int .i64 (G.band .i64 (G.shr .i64 n_37 10) 1))] : List Cell)) h_35)) else none else some (.normal, (jacquardlaw3_Small_c2 a1 x7 a8 a9 a10 a11 x12 a13 n_37 v_38 s0 s1 (splice (splice [Cell.int .i64 0, Cell.int .i64 0] 0 ([(.int .i64 (-1))] : List Cell)) 1 ([(.int .i64 (G.rem .i64 (G.shr .i64 n_37 6) 3))] : List Cell)) h_35)) : Option (Ex × St)).bind fun p_53 => (jacquardlaw3_Small_k11 C L G) p_53.1 p_53.2 else none else some ((.exit 2), (jacquardlaw3_Small_x1_3 a1 x7 a8 a9 a10 a11 x12 s0 s1 h_32)) := by kernel_rfl
theorem jacquardlaw3_Small_e1_3 (C : CallF) (L : LoopF) (G : Glo) (a1 : Int) (x7 : Cell) (a8 : Int) (a9 : Int) (a10 : Int) (a11 : Int) (x12 : Cell) (s0 : List Cell) (s1 : List Cell) (h : AHeap) :
    (jacquardlaw3_Small_k8 C L G) (.exit 2) (jacquardlaw3_Small_x1_3 a1 x7 a8 a9 a10 a11 x12 s0 s1 h) =
    atK s1 2 fun q_54 => if (splice [Cell.nils] 0 ([x12] : List Cell)).length = 1 * 1 then appK 1 24 q_54 (splice [Cell.nils] 0 ([x12] : List Cell)) h fun x_55 h_56 => if 2 < s1.length then some (.normal, (jacquardlaw3_Small_s2 a1 x7 a8 a9 a10 (G.wrap .i64 (a11 + 1)) s0 (s1.set 2 x_55) h_56)) else none else none := by kernel_rfl
theorem jacquardlaw3_Small_r2 (C : CallF) (L : LoopF) (G : Glo) (a1 : Int) (x7 : Cell) (a8 : Int) (a9 : Int) (a10 : Int) (a11 : Int) (s0 : List Cell) (s1 : List Cell) (h : AHeap) :
    jacquardlaw3_Small_F2 C L G (jacquardlaw3_Small_s2 a1 x7 a8 a9 a10 a11 s0 s1 h) =
    if (decide (a11 < a8)) = true then fnK x7 fun g_26 l_27 => c1 (C g_26 ([] ++ l_27) h) fun y_29 h_28 => asI .i64 y_29 fun n_30 => (L (jacquardlaw3_Small_F1 C L G) (jacquardlaw3_Small_s1 a1 x7 a8 a9 a10 a11 .nils (G.wrap .i64 ((G.rem .i64 n_30 3) + 1)) s0 s1 h_28)).bind fun p_57 => (jacquardlaw3_Small_k8 C L G) p_57.1 p_57.2 else some ((.exit 0), (jacquardlaw3_Small_x2_1 x7 s0 s1 h)) := by kernel_rfl
theorem jacquardlaw3_Small_e2_1 (C : CallF) (L : LoopF) (G : Glo) (h0 : AHeap) (x7 : Cell) (s0 : List Cell) (s1 : List Cell) (h : AHeap) :
    (jacquardlaw3_Small_k4 C L G h0) (.exit 0) (jacquardlaw3_Small_x2_1 x7 s0 s1 h) =
    fnK x7 fun g_58 l_59 => c1 (C g_58 ([] ++ l_59) h) fun y_61 h_60 => asI .i64 y_61 fun n_62 => if ((G.rem .i64 n_62 3) == 0) = true then let v_63 : Int := (G.wrap .i64 ((G.rem .i64 (G.quo .i64 n_62 3) 2) + 1)); if (splice (splice (splice [Cell.int .i64 0, Cell.int .i64 0, Cell.int .i64 0, Cell.int .i64 0] 0 ([(.int .i64 0)] : List Cell)) 1 ([(.int .i64 (G.band .i64 (G.shr .i64 n_62 3) 1))] : List Cell)) 3 ([(.int .i64 (G.band .i64 (G.shr .i64 n_62 4) 1))] : List Cell)).length = 4 ∧ 0 + 4 ≤ [Cell.int .i64 0, Cell.int .i64 0, Cell.int .i64 0, Cell.int .i64 0].length then if (splice [Cell.int .i64 0, Cell.int .i64 0, Cell.int .i64 0, Cell.int .i64 0] 0 (splice (splice (splice [Cell.int .i64 0, Cell.int .i64 0, Cell.int .i64 0, Cell.int .i64 0] 0 ([(.int .i64 0)] : List Cell)) 1 ([(.int .i64 (G.band .i64 (G.shr .i64 n_62 3) 1))] : List Cell)) 3 ([(.int .i64 (G.band .i64 (G.shr .i64 n_62 4) 1))] : List Cell))).length = 1 * 4 then if (splice (splice (splice [Cell.int .i64 0, Cell.int .i64 0, Cell.int .i64 0, Cell.int .i64 0] 0 ([(.int .i64 (-1))] : List Cell)) 2 ([(.int .i64 120)] : List Cell)) 3 ([(.int .i64 (G.rem .i64 (G.shr .i64 n_62 5) 3))] : List Cell)).length = 4 ∧ 0 + 4 ≤ (List.replicate 8 (Cell.int .i64 0)).length then if (splice (splice (splice [Cell.int .i64 0, Cell.int .i64 0, Cell.int .i64 0, Cell.int .i64 0] 0 ([(.int .i64 1)] : List Cell)) 1 ([(.int .i64 0)] : List Cell)) 3 ([(.int .i64 (G.band .i64 (G.shr .i64 n_62 7) 1))] : List Cell)).length = 4 ∧ 4 + 4 ≤ (splice (List.replicate 8 (Cell.int .i64 0)) 0 (splice (splice (splice [Cell.int .i64 0, Cell.int .i64 0, Cell.int .i64 0, Cell.int .i64 0] 0 ([(.int .i64 (-1))] : List Cell)) 2 ([(.int .i64 120)] : List Cell)) 3 ([(.int .i64 (G.rem .i64 (G.shr .i64 n_62 5) 3))] : List Cell))).length then if (splice (splice (List.replicate 8 (Cell.int .i64 0)) 0 (splice (splice (splice [Cell.int .i64 0, Cell.int .i64 0, Cell.int .i64 0, Cell.int .i64 0] 0 ([(.int .i64 (-1))] : List Cell)) 2 ([(.int .i64 120)] : List Cell)) 3 ([(.int .i64 (G.rem .i64 (G.shr .i64 n_62 5) 3))] : List Cell))) 4 (splice (splice (splice [Cell.int .i64 0, Cell.int .i64 0, Cell.int .i64 0, Cell.int .i64 0] 0 ([(.int .i64 1)] : List Cell)) 1 ([(.int .i64 0)] : List Cell)) 3 ([(.int .i64 (G.band .i64 (G.shr .i64 n_62 7) 1))] : List Cell))).length = 2 * 4 then if (splice (splice [Cell.nils, Cell.nils] 0 ([(.sl h_60.length ((splice [Cell.int .i64 0, Cell.int .i64 0, Cell.int .i64 0, Cell.int .i64 0] 0 (splice (splice (splice [Cell.int .i64 0, Cell.int .i64 0, Cell.int .i64 0, Cell.int .i64 0] 0 ([(.int .i64 0)] : List Cell)) 1 ([(.int .i64 (G.band .i64 (G.shr .i64 n_62 3) 1))] : List Cell)) 3 ([(.int .i64 (G.band .i64 (G.shr .i64 n_62 4) 1))] : List Cell))).length) 0 1)] : List Cell)) 1 ([(.sl ((h_60 ++ [some (Blk.mk true 4 (splice [Cell.int .i64 0, Cell.int .i64 0, Cell.int .i64 0, Cell.int .i64 0] 0 (splice (splice (splice [Cell.int .i64 0, Cell.int .i64 0, Cell.int .i64 0, Cell.int .i64 0] 0 ([(.int .i64 0)] : List Cell)) 1 ([(.int .i64 (G.band .i64 (G.shr .i64 n_62 3) 1))] : List Cell)) 3 ([(.int .i64 (G.band .i64 (G.shr .i64 n_62 4) 1))] : List Cell))))]).length) ((splice (splice (List.replicate 8 (Cell.int .i64 0)) 0 (splice (splice (splice [Cell.int .i64 0, Cell.int .i64 0, Cell.int .i64 0, Cell.int .i64 0] 0 ([(.int .i64 (-1))] : List Cell)) 2 ([(.int .i64 120)] : List Cell)) 3 ([(.int .i64 (G.rem .i64 (G.shr .i64 n_62 5) 3))] : List Cell))) 4 (splice (splice (splice [Cell.int .i64 0, Cell.int .i64 0, Cell.int .i64 0, Cell.int .i64 0] 0 ([(.int .i64 1)] : List Cell)) 1 ([(.int .i64 0)] : List Cell)) 3 ([(.int .i64 (G.band .i64 (G.shr .i64 n_62 7) 1))] : List Cell))).length) 0 2)] : List Cell)).length = 2 * 1 then if 3 + 2 ≤ s1.length ∧ (splice (splice [Cell.int .i64 0, Cell.nils] 0 ([(.int .i64 v_63)] : List Cell)) 1 ([(.sl (((h_60 ++ [some (Blk.mk true 4 (splice [Cell.int .i64 0, Cell.int .i64 0, Cell.int .i64 0, Cell.int .i64 0] 0 (splice (splice (splice [Cell.int .i64 0, Cell.int .i64 0, Cell.int .i64 0, Cell.int .i64 0] 0 ([(.int .i64 0)] : List Cell)) 1 ([(.int .i64 (G.band .i64 (G.shr .i64 n_62 3) 1))] : List Cell)) 3 ([(.int .i64 (G.band .i64 (G.shr .i64 n_62 4) 1))] : List Cell))))]) ++ [some (Blk.mk true 4 (splice (splice (List.replicate 8 (Cell.int .i64 0)) 0 (splice (splice (splice [Cell.int .i64 0, Cell.int .i64 0, Cell.int .i64 0, Cell.int .i64 0] 0 ([(.int .i64 (-1))] : List Cell)) 2 ([(.int .i64 120)] : List Cell)) 3 ([(.int .i64 (G.rem .i64 (G.shr .i64 n_62 5) 3))] : List Cell))) 4 (splice (splice (splice [Cell.int .i64 0, Cell.int .i64 0, Cell.int .i64 0, Cell.int .i64 0] 0 ([(.int .i64 1)] : List Cell)) 1 ([(.int .i64 0)] : List Cell)) 3 ([(.int .i64 (G.band .i64 (G.shr .i64 n_62 7) 1))] : List Cell))))]).length) ((splice (splice [Cell.nils, Cell.nils] 0 ([(.sl h_60.length ((splice [Cell.int .i64 0, Cell.int .i64 0, Cell.int .i64 0, Cell.int .i64 0] 0 (splice (splice (splice [Cell.int .i64 0, Cell.int .i64 0, Cell.int .i64 0, Cell.int .i64 0] 0 ([(.int .i64 0)] : List Cell)) 1 ([(.int .i64 (G.band .i64 (G.shr .i64 n_62 3) 1))] : List Cell)) 3 ([(.int .i64 (G.band .i64 (G.shr .i64 n_62 4) 1))] : List Cell))).length) 0 1)] : List Cell)) 1 ([(.sl ((h_60 ++ [some (Blk.mk true 4 (splice [Cell.int .i64 0, Cell.int .i64 0, Cell.int .i64 0, Cell.int .i64 0] 0 (splice (splice (splice [Cell.int .i64 0, Cell.int .i64 0, Cell.int .i64 0, Cell.int .i64 0] 0 ([(.int .i64 0)] : List Cell)) 1 ([(.int .i64 (G.band .i64 (G.shr .i64 n_62 3) 1))] : List Cell)) 3 ([(.int .i64 (G.band .i64 (G.shr .i64 n_62 4) 1))] : List Cell))))]).length) ((splice (splice (List.replicate 8 (Cell.int .i64 0)) 0 (splice (splice (splice [Cell.int .i64 0, Cell.int .i64 0, Cell.int .i64 0, Cell.int .i64 0] 0 ([(.int .i64 (-1))] : List Cell)) 2 ([(.int .i64 120)] : List Cell)) 3 ([(.int .i64 (G.rem .i64 (G.shr .i64 n_62 5) 3))] : List Cell))) 4 (splice (splice (splice [Cell.int .i64 0, Cell.int .i64 0, Cell.int .i64 0, Cell.int .i64 0] 0 ([(.int .i64 1)] : List Cell)) 1 ([(.int .i64 0)] : List Cell)) 3 ([(.int .i64 (G.band .i64 (G.shr .i64 n_62 7) 1))] : List Cell))).length) 0 2)] : List Cell)).length) 0 2)] : List Cell)).length = 2 then if 0 = 0 ∧ (splice s1 3 (splice (splice [Cell.int .i64 0, Cell.nils] 0 ([(.int .i64 v_63)] : List Cell)) 1 ([(.sl (((h_60 ++ [some (Blk.mk true 4 (splice [Cell.int .i64 0, Cell.int .i64 0, Cell.int .i64 0, Cell.int .i64 0] 0 (splice (splice (splice [Cell.int .i64 0, Cell.int .i64 0, Cell.int .i64 0, Cell.int .i64 0] 0 ([(.int .i64 0)] : List Cell)) 1 ([(.int .i64 (G.band .i64 (G.shr .i64 n_62 3) 1))] : List Cell)) 3 ([(.int .i64 (G.band .i64 (G.shr .i64 n_62 4) 1))] : List Cell))))]) ++ [some (Blk.mk true 4 (splice (splice (List.replicate 8 (Cell.int .i64 0)) 0 (splice (splice (splice [Cell.int .i64 0, Cell.int .i64 0, Cell.int .i64 0, Cell.int .i64 0] 0 ([(.int .i64 (-1))] : List Cell)) 2 ([(.int .i64 120)] : List Cell)) 3 ([(.int .i64 (G.rem .i64 (G.shr .i64 n_62 5) 3))] : List Cell))) 4 (splice (splice (splice [Cell.int .i64 0, Cell.int .i64 0, Cell.int .i64 0, Cell.int .i64 0] 0 ([(.int .i64 1)] : List Cell)) 1 ([(.int .i64 0)] : List Cell)) 3 ([(.int .i64 (G.band .i64 (G.shr .i64 n_62 7) 1))] : List Cell))))]).length) ((splice (splice [Cell.nils, Cell.nils] 0 ([(.sl h_60.length ((splice [Cell.int .i64 0, Cell.int .i64 0, Cell.int .i64 0, Cell.int .i64 0] 0 (splice (splice (splice [Cell.int .i64 0, Cell.int .i64 0, Cell.int .i64 0, Cell.int .i64 0] 0 ([(.int .i64 0)] : List Cell)) 1 ([(.int .i64 (G.band .i64 (G.shr .i64 n_62 3) 1))] : List Cell)) 3 ([(.int .i64 (G.band .i64 (G.shr .i64 n_62 4) 1))] : List Cell))).length) 0 1)] : List Cell)) 1 ([(.sl ((h_60 ++ [some (Blk.mk true 4 (splice [Cell.int .i64 0, Cell.int .i64 0, Cell.int .i64 0, Cell.int .i64 0] 0 (splice (splice (splice [Cell.int .i64 0, Cell.int .i64 0, Cell.int .i64 0, Cell.int .i64 0] 0 ([(.int .i64 0)] : List Cell)) 1 ([(.int .i64 (G.band .i64 (G.shr .i64 n_62 3) 1))] : List Cell)) 3 ([(.int .i64 (G.band .i64 (G.shr .i64 n_62 4) 1))] : List Cell))))]).length) ((splice (splice (List.replicate 8 (Cell.int .i64 0)) 0 (splice (splice (splice [Cell.int .i64 0, Cell.int .i64 0, Cell.int .i64 0, Cell.int .i64 0] 0 ([(.int .i64 (-1))] : List Cell)) 2 ([(.int .i64 120)] : List Cell)) 3 ([(.int .i64 (G.rem .i64 (G.shr .i64 n_62 5) 3))] : List Cell))) 4 (splice (splice (splice [Cell.int .i64 0, Cell.int .i64 0, Cell.int .i64 0, Cell.int .i64 0] 0 ([(.int .i64 1)] : List Cell)) 1 ([(.int .i64 0)] : List Cell)) 3 ([(.int .i64 (G.band .i64 (G.shr .i64 n_62 7) 1))] : List Cell))).length) 0 2)] : List Cell)).length) 0 2)] : List Cell))).length = 5 then if 0 = 0 ∧ s0.length = 5 ∧ (splice s1 3 (splice (splice [Cell.int .i64 0, Cell.nils] 0 ([(.int .i64 v_63)] : List Cell)) 1 ([(.sl (((h_60 ++ [some (Blk.mk true 4 (splice [Cell.int .i64 0, Cell.int .i64 0, Cell.int .i64 0, Cell.int .i64 0] 0 (splice (splice (splice [Cell.int .i64 0, Cell.int .i64 0, Cell.int .i64 0, Cell.int .i64 0] 0 ([(.int .i64 0)] : List Cell)) 1 ([(.int .i64 (G.band .i64 (G.shr .i64 n_62 3) 1))] : List Cell)) 3 ([(.int .i64 (G.band .i64 (G.shr .i64 n_62 4) 1))] : List Cell))))]) ++ [some (Blk.mk true 4 (splice (splice (List.replicate 8 (Cell.int .i64 0)) 0 (splice (splice (splice [Cell.int .i64 0, Cell.int .i64 0, Cell.int .i64 0, Cell.int .i64 0] 0 ([(.int .i64 (-1))] : List Cell)) 2 ([(.int .i64 120)] : List Cell)) 3 ([(.int .i64 (G.rem .i64 (G.shr .i64 n_62 5) 3))] : List Cell))) 4 (splice (splice (splice [Cell.int .i64 0, Cell.int .i64 0, Cell.int .i64 0, Cell.int .i64 0] 0 ([(.int .i64 1)] : List Cell)) 1 ([(.int .i64 0)] : List Cell)) 3 ([(.int .i64 (G.band .i64 (G.shr .i64 n_62 7) 1))] : List Cell))))]).length) ((splice (splice [Cell.nils, Cell.nils] 0 ([(.sl h_60.length ((splice [Cell.int .i64 0, Cell.int .i64 0, Cell.int .i64 0, Cell.int .i64 0] 0 (splice (splice (splice [Cell.int .i64 0, Cell.int .i64 0, Cell.int .i64 0, Cell.int .i64 0] 0 ([(.int .i64 0)] : List Cell)) 1 ([(.int .i64 (G.band .i64 (G.shr .i64 n_62 3) 1))] : List Cell)) 3 ([(.int .i64 (G.band .i64 (G.shr .i64 n_62 4) 1))] : List Cell))).length) 0 1)] : List Cell)) 1 ([(.sl ((h_60 ++ [some (Blk.mk true 4 (splice [Cell.int .i64 0, Cell.int .i64 0, Cell.int .i64 0, Cell.int .i64 0] 0 (splice (splice (splice [Cell.int .i64 0, Cell.int .i64 0, Cell.int .i64 0, Cell.int .i64 0] 0 ([(.int .i64 0)] : List Cell)) 1 ([(.int .i64 (G.band .i64 (G.shr .i64 n_62 3) 1))] : List Cell)) 3 ([(.int .i64 (G.band .i64 (G.shr .i64 n_62 4) 1))] : List Cell))))]).length) ((splice (splice (List.replicate 8 (Cell.int .i64 0)) 0 (splice (splice (splice [Cell.int .i64 0, Cell.int .i64 0, Cell.int .i64 0, Cell.int .i64 0] 0 ([(.int .i64 (-1))] : List Cell)) 2 ([(.int .i64 120)] : List Cell)) 3 ([(.int .i64 (G.rem .i64 (G.shr .i64 n_62 5) 3))] : List Cell))) 4 (splice (splice (splice [Cell.int .i64 0, Cell.int .i64 0, Cell.int .i64 0, Cell.int .i64 0] 0 ([(.int .i64 1)] : List Cell)) 1 ([(.int .i64 0)] : List Cell)) 3 ([(.int .i64 (G.band .i64 (G.shr .i64 n_62 7) 1))] : List Cell))).length) 0 2)] : List Cell)).length) 0 2)] : List Cell))).length = 5 then if 0 = 0 ∧ (splice s1 3 (splice (splice [Cell.int .i64 0, Cell.nils] 0 ([(.int .i64 v_63)] : List Cell)) 1 ([(.sl (((h_60 ++ [some (Blk.mk true 4 (splice [Cell.int .i64 0, Cell.int .i64 0, Cell.int .i64 0, Cell.int .i64 0] 0 (splice (splice (splice [Cell.int .i64 0, Cell.int .i64 0, Cell.int .i64 0, Cell.int .i64 0] 0 ([(.int .i64 0)] : List Cell)) 1 ([(.int .i64 (G.band .i64 (G.shr .i64 n_62 3) 1))] : List Cell)) 3 ([(.int .i64 (G.band .i64 (G.shr .i64 n_62 4) 1))] : List Cell))))]) ++ [some (Blk.mk true 4 (splice (splice (List.replicate 8 (Cell.int .i64 0)) 0 (splice (splice (splice [Cell.int .i64 0, Cell.int .i64 0, Cell.int .i64 0, Cell.int .i64 0] 0 ([(.int .i64 (-1))] : List Cell)) 2 ([(.int .i64 120)] : List Cell)) 3 ([(.int .i64 (G.rem .i64 (G.shr .i64 n_62 5) 3))] : List Cell))) 4 (splice (splice (splice [Cell.int .i64 0, Cell.int .i64 0, Cell.int .i64 0, Cell.int .i64 0] 0 ([(.int .i64 1)] : List Cell)) 1 ([(.int .i64 0)] : List Cell)) 3 ([(.int .i64 (G.band .i64 (G.shr .i64 n_62 7) 1))] : List Cell))))]).length) ((splice (splice [Cell.nils, Cell.nils] 0 ([(.sl h_60.length ((splice [Cell.int .i64 0, Cell.int .i64 0, Cell.int .i64 0, Cell.int .i64 0] 0 (splice (splice (splice [Cell.int .i64 0, Cell.int .i64 0, Cell.int .i64 0, Cell.int .i64 0] 0 ([(.int .i64 0)] : List Cell)) 1 ([(.int .i64 (G.band .i64 (G.shr .i64 n_62 3) 1))] : List Cell)) 3 ([(.int .i64 (G.band .i64 (G.shr .i64 n_62 4) 1))] : List Cell))).length) 0 1)] : List Cell)) 1 ([(.sl ((h_60 ++ [some (Blk.mk true 4 (splice [Cell.int .i64 0, Cell.int .i64 0, Cell.int .i64 0, Cell.int .i64 0] 0 (splice (splice (splice [Cell.int .i64 0, Cell.int .i64 0, Cell.int .i64 0, Cell.int .i64 0] 0 ([(.int .i64 0)] : List Cell)) 1 ([(.int .i64 (G.band .i64 (G.shr .i64 n_62 3) 1))] : List Cell)) 3 ([(.int .i64 (G.band .i64 (G.shr .i64 n_62 4) 1))] : List Cell))))]).length) ((splice (splice (List.replicate 8 (Cell.int .i64 0)) 0 (splice (splice (splice [Cell.int .i64 0, Cell.int .i64 0, Cell.int .i64 0, Cell.int .i64 0] 0 ([(.int .i64 (-1))] : List Cell)) 2 ([(.int .i64 120)] : List Cell)) 3 ([(.int .i64 (G.rem .i64 (G.shr .i64 n_62 5) 3))] : List Cell))) 4 (splice (splice (splice [Cell.int .i64 0, Cell.int .i64 0, Cell.int .i64 0, Cell.int .i64 0] 0 ([(.int .i64 1)] : List Cell)) 1 ([(.int .i64 0)] : List Cell)) 3 ([(.int .i64 (G.band .i64 (G.shr .i64 n_62 7) 1))] : List Cell))).length) 0 2)] : List Cell)).length) 0 2)] : List Cell))).length = 5 then some ([(.agg (splice s1 3 (splice (splice [Cell.int .i64 0, Cell.nils] 0 ([(.int .i64 v_63)] : List Cell)) 1 ([(.sl (((h_60 ++ [some (Blk.mk true 4 (splice [Cell.int .i64 0, Cell.int .i64 0, Cell.int .i64 0, Cell.int .i64 0] 0 (splice (splice (splice [Cell.int .i64 0, Cell.int .i64 0, Cell.int .i64 0, Cell.int .i64 0] 0 ([(.int .i64 0)] : List Cell)) 1 ([(.int .i64 (G.band .i64 (G.shr .i64 n_62 3) 1))] : List Cell)) 3 ([(.int .i64 (G.band .i64 (G.shr .i64 n_62 4) 1))] : List Cell))))]) ++ [some (Blk.mk true 4 (splice (splice (List.replicate 8 (Cell.int .i64 0)) 0 (splice (splice (splice [Cell.int .i64 0, Cell.int .i64 0, Cell.int .i64 0, Cell.int .i64 0] 0 ([(.int .i64 (-1))] : List Cell)) 2 ([(.int .i64 120)] : List Cell)) 3 ([(.int .i64 (G.rem .i64 (G.shr .i64 n_62 5) 3))] : List Cell))) 4 (splice (splice (splice [Cell.int .i64 0, Cell.int .i64 0, Cell.int .i64 0, Cell.int .i64 0] 0 ([(.int .i64 1)] : List Cell)) 1 ([(.int .i64 0)] : List Cell)) 3 ([(.int .i64 (G.band .i64 (G.shr .i64 n_62 7) 1))] : List Cell))))]).length) ((splice (splice [Cell.nils, Cell.nils] 0 ([(.sl h_60.length ((splice [Cell.int .i64 0, Cell.int .i64 0, Cell.int .i64 0, Cell.int .i64 0] 0 (splice (splice (splice [Cell.int .i64 0, Cell.int .i64 0, Cell.int .i64 0, Cell.int .i64 0] 0 ([(.int .i64 0)] : List Cell)) 1 ([(.int .i64 (G.band .i64 (G.shr .i64 n_62 3) 1))] : List Cell)) 3 ([(.int .i64 (G.band .i64 (G.shr .i64 n_62 4) 1))] : List Cell))).length) 0 1)] : List Cell)) 1 ([(.sl ((h_60 ++ [some (Blk.mk true 4 (splice [Cell.int .i64 0, Cell.int .i64 0, Cell.int .i64 0, Cell.int .i64 0] 0 (splice (splice (splice [Cell.int .i64 0, Cell.int .i64 0, Cell.int .i64 0, Cell.int .i64 0] 0 ([(.int .i64 0)] : List Cell)) 1 ([(.int .i64 (G.band .i64 (G.shr .i64 n_62 3) 1))] : List Cell)) 3 ([(.int .i64 (G.band .i64 (G.shr .i64 n_62 4) 1))] : List Cell))))]).length) ((splice (splice (List.replicate 8 (Cell.int .i64 0)) 0 (splice (splice (splice [Cell.int .i64 0, Cell.int .i64 0, Cell.int .i64 0, Cell.int .i64 0] 0 ([(.int .i64 (-1))] : List Cell)) 2 ([(.int .i64 120)] : List Cell)) 3 ([(.int .i64 (G.rem .i64 (G.shr .i64 n_62 5) 3))] : List Cell))) 4 (splice (splice (splice [Cell.int .i64 0, Cell.int .i64 0, Cell.int .i64 0, Cell.int .i64 0] 0 ([(.int .i64 1)] : List Cell)) 1 ([(.int .i64 0)] : List Cell)) 3 ([(.int .i64 (G.band .i64 (G.shr .i64 n_62 7) 1))] : List Cell))).length) 0 2)] : List Cell)).length) 0 2)] : List Cell))))], (((h_60 ++ [some (Blk.mk true 4 (splice [Cell.int .i64 0, Cell.int .i64 0, Cell.int .i64 0, Cell.int .i64 0] 0 (splice (splice (splice [Cell.int .i64 0, Cell.int .i64 0, Cell.int .i64 0, Cell.int .i64 0] 0 ([(.int .i64 0)] : List Cell)) 1 ([(.int .i64 (G.band .i64 (G.shr .i64 n_62 3) 1))] : List Cell)) 3 ([(.int .i64 (G.band .i64 (G.shr .i64 n_62 4) 1))] : List Cell))))]) ++ [some (Blk.mk true 4 (splice (splice (List.replicate 8 (Cell.int .i64 0)) 0 (splice (splice (splice [Cell.int .i64 0, Cell.int .i64 0, Cell.int .i64 0, Cell.int .i64 0] 0 ([(.int .i64 (-1))] : List Cell)) 2 ([(.int .i64 120)] : List Cell)) 3 ([(.int .i64 (G.rem .i64 (G.shr .i64 n_62 5) 3))] : List Cell))) 4 (splice (splice (splice [Cell.int .i64 0, Cell.int .i64 0, Cell.int .i64 0, Cell.int .i64 0] 0 ([(.int .i64 1)] : List Cell)) 1 ([(.int .i64 0)] : List Cell)) 3 ([(.int .i64 (G.band .i64 (G.shr .i64 n_62 7) 1))] : List Cell))))]) ++ [some (Blk.mk true 1 (splice (splice [Cell.nils, Cell.nils] 0 ([(.sl h_60.length ((splice [Cell.int .i64 0, Cell.int .i64 0, Cell.int .i64 0, Cell.int .i64 0] 0 (splice (splice (splice [Cell.int .i64 0, Cell.int .i64 0, Cell.int .i64 0, Cell.int .i64 0] 0 ([(.int .i64 0)] : List Cell)) 1 ([(.int .i64 (G.band .i64 (G.shr .i64 n_62 3) 1))] : List Cell)) 3 ([(.int .i64 (G.band .i64 (G.shr .i64 n_62 4) 1))] : List Cell))).length) 0 1)] : List Cell)) 1 ([(.sl ((h_60 ++ [some (Blk.mk true 4 (splice [Cell.int .i64 0, Cell.int .i64 0, Cell.int .i64 0, Cell.int .i64 0] 0 (splice (splice (splice [Cell.int .i64 0, Cell.int .i64 0, Cell.int .i64 0, Cell.int .i64 0] 0 ([(.int .i64 0)] : List Cell)) 1 ([(.int .i64 (G.band .i64 (G.shr .i64 n_62 3) 1))] : List Cell)) 3 ([(.int .i64 (G.band .i64 (G.shr .i64 n_62 4) 1))] : List Cell))))]).length) ((splice (splice (List.replicate 8 (Cell.int .i64 0)) 0 (splice (splice (splice [Cell.int .i64 0, Cell.int .i64 0, Cell.int .i64 0, Cell.int .i64 0] 0 ([(.int .i64 (-1))] : List Cell)) 2 ([(.int .i64 120)] : List Cell)) 3 ([(.int .i64 (G.rem .i64 (G.shr .i64 n_62 5) 3))] : List Cell))) 4 (splice (splice (splice [Cell.int .i64 0, Cell.int .i64 0, Cell.int .i64 0, Cell.int .i64 0] 0 ([(.int .i64 1)] : List Cell)) 1 ([(.int .i64 0)] : List Cell)) 3 ([(.int .i64 (G.band .i64 (G.shr .i64 n_62 7) 1))] : List Cell))).length) 0 2)] : List Cell)))])) else none else none else none else none else none else none else none else none else none else none else if 0 = 0 ∧ s1.length = 5 then if 0 = 0 ∧ s0.length = 5 ∧ s1.length = 5 then if 0 = 0 ∧ s1.length = 5 then some ([(.agg s1)], h_60) else none else none else none := by kernel_rfl
theorem jacquardlaw3_Small_ec1_n (C : CallF) (L : LoopF) (G : Glo) (h0 : AHeap) (a1 : Int) (x7 : Cell) (a8 : Int) (a9 : Int) (s0 : List Cell) (s1 : List Cell) (h : AHeap) :
    (jacquardlaw3_Small_k2 C L G h0) .normal (jacquardlaw3_Small_c1 a1 x7 a8 a9 s0 s1 h) =
    (L (jacquardlaw3_Small_F2 C L G) (jacquardlaw3_Small_s2 a1 x7 a8 a9 0 0 s0 s1 h)).bind fun p_64 => (jacquardlaw3_Small_k4 C L G h0) p_64.1 p_64.2 := by kernel_rfl
set_option maxRecDepth 100000 in
theorem jacquardlaw3_Small_eq (C : CallF) (L : LoopF) (G : Glo) (x0 : Cell) (a1 : Int) (h0 : AHeap) :
    jacquardlaw3_Small.body C L G [(.c x0), (.c (.int .i64 a1))] h0 =
    if 0 = 0 ∧ [Cell.str (ByteArray.mk #[]), Cell.nils, Cell.nils, Cell.int .i64 0, Cell.nils].length = 5 ∧ (splice [Cell.str (ByteArray.mk #[]), Cell.nils, Cell.nils, Cell.int .i64 0, Cell.nils] 0 ([(.str (ByteArray.mk #[116]))] : List Cell)).length = 5 then rdH ((h0 ++ [some (Blk.mk true 0 (AV.cells (.c x0)))]) ++ [some (Blk.mk true 0 ([Cell.int .i64 0]))]) ((h0 ++ [some (Blk.mk true 0 (AV.cells (.c x0)))]).length) (([Cell.int .i64 0]).length) fun l_1 => if 0 < l_1.length then putH ((h0 ++ [some (Blk.mk true 0 (AV.cells (.c x0)))]) ++ [some (Blk.mk true 0 ([Cell.int .i64 0]))]) ((h0 ++ [some (Blk.mk true 0 (AV.cells (.c x0)))]).length) (l_1.set 0 (.int .i64 0)) fun h_2 => fnK (.fn 115 [((h0 ++ [some (Blk.mk true 0 (AV.cells (.c x0)))]).length, ([Cell.int .i64 0]).length, 0), (h0.length, (AV.cells (.c x0)).length, 0)]) fun g_3 l_4 => c1 (C g_3 ([] ++ l_4) h_2) fun y_6 h_5 => asI .i64 y_6 fun n_7 => fnK (.fn 115 [((h0 ++ [some (Blk.mk true 0 (AV.cells (.c x0)))]).length, ([Cell.int .i64 0]).length, 0), (h0.length, (AV.cells (.c x0)).length, 0)]) fun g_8 l_9 => c1 (C g_8 ([] ++ l_9) h_5) fun y_11 h_10 => asI .i64 y_11 fun n_12 => (fnK (.fn 115 [((h0 ++ [some (Blk.mk true 0 (AV.cells (.c x0)))]).length, ([Cell.int .i64 0]).length, 0), (h0.length, (AV.cells (.c x0)).length, 0)]) fun g_13 l_14 => c1 (C g_13 ([] ++ l_14) h_10) fun y_16 h_15 => asI .i64 y_16 fun n_17 => if ((G.rem .i64 n_17 4) == 0) = true then atK (splice [Cell.str (ByteArray.mk #[]), Cell.nils, Cell.nils, Cell.int .i64 0, Cell.nils] 0 ([(.str (ByteArray.mk #[116]))] : List Cell)) 1 fun q_18 => fnK (.fn 115 [((h0 ++ [some (Blk.mk true 0 (AV.cells (.c x0)))]).length, ([Cell.int .i64 0]).length, 0), (h0.length, (AV.cells (.c x0)).length, 0)]) fun g_19 l_20 => c1 (C g_19 ([] ++ l_20) h_15) fun y_22 h_21 => asI .i64 y_22 fun n_23 => if (splice (splice [Cell.int .i64 0, Cell.int .i64 0] 0 ([(.int .i64 120)] : List Cell)) 1 ([(.int .i64 (G.rem .i64 n_23 3))] : List Cell)).length = 2 ∧ 0 + 2 ≤ [Cell.int .i64 0, Cell.int .i64 0].length then if (splice [Cell.int .i64 0, Cell.int .i64 0] 0 (splice (splice [Cell.int .i64 0, Cell.int .i64 0] 0 ([(.int .i64 120)] : List Cell)) 1 ([(.int .i64 (G.rem .i64 n_23 3))] : List Cell))).length = 1 * 2 then appK 2 16 q_18 (splice [Cell.int .i64 0, Cell.int .i64 0] 0 (splice (splice [Cell.int .i64 0, Cell.int .i64 0] 0 ([(.int .i64 120)] : List Cell)) 1 ([(.int .i64 (G.rem .i64 n_23 3))] : List Cell))) h_21 fun x_24 h_25 => if 1 < (splice [Cell.str (ByteArray.mk #[]), Cell.nils, Cell.nils, Cell.int .i64 0, Cell.nils] 0 ([(.str (ByteArray.mk #[116]))] : List Cell)).length then some (.normal, (jacquardlaw3_Small_c1 a1 (.fn 115 [((h0 ++ [some (Blk.mk true 0 (AV.cells (.c x0)))]).length, ([Cell.int .i64 0]).length, 0), (h0.length, (AV.cells (.c x0)).length, 0)]) (G.wrap .i64 ((G.rem .i64 n_7 2) + 2)) (G.wrap .i64 ((G.rem .i64 n_12 2) + 2)) [Cell.str (ByteArray.mk #[]), Cell.nils, Cell.nils, Cell.int .i64 0, Cell.nils] ((splice [Cell.str (ByteArray.mk #[]), Cell.nils, Cell.nils, Cell.int .i64 0, Cell.nils] 0 ([(.str (ByteArray.mk #[116]))] : List Cell)).set 1 x_24) h_25)) else none else none else none else some (.normal, (jacquardlaw3_Small_c1 a1 (.fn 115 [((h0 ++ [some (Blk.mk true 0 (AV.cells (.c x0)))]).length, ([Cell.int .i64 0]).length, 0), (h0.length, (AV.cells (.c x0)).length, 0)]) (G.wrap .i64 ((G.rem .i64 n_7 2) + 2)) (G.wrap .i64 ((G.rem .i64 n_12 2) + 2)) [Cell.str (ByteArray.mk #[]), Cell.nils, Cell.nils, Cell.int .i64 0, Cell.nils] (splice [Cell.str (ByteArray.mk #[]), Cell.nils, Cell.nils, Cell.int .i64 0, Cell.nils] 0 ([(.str (ByteArray.mk #[116]))] : List Cell)) h_15)) : Option (Ex × St)).bind fun p_65 => (jacquardlaw3_Small_k2 C L G h0) p_65.1 p_65.2 else none else none := by kernel_rfl

/- jacquard/jacquardlaw3.Small$1: 115 -/
set_option maxRecDepth 100000 in
theorem jacquardlaw3_Small_1_eq (C : CallF) (L : LoopF) (G : Glo) (k0 : Nat) (N0 : Nat) (o0 : Nat) (k1 : Nat) (N1 : Nat) (o1 : Nat) (h0 : AHeap) :
    jacquardlaw3_Small_1.body C L G [(.c (.ptr k0 N0 o0)), (.c (.ptr k1 N1 o1))] h0 =
    rdH h0 k0 N0 fun l_1 => atK l_1 o0 fun q_2 => asI .i64 (.c q_2) fun n_3 => rdH h0 k0 N0 fun l_4 => if o0 < l_4.length then putH h0 k0 (l_4.set o0 (.int .i64 (G.wrap .i64 (n_3 + 1)))) fun h_5 => rdH h_5 k0 N0 fun l_6 => atK l_6 o0 fun q_7 => asI .i64 (.c q_7) fun n_8 => rdH h_5 k1 N1 fun l_9 => atK l_9 o1 fun q_10 => lenK q_10 fun n_11 => if (decide (n_8 > n_11)) = true then some ([(.c (.int .i64 0))], h_5) else rdH h_5 k1 N1 fun l_12 => atK l_12 o1 fun q_13 => rdH h_5 k0 N0 fun l_14 => atK l_14 o0 fun q_15 => asI .i64 (.c q_15) fun n_16 => idxSK 1 q_13 (G.wrap .i64 (n_16 - 1)) fun k_17 N_18 o_19 => rdH h_5 k_17 N_18 fun l_20 => atK l_20 o_19 fun q_21 => asI .i64 (.c q_21) fun n_22 => some ([(.c (.int .i64 (G.band .i64 n_22 65535)))], h_5) else none := by kernel_rfl


end Jq

/- Tests made of numbers: what instructions they have. -/
namespace Jq
open Go

def opdOk (o : Opd) : Prop := (o.reg = -1 ∧ 0 ≤ o.val ∧ o.val < 3) ∨ ((o.reg = 0 ∨ o.reg = 1) ∧ o.val = 0)

/-- An instruction of a small test, its letter one of L from x on. -/
def SmI (L : Int) (i : Ins) : Prop :=
  (i.kind = 1 ∧ i.reg = 0 ∧ (120 ≤ i.loc ∧ i.loc < 120 + L) ∧ opdOk i.a ∧ i.op = 0 ∧ i.b = ⟨0, 0⟩ ∧ i.n = 0) ∨
  (i.kind = 2 ∧ (i.reg = 0 ∨ i.reg = 1) ∧ (120 ≤ i.loc ∧ i.loc < 120 + L) ∧ i.a = ⟨0, 0⟩ ∧ i.op = 0 ∧ i.b = ⟨0, 0⟩ ∧ i.n = 0) ∨
  (i = ⟨3, 0, 0, ⟨0, 0⟩, 0, ⟨0, 0⟩, 0⟩) ∨
  (i.kind = 4 ∧ (i.reg = 0 ∨ i.reg = 1) ∧ (120 ≤ i.loc ∧ i.loc < 120 + L) ∧ opdOk i.a ∧ i.op = 0 ∧ i.b = ⟨-1, 1⟩ ∧ i.n = 0) ∨
  (i.kind = 5 ∧ (i.reg = 0 ∨ i.reg = 1) ∧ i.loc = 0 ∧ opdOk i.a ∧ i.op = 6 ∧ i.b = ⟨-1, 1⟩ ∧ i.n = 0) ∨
  (i.kind = 6 ∧ i.reg = 0 ∧ i.loc = 0 ∧ opdOk i.a ∧ i.op = 0 ∧ i.b = ⟨-1, 0⟩ ∧ i.n = 1)

/-- How many instructions touch memory (a fence does not count). -/
def memC (c : List Ins) : Nat := c.countP fun i => decide (i.kind = 1 ∨ i.kind = 2 ∨ i.kind = 4)

/-- Instructions one behind the other, a skip ahead of a store. -/
inductive ThrOk (L : Int) : Nat → List Ins → Prop
  | nil : ThrOk L 0 []
  | one {k : Nat} {c : List Ins} {i : Ins} : ThrOk L k c → SmI L i → i.kind ≠ 6 → ThrOk L (k + 1) (c ++ [i])
  | two {k : Nat} {c : List Ins} {i j : Ins} : ThrOk L k c → SmI L i → i.kind = 6 → SmI L j → j.kind = 1 → ThrOk L (k + 1) (c ++ [i, j])

theorem ThrOk.len {L : Int} {k : Nat} {c : List Ins} (t : ThrOk L k c) : c.length ≤ 2 * k := by
  induction t with
  | nil => simp
  | one _ _ _ ih => rw [List.length_append]; simp; omega
  | two _ _ _ _ _ ih => rw [List.length_append]; simp; omega

theorem ThrOk.all {L : Int} {k : Nat} {c : List Ins} (t : ThrOk L k c) : ∀ i ∈ c, SmI L i := by
  induction t with
  | nil => simp
  | one _ h _ ih =>
    intro i hi
    rcases List.mem_append.1 hi with hi | hi
    · exact ih i hi
    · simp at hi; subst hi; exact h
  | two _ h _ h' _ ih =>
    intro i hi
    rcases List.mem_append.1 hi with hi | hi
    · exact ih i hi
    · simp at hi; rcases hi with rfl | rfl
      · exact h
      · exact h'

theorem memC_app (a b : List Ins) : memC (a ++ b) = memC a + memC b := by unfold memC; rw [List.countP_append]

/-- Some more elements at the end. -/
theorem Own.appM {n : Nat} {h : AHeap} {x : Cell} {esz len bytes m : Nat} {cs xs : List Cell} (o : Own n h x esz cs len) (hn : n ≤ h.length) (hx : xs.length = m * esz) (hm : 0 < m) (he : 0 < esz) (h1 : (len + m) * bytes ≤ maxBytes) (h2 : len + m ≤ maxBytes) :
    ∃ x' h', (∀ {α : Type} (f : Cell → AHeap → Option α), appK esz bytes x xs h f = f x' h') ∧ Own n h' x' esz (cs ++ xs) (len + m) ∧ Kp n h h' := by
  have hd : xs.length / esz = m := by rw [hx]; exact Nat.mul_div_cancel _ he
  have hpos : 0 < xs.length := by rw [hx]; exact Nat.mul_pos hm he
  rcases o.2 with ⟨rfl, rfl⟩ | ⟨k, rfl, hk, hb⟩
  · have hcs : cs = [] := List.length_eq_zero_iff.1 (by have := o.1; omega)
    subst hcs
    refine ⟨.sl h.length xs.length 0 m, h ++ [some ⟨true, esz, xs⟩], fun f => ?_, ⟨by simp [hx], .inr ⟨h.length, by simp, hn, by rw [List.nil_append]; exact blk_new _ _⟩⟩, Kp.app _ hn⟩
    unfold appK; simp only; rw [if_neg (by omega), hd, if_pos ⟨by rw [Nat.zero_add] at h1; exact h1, by omega⟩]
  · have hl := o.1
    refine ⟨.sl k (len * esz + xs.length) 0 (len + m), setBlk h k (some ⟨true, esz, cs ++ xs⟩), fun f => ?_, ⟨by simp [hl, hx, Nat.add_mul], .inr ⟨k, by simp [hl], hk, blk_set_self (blk_lt' hb) _⟩⟩, Kp.set hk _⟩
    unfold appK; simp only; rw [hb, Option.bind_some]; dsimp only
    rw [if_pos ⟨rfl, rfl, rfl, by omega, by rw [hd]; exact h1, by rw [hd]; exact h2⟩, if_neg (by omega), if_pos trivial, hd, List.take_of_length_le (by omega)]

section
variable {E : Env}

theorem shr_nn {x k : Int} (hx : 0 ≤ x) : 0 ≤ E.glob.shr .i64 x k := by
  show 0 ≤ x.fdiv (2 ^ min k.toNat 64)
  exact Int.fdiv_nonneg hx (Int.le_of_lt (Int.pow_pos (by omega)))
theorem rem_rng {x m : Int} (hx : 0 ≤ x) (hm : 0 < m) : 0 ≤ E.glob.rem .i64 x m ∧ E.glob.rem .i64 x m < m := by
  rw [g_rem, Int.tmod_eq_emod_of_nonneg hx]
  exact ⟨Int.emod_nonneg _ (by omega), Int.emod_lt_of_pos _ hm⟩
theorem g_band1 {x : Int} : E.glob.band .i64 x 1 = x % 2 := by
  show IntKind.wrap .i64 ((BitVec.ofInt 64 x &&& BitVec.ofInt 64 1).toNat : Nat) = _
  have h1 : (BitVec.ofInt 64 x &&& BitVec.ofInt 64 1).toNat = (BitVec.ofInt 64 x).toNat % 2 := by
    rw [BitVec.toNat_and]
    have : (BitVec.ofInt 64 1).toNat = 2 ^ 1 - 1 := by decide
    rw [this, Nat.and_two_pow_sub_one_eq_mod]
  rw [h1, BitVec.toNat_ofInt]
  have h3 : ((((x % ((2 ^ 64 : Nat) : Int)).toNat % 2 : Nat) : Int)) = x % 2 := by omega
  rw [h3]
  exact wrap_i64 (by omega) (by omega)
theorem band1_rng (x : Int) : E.glob.band .i64 x 1 = 0 ∨ E.glob.band .i64 x 1 = 1 := by rw [g_band1]; omega

theorem g_band16 {x : Int} : 0 ≤ E.glob.band .i64 x 65535 ∧ E.glob.band .i64 x 65535 < 65536 := by
  have h : E.glob.band .i64 x 65535 = x % 65536 := by
    show IntKind.wrap .i64 ((BitVec.ofInt 64 x &&& BitVec.ofInt 64 65535).toNat : Nat) = _
    have h1 : (BitVec.ofInt 64 x &&& BitVec.ofInt 64 65535).toNat = (BitVec.ofInt 64 x).toNat % 65536 := by
      rw [BitVec.toNat_and]
      have : (BitVec.ofInt 64 65535).toNat = 2 ^ 16 - 1 := by decide
      rw [this, Nat.and_two_pow_sub_one_eq_mod]
    rw [h1, BitVec.toNat_ofInt]
    have h3 : ((((x % ((2 ^ 64 : Nat) : Int)).toNat % 65536 : Nat) : Int)) = x % 65536 := by omega
    rw [h3]
    exact wrap_i64 (by omega) (by omega)
  rw [h]; omega

/-- Where the row of numbers and the place in it lie. -/
def VarsAt (h0 : AHeap) (x : Cell) (h : AHeap) (m : Nat) : Prop :=
  blk? h h0.length = some ⟨true, 0, [x]⟩ ∧ blk? h (h0.length + 1) = some ⟨true, 0, [.int .i64 (m : Int)]⟩ ∧ h0.length + 2 ≤ h.length ∧ Kp h0.length h0 h

def nxF (h0 : AHeap) : Cell := .fn 115 [(h0.length + 1, 1, 0), (h0.length, 1, 0)]

theorem VarsAt.keep {h0 h h' : AHeap} {x : Cell} {m : Nat} (v : VarsAt h0 x h m) (hk : Kp (h0.length + 2) h h') : VarsAt h0 x h' m :=
  ⟨by rw [hk.blk (by omega)]; exact v.1, by rw [hk.blk (by omega)]; exact v.2.1, Nat.le_trans v.2.2.1 hk.1, v.2.2.2.trans (hk.mono (by omega))⟩

theorem rd1' {α : Type} {h : AHeap} {k : Nat} {a : Cell} (hk : blk? h k = some ⟨true, 0, [a]⟩) {F : List Cell → Option α} : rdH h k 1 F = F [a] := rdH_ok hk rfl

/-- The next number. -/
theorem next_R (hE : jacquardlaw3_Small_1_In E) {h0 h : AHeap} {x : Cell} {l : List Int} {m : Nat} (hx : SlAt h0 x 1 (intC .i64 l) l.length) (hlow : Low h0.length x) (hl : l.length < 9223372036854775808) (v : VarsAt h0 x h m) (hm : m < 100000) :
    ∃ r : Int, 0 ≤ r ∧ r < 65536 ∧ (∀ {α : Type} (F : AV → AHeap → Option α), (fnK (nxF h0) fun g cs => c1 (R E g ([] ++ cs) h) F) = F (.c (.int .i64 r)) (setBlk h (h0.length + 1) (some ⟨true, 0, [.int .i64 ((m + 1 : Nat) : Int)]⟩))) ∧
      VarsAt h0 x (setBlk h (h0.length + 1) (some ⟨true, 0, [.int .i64 ((m + 1 : Nat) : Int)]⟩)) (m + 1) := by
  obtain ⟨v1, v2, v3, v4⟩ := v
  have b2 : blk? (setBlk h (h0.length + 1) (some ⟨true, 0, [.int .i64 ((m + 1 : Nat) : Int)]⟩)) (h0.length + 1) = some ⟨true, 0, [.int .i64 ((m + 1 : Nat) : Int)]⟩ := blk_set_self (blk_lt' v2) _
  have b1 : blk? (setBlk h (h0.length + 1) (some ⟨true, 0, [.int .i64 ((m + 1 : Nat) : Int)]⟩)) h0.length = some ⟨true, 0, [x]⟩ := by rw [blk_set_ne (by omega)]; exact v1
  have kk : Kp h0.length h0 (setBlk h (h0.length + 1) (some ⟨true, 0, [.int .i64 ((m + 1 : Nat) : Int)]⟩)) := v4.trans (Kp.set (by omega) _)
  have hx' := hx.keep hlow kk
  have hV : VarsAt h0 x (setBlk h (h0.length + 1) (some ⟨true, 0, [.int .i64 ((m + 1 : Nat) : Int)]⟩)) (m + 1) := ⟨b1, b2, by rw [setBlk_len]; exact v3, kk⟩
  have hb : jacquardlaw3_Small_1.body (R E) Lim E.glob [.c (.ptr (h0.length + 1) 1 0), .c (.ptr h0.length 1 0)] h = some ([.c (.int .i64 (if m + 1 > l.length then 0 else E.glob.band .i64 (l.getD m 0) 65535))], setBlk h (h0.length + 1) (some ⟨true, 0, [.int .i64 ((m + 1 : Nat) : Int)]⟩)) := by
    rw [jacquardlaw3_Small_1_eq, rd1' v2, atK_ok (i := 0) (c := .int .i64 (m : Int)) rfl, asI_ok, rd1' v2, if_pos (by simp), g_succ (by omega), putH_ok v2 rfl]
    dsimp only [List.set]
    rw [rd1' b2, atK_ok (i := 0) (c := .int .i64 ((m + 1 : Nat) : Int)) rfl, asI_ok, rd1' b1, atK_ok (i := 0) (c := x) rfl, hx'.len]
    by_cases hgt : m + 1 > l.length
    · rw [if_pos (by simp; omega), if_pos hgt]
    · rw [if_neg (by simp; omega), if_neg hgt, rd1' b1, atK_ok (i := 0) (c := x) rfl, rd1' b2, atK_ok (i := 0) (c := .int .i64 ((m + 1 : Nat) : Int)) rfl, asI_ok, g_wrap_i64 (by omega) (by omega), show ((m + 1 : Nat) : Int) - 1 = (m : Int) by omega, hx'.get1 (show m < l.length by omega) (intC_get (getDI (by omega))), asI_ok]
  refine ⟨if m + 1 > l.length then 0 else E.glob.band .i64 (l.getD m 0) 65535, ?_, ?_, fun F => ?_, hV⟩
  · split
    · omega
    · exact g_band16.1
  · split
    · omega
    · exact g_band16.2
  · show c1 (R E 115 [.c (.ptr (h0.length + 1) 1 0), .c (.ptr h0.length 1 0)] h) F = _
    rw [R_intro hE.fn hb, c1_ok]

end
end Jq

/- Tests made of numbers: one instruction more. -/
namespace Jq
open Go

section
variable {E : Env}

/-- What one round comes to. -/
def OneMore (E : Env) (most : Int) (fnc : Cell) (n L : Int) (mem : Nat) (i : Int) (k : Int) (s0 s1 : List Cell) (N kk : Nat) (c : List Ins) (h : AHeap) (o : Option (Ex × St)) : Prop :=
  ∃ (c2 : List Ins) (mem2 : Nat) (xs2 : Cell) (h2 : AHeap), o = some (.normal, jacquardlaw3_Small_s1 most fnc n L (mem2 : Int) i xs2 (k - 1) s0 s1 h2) ∧ ThrOk L (kk + 1) c2 ∧ memC c2 + mem = memC c + mem2 ∧ mem ≤ mem2 ∧ mem2 ≤ mem + 1 ∧
    Own N h2 xs2 9 (codeC c2) c2.length ∧ Kp N h h2

variable {most : Int} {fnc : Cell} {n L : Int} {mem : Nat} {i : Int} {xs : Cell} {k loc x r m : Int} {s0 s1 : List Cell} {v : Opd} {h : AHeap} {N kk : Nat} {c : List Ins}

theorem one_ins {f : Cell → AHeap → Option (Ex × St)} {mem2 : Nat} {j : Ins} (hxs : Own N h xs 9 (codeC c) c.length) (hN : N ≤ h.length) (hc : c.length ≤ 100) (t : ThrOk L kk c) (hj : SmI L j) (h6 : j.kind ≠ 6)
    (hm2 : mem2 = mem + memC [j]) (hf : ∀ x' h', f x' h' = some (.normal, jacquardlaw3_Small_s1 most fnc n L (mem2 : Int) i x' (k - 1) s0 s1 h')) :
    OneMore E most fnc n L mem i k s0 s1 N kk c h (appK 9 72 xs j.cs h f) := by
  have hm : maxBytes ≥ 200 * 72 := by unfold maxBytes; omega
  obtain ⟨x', h', ha, ho, hk, _⟩ := hxs.app (bytes := 72) (xs := j.cs) hN rfl (by omega) (by omega) (by omega)
  have h1 : memC [j] ≤ 1 := by unfold memC; exact Nat.le_trans (List.countP_le_length) (by simp)
  refine ⟨c ++ [j], mem2, x', h', by rw [ha, hf], t.one hj h6, by rw [memC_app, hm2]; omega, by omega, by omega, ?_, hk⟩
  rw [codeC_snoc, List.length_append, List.length_singleton]; exact ho

theorem memC_yes {j : Ins} (h : j.kind = 1 ∨ j.kind = 2 ∨ j.kind = 4) : memC [j] = 1 := by unfold memC; rw [List.countP_cons, List.countP_nil]; simp [h]
theorem memC_no {j : Ins} (h : ¬ (j.kind = 1 ∨ j.kind = 2 ∨ j.kind = 4)) : memC [j] = 0 := by unfold memC; rw [List.countP_cons, List.countP_nil]; simp [h]

theorem small_st (hxs : Own N h xs 9 (codeC c) c.length) (hN : N ≤ h.length) (hc : c.length ≤ 100) (t : ThrOk L kk c) (hv : opdOk v) (hloc : 120 ≤ loc ∧ loc < 120 + L) (hmem : mem < 1000) (hk : 0 ≤ k ∧ k ≤ 3) {b : Bool} (hb : b = true) :
    OneMore E most fnc n L mem i k s0 s1 N kk c h ((jacquardlaw3_Small_k13 (R E) Lim E.glob) .normal (jacquardlaw3_Small_c3 most fnc n L (mem : Int) i xs k loc r m b s0 s1 v.cs h)) := by
  have e : splice (splice (splice (List.replicate 9 (Cell.int .i64 0)) 0 ([(.int .i64 1)] : List Cell)) 2 ([(.int .i64 loc)] : List Cell)) 3 v.cs = (Ins.mk 1 0 loc v 0 ⟨0, 0⟩ 0).cs := rfl
  rw [jacquardlaw3_Small_ec3_n, if_pos hb, if_pos ⟨rfl, rfl⟩, if_pos ⟨rfl, by simp [splice]⟩, e, if_pos ⟨rfl, by simp⟩, ins_splice, if_pos (ins_len19 _)]
  refine one_ins (mem2 := mem + 1) hxs hN hc t (.inl ⟨rfl, rfl, hloc, hv, rfl, rfl, rfl⟩) (by simp) (by rw [memC_yes (.inl rfl)]) fun x' h' => ?_
  rw [g_succ (by omega), g_wrap_i64 (by omega) (by omega)]

theorem small_ld (hxs : Own N h xs 9 (codeC c) c.length) (hN : N ≤ h.length) (hc : c.length ≤ 100) (t : ThrOk L kk c) (hr : r = 0 ∨ r = 1) (hloc : 120 ≤ loc ∧ loc < 120 + L) (hmem : mem < 1000) (hk : 0 ≤ k ∧ k ≤ 3) {b : Bool} (hb : b = true) {s2 : List Cell} :
    OneMore E most fnc n L mem i k s0 s1 N kk c h ((jacquardlaw3_Small_k14 (R E) Lim E.glob) .normal (jacquardlaw3_Small_c4 most fnc n L (mem : Int) i xs k loc r m b s0 s1 s2 h)) := by
  have e : splice (splice (splice (List.replicate 9 (Cell.int .i64 0)) 0 ([(.int .i64 2)] : List Cell)) 1 ([(.int .i64 r)] : List Cell)) 2 ([(.int .i64 loc)] : List Cell) = (Ins.mk 2 r loc ⟨0, 0⟩ 0 ⟨0, 0⟩ 0).cs := rfl
  rw [jacquardlaw3_Small_ec4_n, if_pos hb, e, if_pos ⟨rfl, by simp⟩, ins_splice, if_pos (ins_len19 _)]
  refine one_ins (mem2 := mem + 1) hxs hN hc t (.inr (.inl ⟨rfl, hr, hloc, rfl, rfl, rfl, rfl⟩)) (by simp) (by rw [memC_yes (.inr (.inl rfl))]) fun x' h' => ?_
  rw [g_succ (by omega), g_wrap_i64 (by omega) (by omega)]

theorem mb2 {k : Nat} (hk : k ≤ 100) : (k + 2) * 72 ≤ maxBytes ∧ k + 2 ≤ maxBytes := by
  have hm : maxBytes ≥ 200 * 72 := by unfold maxBytes; omega
  omega

theorem z18_len2 (a b : Ins) : (codeC [a, b]).length = 2 * 9 := by rw [codeC_len]; rfl

theorem two_ins {f : Cell → AHeap → Option (Ex × St)} {j q : Ins} (hxs : Own N h xs 9 (codeC c) c.length) (hN : N ≤ h.length) (hc : c.length ≤ 100) (t : ThrOk L kk c) (hj : SmI L j) (h6 : j.kind = 6) (hq : SmI L q) (h1 : q.kind = 1)
    (hf : ∀ x' h', f x' h' = some (.normal, jacquardlaw3_Small_s1 most fnc n L ((mem + 1 : Nat) : Int) i x' (k - 1) s0 s1 h')) :
    OneMore E most fnc n L mem i k s0 s1 N kk c h (appK 9 72 xs (codeC [j, q]) h f) := by
  obtain ⟨f1, f2⟩ := mb2 hc
  obtain ⟨x', h', ha, ho, hkp⟩ := hxs.appM hN (z18_len2 j q) Nat.zero_lt_two (Nat.succ_pos 8) f1 f2
  have e4 : codeC (c ++ [j, q]) = codeC c ++ codeC [j, q] := by simp [codeC]
  refine ⟨c ++ [j, q], mem + 1, x', h', by rw [ha, hf], t.two hj h6 hq h1, ?_, by omega, by omega, ?_, hkp⟩
  · rw [memC_app]
    have : memC [j, q] = 1 := by
      show memC ([j] ++ [q]) = 1
      rw [memC_app, memC_no (by omega), memC_yes (.inl h1)]
    omega
  · rw [e4, List.length_append]; exact ho

theorem z18_len : 0 + 9 ≤ (List.replicate 18 (Cell.int .i64 0)).length := by rw [List.length_replicate]; omega
theorem z18_one (a : Ins) : 9 + 9 ≤ (splice (List.replicate 18 (Cell.int .i64 0)) 0 a.cs).length := by
  unfold splice
  rw [List.length_append, List.length_append, List.length_drop, List.length_take, List.length_replicate, Ins.len]; omega
theorem z18_two (a b : Ins) : splice (splice (List.replicate 18 (Cell.int .i64 0)) 0 a.cs) 9 b.cs = codeC [a, b] := rfl

theorem small_other (hxs : Own N h xs 9 (codeC c) c.length) (hN : N ≤ h.length) (hc : c.length ≤ 100) (t : ThrOk L kk c) (hL : 0 < L) (hv : opdOk v) (hr : r = 0 ∨ r = 1) (hloc : 120 ≤ loc ∧ loc < 120 + L) (hmem : mem < 1000) (hk : 0 ≤ k ∧ k ≤ 3) {b : Bool} (hb : b = false) :
    OneMore E most fnc n L mem i k s0 s1 N kk c h ((jacquardlaw3_Small_k14 (R E) Lim E.glob) .normal (jacquardlaw3_Small_c4 most fnc n L (mem : Int) i xs k loc r m b s0 s1 v.cs h)) := by
  have hm : maxBytes ≥ 200 * 72 := by unfold maxBytes; omega
  rw [jacquardlaw3_Small_ec4_n, if_neg (by rw [hb]; simp)]
  by_cases h8 : m = 8
  · have e : splice (List.replicate 9 (Cell.int .i64 0)) 0 ([(.int .i64 3)] : List Cell) = (Ins.mk 3 0 0 ⟨0, 0⟩ 0 ⟨0, 0⟩ 0).cs := rfl
    rw [if_pos (by rw [h8]; rfl), e, if_pos ⟨rfl, by simp⟩, ins_splice, if_pos (ins_len19 _)]
    refine one_ins (mem2 := mem) hxs hN hc t (.inr (.inr (.inl rfl))) (by simp) (by rw [memC_no (by simp)]; rfl) fun x' h' => ?_
    rw [g_wrap_i64 (by omega) (by omega)]
  · rw [if_neg (by rw [beq_iff_eq]; exact h8)]
    by_cases h9 : m = 9
    · have e : splice (splice (splice (splice (splice (List.replicate 9 (Cell.int .i64 0)) 0 ([(.int .i64 4)] : List Cell)) 1 ([(.int .i64 r)] : List Cell)) 2 ([(.int .i64 loc)] : List Cell)) 3 v.cs) 6 (splice (splice [Cell.int .i64 0, Cell.int .i64 0] 0 ([(.int .i64 (-1))] : List Cell)) 1 ([(.int .i64 1)] : List Cell)) = (Ins.mk 4 r loc v 0 ⟨-1, 1⟩ 0).cs := rfl
      rw [if_pos (by rw [h9]; rfl), if_pos ⟨rfl, rfl⟩, if_pos ⟨rfl, by simp [splice]⟩, if_pos ⟨rfl, by simp [splice, Opd.cs]⟩, e, if_pos ⟨rfl, by simp⟩, ins_splice, if_pos (ins_len19 _)]
      refine one_ins (mem2 := mem + 1) hxs hN hc t (.inr (.inr (.inr (.inl ⟨rfl, hr, hloc, hv, rfl, rfl, rfl⟩)))) (by simp) (by rw [memC_yes (.inr (.inr rfl))]) fun x' h' => ?_
      rw [g_succ (by omega), g_wrap_i64 (by omega) (by omega)]
    · rw [if_neg (by rw [beq_iff_eq]; exact h9)]
      by_cases h10 : m = 10
      · have e : splice (splice (splice (splice (splice (List.replicate 9 (Cell.int .i64 0)) 0 ([(.int .i64 5)] : List Cell)) 1 ([(.int .i64 r)] : List Cell)) 3 v.cs) 5 ([(.int .i64 6)] : List Cell)) 6 (splice (splice [Cell.int .i64 0, Cell.int .i64 0] 0 ([(.int .i64 (-1))] : List Cell)) 1 ([(.int .i64 1)] : List Cell)) = (Ins.mk 5 r 0 v 6 ⟨-1, 1⟩ 0).cs := rfl
        rw [if_pos (by rw [h10]; rfl), if_pos ⟨rfl, rfl⟩, if_pos ⟨rfl, by simp [splice]⟩, if_pos ⟨rfl, by simp [splice, Opd.cs]⟩, if_pos ⟨rfl, by simp [splice, Opd.cs]⟩, e, if_pos ⟨rfl, by simp⟩, ins_splice, if_pos (ins_len19 _)]
        refine one_ins (mem2 := mem) hxs hN hc t (.inr (.inr (.inr (.inr (.inl ⟨rfl, hr, rfl, hv, rfl, rfl, rfl⟩))))) (by simp) (by rw [memC_no (by simp)]; rfl) fun x' h' => ?_
        rw [g_wrap_i64 (by omega) (by omega)]
      · have e1 : splice (splice (splice (splice (List.replicate 9 (Cell.int .i64 0)) 0 ([(.int .i64 6)] : List Cell)) 3 v.cs) 6 (splice [Cell.int .i64 0, Cell.int .i64 0] 0 ([(.int .i64 (-1))] : List Cell))) 8 ([(.int .i64 1)] : List Cell) = (Ins.mk 6 0 0 v 0 ⟨-1, 0⟩ 1).cs := rfl
        have e2 : splice (splice (splice (List.replicate 9 (Cell.int .i64 0)) 0 ([(.int .i64 1)] : List Cell)) 2 ([(.int .i64 loc)] : List Cell)) 3 (splice (splice [Cell.int .i64 0, Cell.int .i64 0] 0 ([(.int .i64 (-1))] : List Cell)) 1 ([(.int .i64 2)] : List Cell)) = (Ins.mk 1 0 loc ⟨-1, 2⟩ 0 ⟨0, 0⟩ 0).cs := rfl
        rw [if_neg (by rw [beq_iff_eq]; exact h10), if_pos ⟨rfl, rfl⟩, if_pos ⟨rfl, by simp [splice]⟩, if_pos ⟨rfl, by simp [splice, Opd.cs]⟩, if_pos ⟨rfl, by simp [splice, Opd.cs]⟩, if_pos ⟨rfl, by simp [splice]⟩, e1, e2, if_pos ⟨Ins.len _, z18_len⟩, if_pos ⟨Ins.len _, z18_one _⟩, z18_two, if_pos (z18_len2 _ _)]
        have hL2 : (2 : Int) < 3 ∧ (0 : Int) ≤ 2 := ⟨by decide, by decide⟩
        have hst : SmI L (Ins.mk 1 0 loc ⟨-1, 2⟩ 0 ⟨0, 0⟩ 0) := .inl ⟨rfl, rfl, hloc, .inl ⟨rfl, hL2.2, hL2.1⟩, rfl, rfl, rfl⟩
        have hsk : SmI L (Ins.mk 6 0 0 v 0 ⟨-1, 0⟩ 1) := .inr (.inr (.inr (.inr (.inr ⟨rfl, rfl, rfl, hv, rfl, rfl, rfl⟩))))
        refine two_ins hxs hN hc t hsk rfl hst rfl fun x' h' => ?_
        rw [g_succ (by omega), g_wrap_i64 (by omega) (by omega)]

theorem small_case (hxs : Own N h xs 9 (codeC c) c.length) (hN : N ≤ h.length) (hc : c.length ≤ 100) (t : ThrOk L kk c) (hL : 0 < L) (hv : opdOk v) (hx : 0 ≤ x) (hloc : 120 ≤ loc ∧ loc < 120 + L) (hmem : mem < 1000) (hk : 0 ≤ k ∧ k ≤ 3) :
    OneMore E most fnc n L mem i k s0 s1 N kk c h ((jacquardlaw3_Small_k11 (R E) Lim E.glob) .normal (jacquardlaw3_Small_c2 most fnc n L (mem : Int) i xs k x loc s0 s1 v.cs h)) := by
  have hr := band1_rng (E := E) (E.glob.shr .i64 x 11)
  have hm := rem_rng (E := E) hx (show (0 : Int) < 12 by omega)
  rw [jacquardlaw3_Small_ec2_n]
  generalize E.glob.band .i64 (E.glob.shr .i64 x 11) 1 = r at *
  generalize E.glob.rem .i64 x 12 = m at *
  by_cases h0 : m = 0
  · rw [if_pos (by rw [h0]; rfl), bind_ok]; exact small_st hxs hN hc t hv hloc hmem hk (by rw [h0]; rfl)
  rw [if_neg (by rw [beq_iff_eq]; exact h0)]
  by_cases h1 : m = 1
  · rw [if_pos (by rw [h1]; rfl), bind_ok]; exact small_st hxs hN hc t hv hloc hmem hk (by rw [h1]; rfl)
  rw [if_neg (by rw [beq_iff_eq]; exact h1)]
  by_cases h2 : m = 2
  · rw [if_pos (by rw [h2]; rfl), bind_ok]; exact small_st hxs hN hc t hv hloc hmem hk (by rw [h2]; rfl)
  rw [if_neg (by rw [beq_iff_eq]; exact h2), bind_ok]
  by_cases h3 : m = 3
  · exact small_st hxs hN hc t hv hloc hmem hk (by rw [h3]; rfl)
  rw [jacquardlaw3_Small_ec3_n, if_neg (by rw [beq_iff_eq]; exact h3)]
  by_cases h4 : m = 4
  · rw [if_pos (by rw [h4]; rfl), bind_ok]; exact small_ld hxs hN hc t hr hloc hmem hk (by rw [h4]; rfl)
  rw [if_neg (by rw [beq_iff_eq]; exact h4)]
  by_cases h5 : m = 5
  · rw [if_pos (by rw [h5]; rfl), bind_ok]; exact small_ld hxs hN hc t hr hloc hmem hk (by rw [h5]; rfl)
  rw [if_neg (by rw [beq_iff_eq]; exact h5)]
  by_cases h6 : m = 6
  · rw [if_pos (by rw [h6]; rfl), bind_ok]; exact small_ld hxs hN hc t hr hloc hmem hk (by rw [h6]; rfl)
  rw [if_neg (by rw [beq_iff_eq]; exact h6), bind_ok]
  by_cases h7 : m = 7
  · exact small_ld hxs hN hc t hr hloc hmem hk (by rw [h7]; rfl)
  exact small_other hxs hN hc t hL hv hr hloc hmem hk (by rw [beq_eq_false_iff_ne]; exact h7)

end
end Jq

/- Tests made of numbers: all of them are small, and may be. -/
namespace Jq
open Go

/-- The first so many blocks are as they were, but for one. -/
def KpX (a n : Nat) (h h' : AHeap) : Prop := h.length ≤ h'.length ∧ ∀ k, k < n → k ≠ a → h'[k]? = h[k]?

theorem KpX.refl (a n : Nat) (h : AHeap) : KpX a n h h := ⟨Nat.le_refl _, fun _ _ _ => rfl⟩
theorem KpX.trans {a n : Nat} {h h' h'' : AHeap} (x : KpX a n h h') (y : KpX a n h' h'') : KpX a n h h'' := ⟨Nat.le_trans x.1 y.1, fun k hk ha => (y.2 k hk ha).trans (x.2 k hk ha)⟩
theorem KpX.mono {a n m : Nat} {h h' : AHeap} (x : KpX a n h h') (hm : m ≤ n) : KpX a m h h' := ⟨x.1, fun k hk ha => x.2 k (by omega) ha⟩
theorem Kp.x {a n : Nat} {h h' : AHeap} (x : Kp n h h') : KpX a n h h' := ⟨x.1, fun k hk _ => x.2 k hk⟩
theorem KpX.set (a n : Nat) (h : AHeap) (b : Option Blk) : KpX a n h (setBlk h a b) := ⟨by simp [setBlk], fun j _ ha => by unfold setBlk; rw [List.getElem?_set_ne (fun e => ha e.symm)]⟩
theorem KpX.blk {a n : Nat} {h h' : AHeap} (x : KpX a n h h') {k : Nat} (hk : k < n) (ha : k ≠ a) : blk? h' k = blk? h k := by unfold blk?; rw [x.2 k hk ha]

theorem Own.keepX {a n : Nat} {h h' : AHeap} {x : Cell} {esz len : Nat} {cs : List Cell} (o : Own n h x esz cs len) (ha : a < n) (hk : KpX a h.length h h') : Own n h' x esz cs len := by
  refine ⟨o.1, o.2.imp id ?_⟩
  rintro ⟨k, e, hn, hb⟩
  exact ⟨k, e, hn, by rw [hk.blk (blk_lt' hb) (by omega)]; exact hb⟩
theorem RowsOwn.keepX {α : Type} {esz : Nat} {C : List α → List Cell} {a n : Nat} {h h' : AHeap} {y : Cell} {rows : List (List α)} (r : RowsOwn esz C n h y rows) (ha : a < n) (hk : KpX a h.length h h') : RowsOwn esz C n h' y rows := by
  obtain ⟨ts, h1, h2⟩ := r
  exact ⟨ts, h1.keepX ha hk, fun t r hr => by obtain ⟨x, x1, x2, x3⟩ := h2 t r hr; exact ⟨x, x1, x2.keepX ha hk, x3⟩⟩

structure GoodT (most : Nat) (T : PTest) : Prop where
  name : T.name.size ≤ 20
  n : 2 ≤ T.thr.length ∧ T.thr.length ≤ 3
  code : ∃ L : Int, (L = 2 ∨ L = 3) ∧ ∀ c ∈ T.thr, ∃ k, k ≤ 3 ∧ ThrOk L k c
  mem : (T.thr.map memC).sum ≤ most
  inits : T.inits = [] ∨ ∃ v : Int, 0 ≤ v ∧ v < 3 ∧ T.inits = [(120, v)]
  any : T.any.length ≤ 2 ∧ ∀ row ∈ T.any, row.length ≤ 2 ∧ ∀ a ∈ row, a.loc = 0 ∨ a.loc = 120

section
variable {E : Env}

theorem opd_reg {r : Int} : splice [Cell.int .i64 0, Cell.int .i64 0] 0 ([(.int .i64 r)] : List Cell) = (Opd.mk r 0).cs := rfl
theorem opd_num {v : Int} : splice (splice [Cell.int .i64 0, Cell.int .i64 0] 0 ([(.int .i64 (-1))] : List Cell)) 1 ([(.int .i64 v)] : List Cell) = (Opd.mk (-1) v).cs := rfl

/-- A thread's instructions. -/
theorem small_thr (hE : jacquardlaw3_Small_1_In E) {h0 : AHeap} {x : Cell} {l : List Int} (hx : SlAt h0 x 1 (intC .i64 l) l.length) (hlow : Low h0.length x) (hl : l.length < 9223372036854775808)
    {most : Nat} (hmost : most ≤ 900) {n i L : Int} (hL : L = 2 ∨ L = 3) (s0 s1 : List Cell) (N : Nat) (hN0 : h0.length + 2 ≤ N) : ∀ (k mem m kk : Nat) (c : List Ins) (xs : Cell) (h : AHeap), k ≤ 3 → kk + k ≤ 10 → mem ≤ most → m + k < 1000 →
      VarsAt h0 x h m → N ≤ h.length → Own N h xs 9 (codeC c) c.length → ThrOk L kk c →
      ∃ (mem' m' kk' : Nat) (c' : List Ins) (xs' : Cell) (h' : AHeap), Lim (jacquardlaw3_Small_F1 (R E) Lim E.glob) (jacquardlaw3_Small_s1 (most : Int) (nxF h0) n L (mem : Int) i xs (k : Int) s0 s1 h) = some (.exit 2, jacquardlaw3_Small_x1_3 (most : Int) (nxF h0) n L (mem' : Int) i xs' s0 s1 h') ∧
        ThrOk L kk' c' ∧ kk' ≤ kk + k ∧ memC c' + mem = memC c + mem' ∧ mem' ≤ most ∧ VarsAt h0 x h' m' ∧ m' ≤ m + k ∧ N ≤ h'.length ∧ Own N h' xs' 9 (codeC c') c'.length ∧ KpX (h0.length + 1) N h h' := by
  intro k
  induction k with
  | zero =>
    intro mem m kk c xs h _ _ hmem _ hv hN ho ht
    refine ⟨mem, m, kk, c, xs, h, Lim_exit ?_, ht, by omega, by omega, hmem, hv, by omega, hN, ho, KpX.refl _ _ _⟩
    rw [jacquardlaw3_Small_r1, show decide (((0 : Nat) : Int) > 0) = false from rfl, scK_ft, if_neg (by simp)]
  | succ k ih =>
    intro mem m kk c xs h hk hkk hmem hm hv hN ho ht
    by_cases hmm : mem < most
    · obtain ⟨r, r0, r1, hF, hv2⟩ := next_R hE hx hlow hl hv (by omega)
      have hLp : 0 < L := by omega
      have hset : KpX (h0.length + 1) N h (setBlk h (h0.length + 1) (some ⟨true, 0, [.int .i64 ((m + 1 : Nat) : Int)]⟩)) := KpX.set _ _ _ _
      have ho2 := ho.keepX (show h0.length + 1 < N by omega) (KpX.set (h0.length + 1) h.length h (some ⟨true, 0, [.int .i64 ((m + 1 : Nat) : Int)]⟩))
      have hN2 : N ≤ (setBlk h (h0.length + 1) (some ⟨true, 0, [.int .i64 ((m + 1 : Nat) : Int)]⟩)).length := by rw [setBlk_len]; exact hN
      generalize setBlk h (h0.length + 1) (some ⟨true, 0, [.int .i64 ((m + 1 : Nat) : Int)]⟩) = H at *
      have q4 := rem_rng (E := E) (shr_nn (E := E) (k := 4) r0) hLp
      have q6 := rem_rng (E := E) (shr_nn (E := E) (k := 6) r0) (show (0 : Int) < 3 by omega)
      have hb1 := band1_rng (E := E) (E.glob.shr .i64 r 10)
      have hclen := ht.len
      have hcase : ∀ v : Opd, opdOk v → OneMore E (most : Int) (nxF h0) n L mem i ((k + 1 : Nat) : Int) s0 s1 N kk c H ((jacquardlaw3_Small_k11 (R E) Lim E.glob) .normal (jacquardlaw3_Small_c2 (most : Int) (nxF h0) n L (mem : Int) i xs ((k + 1 : Nat) : Int) r (120 + E.glob.rem .i64 (E.glob.shr .i64 r 4) L) s0 s1 v.cs H)) := by
        intro v hvv
        exact small_case ho2 hN2 (by omega) ht hLp hvv r0 ⟨by omega, by omega⟩ (by omega) ⟨by omega, by omega⟩
      have hround : ∃ v : Opd, opdOk v ∧ jacquardlaw3_Small_F1 (R E) Lim E.glob (jacquardlaw3_Small_s1 (most : Int) (nxF h0) n L (mem : Int) i xs ((k + 1 : Nat) : Int) s0 s1 h) = (jacquardlaw3_Small_k11 (R E) Lim E.glob) .normal (jacquardlaw3_Small_c2 (most : Int) (nxF h0) n L (mem : Int) i xs ((k + 1 : Nat) : Int) r (120 + E.glob.rem .i64 (E.glob.shr .i64 r 4) L) s0 s1 v.cs H) := by
        have hw : E.glob.wrap .i64 (120 + E.glob.rem .i64 (E.glob.shr .i64 r 4) L) = 120 + E.glob.rem .i64 (E.glob.shr .i64 r 4) L := g_wrap_i64 (by omega) (by omega)
        rw [jacquardlaw3_Small_r1, show decide (((k + 1 : Nat) : Int) > 0) = true from decide_eq_true (by omega), scK_ok, bind_ok]
        dsimp only
        rw [if_pos (decide_eq_true (by omega)), hF, asI_ok, if_neg (by omega)]
        rw [hw, opd_num, opd_reg, if_pos ⟨rfl, rfl, rfl⟩]
        by_cases h8 : (E.glob.rem .i64 (E.glob.shr .i64 r 8) 3 == 0) = true
        · refine ⟨⟨E.glob.band .i64 (E.glob.shr .i64 r 10) 1, 0⟩, .inr ⟨hb1, rfl⟩, ?_⟩
          rw [if_pos h8, if_pos ⟨rfl, rfl, rfl⟩, bind_ok]
        · refine ⟨⟨-1, E.glob.rem .i64 (E.glob.shr .i64 r 6) 3⟩, .inl ⟨rfl, q6.1, q6.2⟩, ?_⟩
          rw [if_neg h8, bind_ok]
      obtain ⟨v, hvv, hround⟩ := hround
      obtain ⟨c2, mem2, xs2, h2, g1, g2, g3, g4, g5, g6, g7⟩ := hcase v hvv
      rw [g1, show ((k + 1 : Nat) : Int) - 1 = (k : Int) by omega] at hround
      obtain ⟨mem', m', kk', c', xs', h', f1, f2, f3, f4, f5, f6, f7, f8, f9, f10⟩ := ih mem2 (m + 1) (kk + 1) c2 xs2 h2 (by omega) (by omega) (by omega) (by omega) (hv2.keep (g7.mono hN0)) (Nat.le_trans hN2 g7.1) g6 g2
      exact ⟨mem', m', kk', c', xs', h', Lim_next hround f1, f2, by omega, by omega, f5, f6, by omega, f8, f9, (hset.trans g7.x).trans f10⟩
    · refine ⟨mem, m, kk, c, xs, h, Lim_exit ?_, ht, by omega, by omega, hmem, hv, by omega, hN, ho, KpX.refl _ _ _⟩
      rw [jacquardlaw3_Small_r1, show decide (((k + 1 : Nat) : Int) > 0) = true from decide_eq_true (by omega), scK_ok, bind_ok]
      dsimp only
      rw [if_neg (by simp; omega)]

theorem sum_app_one (l : List (List Ins)) (c : List Ins) : ((l ++ [c]).map memC).sum = (l.map memC).sum + memC c := by
  rw [List.map_append, List.sum_append]; simp

/-- All threads. -/
theorem small_thrs (hE : jacquardlaw3_Small_1_In E) {h0 : AHeap} {x : Cell} {l : List Int} (hx : SlAt h0 x 1 (intC .i64 l) l.length) (hlow : Low h0.length x) (hl : l.length < 9223372036854775808)
    {most : Nat} (hmost : most ≤ 900) {n : Nat} (hn : n ≤ 3) {L : Int} (hL : L = 2 ∨ L = 3) (s0 : List Cell) (a : Cell) {name : ByteArray} {Nb : Nat} (hNb : h0.length + 2 ≤ Nb) : ∀ (q i mem m : Nat) (rows : List (List Ins)) (y : Cell) (h : AHeap), i + q = n → rows.length = i → mem ≤ most → m + 4 * q < 900 →
      (rows.map memC).sum = mem → (∀ c ∈ rows, ∃ k, k ≤ 3 ∧ ThrOk L k c) → VarsAt h0 x h m → Nb ≤ h.length → RowsOwn 9 codeC Nb h y rows →
      ∃ (mem' m' : Nat) (rows' : List (List Ins)) (y' : Cell) (h' : AHeap), Lim (jacquardlaw3_Small_F2 (R E) Lim E.glob) (jacquardlaw3_Small_s2 (most : Int) (nxF h0) (n : Int) L (mem : Int) (i : Int) s0 [.str name, a, y, .int .i64 0, .nils] h) = some (.exit 0, jacquardlaw3_Small_x2_1 (nxF h0) s0 [.str name, a, y', .int .i64 0, .nils] h') ∧
        rows'.length = n ∧ mem' ≤ most ∧ (rows'.map memC).sum = mem' ∧ (∀ c ∈ rows', ∃ k, k ≤ 3 ∧ ThrOk L k c) ∧ VarsAt h0 x h' m' ∧ m' ≤ m + 4 * q ∧ Nb ≤ h'.length ∧ RowsOwn 9 codeC Nb h' y' rows' ∧ KpX (h0.length + 1) Nb h h' := by
  intro q
  induction q with
  | zero =>
    intro i mem m rows y h hi hr hmem _ hs hc hv hN hy
    refine ⟨mem, m, rows, y, h, Lim_exit ?_, by omega, hmem, hs, hc, hv, by omega, hN, hy, KpX.refl _ _ _⟩
    rw [jacquardlaw3_Small_r2, if_neg (by simp; omega)]
  | succ q ih =>
    intro i mem m rows y h hi hr hmem hm hs hc hv hN hy
    obtain ⟨r, r0, r1, hF, hv2⟩ := next_R hE hx hlow hl hv (by omega)
    have hset : KpX (h0.length + 1) Nb h (setBlk h (h0.length + 1) (some ⟨true, 0, [.int .i64 ((m + 1 : Nat) : Int)]⟩)) := KpX.set _ _ _ _
    have hy2 := hy.keepX (show h0.length + 1 < Nb by omega) (KpX.set (h0.length + 1) h.length h (some ⟨true, 0, [.int .i64 ((m + 1 : Nat) : Int)]⟩))
    have hN2 : Nb ≤ (setBlk h (h0.length + 1) (some ⟨true, 0, [.int .i64 ((m + 1 : Nat) : Int)]⟩)).length := by rw [setBlk_len]; exact hN
    generalize setBlk h (h0.length + 1) (some ⟨true, 0, [.int .i64 ((m + 1 : Nat) : Int)]⟩) = H at *
    have q3 := rem_rng (E := E) r0 (show (0 : Int) < 3 by omega)
    obtain ⟨k, hk⟩ : ∃ k : Nat, E.glob.rem .i64 r 3 + 1 = (k : Int) := ⟨(E.glob.rem .i64 r 3 + 1).toNat, by omega⟩
    obtain ⟨mem', m', kk', c', xs', h', f1, f2, f3, f4, f5, f6, f7, f8, f9, f10⟩ := small_thr hE hx hlow hl hmost (n := n) (i := (i : Int)) hL s0 [.str name, a, y, .int .i64 0, .nils] H.length (Nat.le_trans hNb hN2) k mem (m + 1) 0 [] .nils H (by omega) (by omega) hmem (by omega) hv2 (Nat.le_refl _) (Own.nil _ _ _) ThrOk.nil
    have hy3 := hy2.keepX (show h0.length + 1 < Nb by omega) f10
    obtain ⟨y2, h2, hap, hyp, hkp, _⟩ := hy3.push (f9.monoN hN2) (fun j h1 h2 => by have := (f9.blkLt h1).2; have := (hy2.blkLt h2).1; omega) (Nat.le_trans hN2 f8) (by omega)
    have hm0 : memC c' + mem = mem' := by have : memC ([] : List Ins) = 0 := rfl; omega
    have hround : jacquardlaw3_Small_F2 (R E) Lim E.glob (jacquardlaw3_Small_s2 (most : Int) (nxF h0) (n : Int) L (mem : Int) (i : Int) s0 [.str name, a, y, .int .i64 0, .nils] h) = some (.normal, jacquardlaw3_Small_s2 (most : Int) (nxF h0) (n : Int) L (mem' : Int) ((i + 1 : Nat) : Int) s0 [.str name, a, y2, .int .i64 0, .nils] h2) := by
      have hw : E.glob.wrap .i64 (E.glob.rem .i64 r 3 + 1) = (k : Int) := by rw [g_wrap_i64 (by omega) (by omega), hk]
      rw [jacquardlaw3_Small_r2, if_pos (by simp; omega), hF, asI_ok, hw, f1, bind_ok, jacquardlaw3_Small_e1_3, show ∀ {α : Type} (f : Cell → Option α), atK [.str name, a, y, .int .i64 0, .nils] 2 f = f y from fun _ => rfl, if_pos (show (splice [Cell.nils] 0 ([xs'] : List Cell)).length = 1 * 1 from rfl), show splice [Cell.nils] 0 ([xs'] : List Cell) = [xs'] from rfl, hap, if_pos (show 2 < ([.str name, a, y, .int .i64 0, .nils] : List Cell).length by simp), g_succ (by omega)]
      rfl
    obtain ⟨mem3, m3, rows3, y3, h3, g1, g2, g3, g4, g5, g6, g7, g8, g9, g10⟩ := ih (i + 1) mem' m' (rows ++ [c']) y2 h2 (by omega) (by rw [List.length_append, List.length_singleton]; omega) f5 (by omega) (by rw [sum_app_one]; omega)
      (fun c hcm => by
        rcases List.mem_append.1 hcm with hcm | hcm
        · exact hc c hcm
        · simp at hcm; subst hcm; exact ⟨kk', by omega, f2⟩) (f6.keep (hkp.mono hNb)) (Nat.le_trans (Nat.le_trans hN2 f8) hkp.1) hyp
    exact ⟨mem3, m3, rows3, y3, h3, Lim_next hround g1, g2, g3, g4, g5, g6, by omega, g8, g9, ((hset.trans (f10.mono hN2)).trans hkp.x).trans g10⟩

end
end Jq

/- A test made ready by the program. -/
namespace Jq
open Go

theorem plc_get {c : Int} : ∀ (l : List Int) (i : Nat), c ∈ l → ∃ j : Nat, plc l c i = ((i + j : Nat) : Int) ∧ l[j]? = some c
  | [], _, h => by cases h
  | d :: t, i, h => by
    rw [plc]
    by_cases e : d = c
    · exact ⟨0, by rw [if_pos e]; rfl, by rw [e]; rfl⟩
    · rw [if_neg e]
      have hm : c ∈ t := by
        rcases List.mem_cons.1 h with h | h
        · exact absurd h.symm e
        · exact h
      obtain ⟨j, h1, h2⟩ := plc_get t (i + 1) hm
      exact ⟨j + 1, by rw [h1]; congr 1; omega, by simpa using h2⟩

theorem locsF_pw (S : Nat → Bool) : ∀ n, (locsF S n).Pairwise (· < ·)
  | 0 => by simp [locsF]
  | n + 1 => by
    rw [locsF_succ]
    split
    · rw [List.pairwise_append]
      refine ⟨locsF_pw S n, by simp, fun a ha b hb => ?_⟩
      obtain ⟨c, h1, _, rfl⟩ := locsF_mem.1 ha
      rw [List.mem_singleton] at hb
      subst hb; omega
    · exact locsF_pw S n

theorem pw_inj {l : List Int} (h : l.Pairwise (· < ·)) {j k : Nat} {c : Int} (hj : l[j]? = some c) (hk : l[k]? = some c) : j = k := by
  obtain ⟨h1, e1⟩ := List.getElem?_eq_some_iff.1 hj
  obtain ⟨h2, e2⟩ := List.getElem?_eq_some_iff.1 hk
  rw [List.pairwise_iff_getElem] at h
  rcases Nat.lt_trichotomy j k with g | g | g
  · have := h j k h1 h2 g; omega
  · exact g
  · have := h k j h2 h1 g; omega

theorem init_set {locs : List Int} (hp : locs.Pairwise (· < ·)) (l : List (Int × Int)) (p : Int × Int) {j : Nat} (hj : locs[j]? = some p.1) : (locs.map (initV l)).set j p.2 = locs.map (initV (l ++ [p])) := by
  refine List.ext_getElem? fun k => ?_
  by_cases hk : j = k
  · subst hk
    have hjl := getI_lt hj
    rw [List.getElem?_set_self (by rw [List.length_map]; exact hjl), List.getElem?_map, hj, Option.map_some, initV_snoc, if_pos rfl]
  · rw [List.getElem?_set_ne hk, List.getElem?_map, List.getElem?_map]
    cases hc : locs[k]? with
    | none => rfl
    | some c =>
      rw [Option.map_some, Option.map_some, initV_snoc, if_neg (fun e => hk (pw_inj hp (by rw [← e] at hc; exact hj) (by rw [← e] at hc; exact hc)))]

theorem locB_iff {n : Int} : locB n = true ↔ 97 ≤ n ∧ n ≤ 122 := by unfold locB; simp

theorem ins_cs_loc {i : Ins} {k r o n : Int} {a b : Opd} (h : i.cs = (⟨k, r, 0, a, o, b, n⟩ : Ins).cs) : i.loc = 0 := by
  simp only [Ins.cs, List.cons.injEq, Cell.int.injEq, true_and] at h
  exact h.2.2.1

theorem fldB_loc {i : Ins} (h : fldB locB i = true) : ((i.kind = 1 ∨ i.kind = 2 ∨ i.kind = 4) ∧ 97 ≤ i.loc ∧ i.loc ≤ 122) ∨ (¬ (i.kind = 1 ∨ i.kind = 2 ∨ i.kind = 4) ∧ i.loc = 0) := by
  unfold fldB at h
  by_cases h1 : i.kind = 1
  · rw [if_pos h1, Bool.and_eq_true, Bool.and_eq_true] at h; exact .inl ⟨.inl h1, locB_iff.1 h.1.1⟩
  rw [if_neg h1] at h
  by_cases h2 : i.kind = 2
  · rw [if_pos h2, Bool.and_eq_true, Bool.and_eq_true] at h; exact .inl ⟨.inr (.inl h2), locB_iff.1 h.1.1⟩
  rw [if_neg h2] at h
  by_cases h3 : i.kind = 3
  · rw [if_pos h3, decide_eq_true_eq] at h; exact .inr ⟨by omega, ins_cs_loc h⟩
  rw [if_neg h3] at h
  by_cases h4 : i.kind = 4
  · rw [if_pos h4] at h; simp only [Bool.and_eq_true] at h; exact .inl ⟨.inr (.inr h4), locB_iff.1 h.1.1.1.1⟩
  rw [if_neg h4] at h
  by_cases h5 : i.kind = 5
  · rw [if_pos h5, Bool.and_eq_true, decide_eq_true_eq] at h; exact .inr ⟨by omega, ins_cs_loc h.2⟩
  rw [if_neg h5] at h
  by_cases h6 : i.kind = 6
  · rw [if_pos h6, Bool.and_eq_true, decide_eq_true_eq] at h; exact .inr ⟨by omega, ins_cs_loc h.2⟩
  rw [if_neg h6] at h; cases h

theorem okT_ins {T : PTest} (h : okT T = true) {c : List Ins} (hc : c ∈ T.thr) {i : Ins} (hi : i ∈ c) : fldB locB i = true := by
  unfold okT at h
  simp only [Bool.and_eq_true, Bool.not_eq_true', List.any_eq_false, Bool.not_eq_true, Bool.not_eq_false'] at h
  simpa using h.1.2 c hc i hi

theorem atmB_loc {a : Atm} (h : atmB a = true) : a.loc = 0 ∨ (97 ≤ a.loc ∧ a.loc ≤ 122) := by
  unfold atmB at h
  split at h
  · rw [Bool.and_eq_true] at h; exact .inr (locB_iff.1 h.2)
  · simp only [Bool.and_eq_true, beq_iff_eq] at h; exact .inl h.1.2

theorem okT_atm {T : PTest} (h : okT T = true) {c : List Atm} (hc : c ∈ T.any) {a : Atm} (ha : a ∈ c) : atmB a = true := by
  unfold okT condB at h
  rw [Bool.and_eq_true] at h
  have h := h.2
  split at h
  · rw [beq_iff_eq] at h
    have : T.any = [] := List.length_eq_zero_iff.1 h
    rw [this] at hc; cases hc
  · rw [Bool.and_eq_true] at h
    have h := h.2
    rw [Bool.not_eq_true', List.any_eq_false] at h
    have h := h c hc
    unfold rowBad at h
    rw [Bool.not_eq_true, Bool.or_eq_false_iff, List.any_eq_false] at h
    have := h.2 a ha
    simpa using this

theorem any_congr' {α : Type} {l : List α} {f g : α → Bool} (h : ∀ x ∈ l, f x = g x) : l.any f = l.any g := by
  induction l with
  | nil => rfl
  | cons a l ih => rw [List.any_cons, List.any_cons, h a (by simp), ih fun x hx => h x (by simp [hx])]

theorem loc_mod {n : Int} {b : Nat} (hb : 97 ≤ b ∧ b ≤ 122) (h : n = 0 ∨ (97 ≤ n ∧ n ≤ 122)) : (n == (b : Int)) = (n % 256 == (b : Int)) := by
  rw [Bool.eq_iff_iff, beq_iff_eq, beq_iff_eq]; omega

theorem there_eq {T : PTest} (h : okT T = true) {b : Nat} (hb : 97 ≤ b ∧ b ≤ 122) : thereW T b = thereT T b := by
  unfold thereW thereT
  congr 1
  · congr 1
    · exact any_congr' fun p hp => loc_mod hb (.inr (locB_iff.1 (okT_locs h p hp)))
    · refine any_congr' fun c hc => any_congr' fun i hi => loc_mod hb ?_
      rcases fldB_loc (okT_ins h hc hi) with ⟨_, h⟩ | ⟨_, h⟩
      · exact .inr h
      · exact .inl h
  · exact any_congr' fun c hc => any_congr' fun a ha => loc_mod hb (atmB_loc (okT_atm h hc ha))

theorem locsF_congr {S S' : Nat → Bool} (h : ∀ b, 97 ≤ b → b ≤ 122 → S b = S' b) : ∀ n, n ≤ 26 → locsF S n = locsF S' n
  | 0, _ => rfl
  | n + 1, hn => by rw [locsF_succ, locsF_succ, locsF_congr h n (by omega), h (97 + n) (by omega) (by omega)]

theorem locs_eq {T : PTest} (h : okT T = true) : locsW T = locsT T := locsF_congr (fun b h1 h2 => there_eq h ⟨h1, h2⟩) 26 (Nat.le_refl _)

theorem mem_locs_init {T : PTest} (h : okT T = true) {p : Int × Int} (hp : p ∈ T.inits) : p.1 ∈ locsT T := by
  have hr := locB_iff.1 (okT_locs h p hp)
  refine locsF_mem.2 ⟨(p.1 - 97).toNat, by omega, ?_, by omega⟩
  unfold thereT
  rw [Bool.or_eq_true, Bool.or_eq_true, List.any_eq_true]
  exact .inl (.inl ⟨p, hp, by rw [beq_iff_eq]; omega⟩)

section
variable {E : Env}

theorem Index_R (hE : slices_Index_sbyte_byte_In E) {y : Cell} {locs : List Int} {h : AHeap} (ha : SlAt h y 1 (intC .u8 locs) locs.length) (hl : locs.length ≤ 100) (x : Int) :
    R E 134 [.c y, .c (.int .u8 x)] h = some ([.c (.int .i64 (plc locs x 0))], h) := by
  refine R_intro hE.fn ?_
  have key : ∀ (t : List Int) (i : Nat), locs.drop i = t → (Lim (slices_Index_sbyte_byte_F1 (R E) Lim E.glob) (slices_Index_sbyte_byte_s1 y x locs.length (i : Int) h)).bind (fun p => slices_Index_sbyte_byte_k3 (R E) Lim E.glob h p.1 p.2) = some ([.c (.int .i64 (plc t x i))], h) := by
    intro t
    induction t with
    | nil =>
      intro i hd
      have hi : locs.length ≤ i := by
        have := congrArg List.length hd
        simp at this; omega
      have hr : slices_Index_sbyte_byte_F1 (R E) Lim E.glob (slices_Index_sbyte_byte_s1 y x locs.length (i : Int) h) = some (.exit 0, slices_Index_sbyte_byte_x1_1 h) := by
        rw [slices_Index_sbyte_byte_r1, if_neg (by simp; omega)]
      rw [Lim_exit hr, bind_ok, slices_Index_sbyte_byte_e1_1]; rfl
    | cons v t ih =>
      intro i hd
      have hi : i < locs.length := by
        have := congrArg List.length hd
        simp at this; omega
      have hv : locs[i]? = some v := by
        have := congrArg (fun z => z[0]?) hd
        simpa [List.getElem?_drop] using this
      have hd2 : locs.drop (i + 1) = t := by
        have := congrArg (List.drop 1) hd
        simpa [List.drop_drop] using this
      have hr : slices_Index_sbyte_byte_F1 (R E) Lim E.glob (slices_Index_sbyte_byte_s1 y x locs.length (i : Int) h) = if (x == v) = true then some (.ret, slices_Index_sbyte_byte_x1_0 i h) else some (.normal, slices_Index_sbyte_byte_s1 y x locs.length ((i + 1 : Nat) : Int) h) := by
        rw [slices_Index_sbyte_byte_r1, if_pos (by simp; omega), ha.get1 hi (intC_get hv), asI_ok, g_succ (by omega)]
      rw [plc]
      by_cases hvx : v = x
      · rw [if_pos (by rw [hvx]; exact beq_self_eq_true _)] at hr
        rw [Lim_ret hr, bind_ok, slices_Index_sbyte_byte_e1_0, if_pos hvx]
      · rw [if_neg (by rw [beq_iff_eq]; exact fun e => hvx e.symm)] at hr
        rw [if_neg hvx]
        have := ih (i + 1) hd2
        cases hL : Lim (slices_Index_sbyte_byte_F1 (R E) Lim E.glob) (slices_Index_sbyte_byte_s1 y x locs.length ((i + 1 : Nat) : Int) h) with
        | none => rw [hL] at this; cases this
        | some p => rw [Lim_next hr hL]; rw [hL] at this; exact this
  rw [slices_Index_sbyte_byte_eq, ha.len]
  exact key locs 0 rfl

/-- A field of a row of one's own is put. -/
theorem Own.setG {n : Nat} {h : AHeap} {x : Cell} {esz len : Nat} {cs : List Cell} (o : Own n h x esz cs len) {i j : Nat} (hi : i < len) (hj : j < esz) (c : Cell) :
    ∃ k, n ≤ k ∧ k < h.length ∧ isBlk x k ∧ (∀ {α : Type} (f : AHeap → Option α), (idxSK esz x (i : Int) fun k N o => rdH h k N fun l => if o + j < l.length then putH h k (l.set (o + j) c) f else none) = f (setBlk h k (some ⟨true, esz, cs.set (i * esz + j) c⟩))) ∧
      Own n (setBlk h k (some ⟨true, esz, cs.set (i * esz + j) c⟩)) x esz (cs.set (i * esz + j) c) len := by
  rcases o.2 with ⟨_, h0⟩ | ⟨k, rfl, hk, hb⟩
  · omega
  · have hlt := idx_lt hi hj
    refine ⟨k, hk, blk_lt' hb, rfl, fun f => ?_, by rw [List.length_set]; exact o.1, .inr ⟨k, by rw [List.length_set], hk, blk_set_self (blk_lt' hb) _⟩⟩
    unfold idxSK
    simp only
    rw [if_pos ⟨by omega, by omega⟩, rdH_ok hb rfl]
    dsimp only
    rw [Int.toNat_natCast, Nat.zero_add, if_pos (by rw [o.1]; exact hlt), putH_ok hb rfl]

theorem codeC_set : ∀ (l : List Ins) (i : Nat) (q : Ins) (v : Int), l[i]? = some q → (codeC l).set (i * 9 + 2) (.int .i64 v) = codeC (l.set i { q with loc := v })
  | [], _, _, _, h => by simp at h
  | a :: l, 0, q, v, h => by
    simp at h; subst h
    have e : codeC (a :: l) = a.cs ++ codeC l := rfl
    rw [e, List.set_append_left _ _ (by rw [Ins.len]; omega)]
    rfl
  | a :: l, i + 1, q, v, h => by
    have ih := codeC_set l i q v (by simpa using h)
    have e : codeC (a :: l) = a.cs ++ codeC l := rfl
    rw [e, List.set_append_right _ _ (by rw [Ins.len]; omega), show (i + 1) * 9 + 2 - a.cs.length = i * 9 + 2 by rw [Ins.len]; omega, ih]
    rfl

/-- A row of instructions copied. -/
theorem Clone_R (hE : slices_Clone_sIns_Ins_In E) {x : Cell} {l : List Ins} {h : AHeap} (hx : SlAt h x 9 (codeC l) l.length) (hlow : Low h.length x) (hl : l.length ≤ 1000) :
    ∃ x' h', R E 119 [.c x] h = some ([.c x'], h') ∧ Own h.length h' x' 9 (codeC l) l.length ∧ Kp h.length h h' := by
  have hm : maxBytes ≥ 1000 * 72 := by unfold maxBytes; omega
  have hlen := codeC_len l
  rcases hx.2 with ⟨rfl, h0⟩ | ⟨k, N, off, rfl, hb⟩
  · refine ⟨.nils, h, R_intro hE.fn ?_, ⟨hlen, .inl ⟨rfl, h0⟩⟩, Kp.refl _ _⟩
    rw [slices_Clone_sIns_Ins_eq]; rfl
  · have hk1 : Kp h.length h (h ++ [some ⟨true, 9, []⟩]) := Kp.app _ (Nat.le_refl _)
    have hx2 := hx.keep hlow hk1
    have hc : slCells (h ++ [some ⟨true, 9, []⟩]) 9 (.sl k N off l.length) = some (codeC l) := by
      unfold slCells
      dsimp only
      by_cases h0 : l.length = 0
      · have : l = [] := List.length_eq_zero_iff.1 h0
        rw [if_pos h0, this]; rfl
      · rw [if_neg h0]
        rcases hx2.2 with ⟨e, _⟩ | ⟨k', N', off', e, hb⟩
        · cases e
        · cases e
          rcases hb with hb | ⟨b, hb, hN, hle, hat⟩
          · exact absurd hb h0
          · rw [hb]
            simp only
            rw [if_pos ⟨hN, hle⟩]
            congr 1
            refine List.ext_getElem? fun j => ?_
            rw [List.getElem?_take, List.getElem?_drop]
            by_cases hj : j < l.length * 9
            · rw [if_pos hj, hat j hj]
            · rw [if_neg hj, List.getElem?_eq_none (by omega)]
    have hap : ∀ {α : Type} (f : Cell → AHeap → Option α), appK 9 72 (.sl h.length 0 0 0) (codeC l) (h ++ [some ⟨true, 9, []⟩]) f = f (.sl h.length (codeC l).length 0 l.length) (h ++ [some ⟨true, 9, codeC l⟩]) := by
      intro α f
      unfold appK
      simp only
      rw [blk_new, Option.bind_some]
      dsimp only
      have hd : (codeC l).length / 9 = l.length := by rw [hlen]; omega
      rw [if_pos ⟨rfl, rfl, rfl, by simp, by rw [hd]; simp; omega, by rw [hd]; simp; omega⟩, hd]
      by_cases h0 : l.length = 0
      · have : l = [] := List.length_eq_zero_iff.1 h0
        subst this
        rw [if_pos (by simp [codeC]), setBlk_last]; rfl
      · rw [if_neg (by omega), if_pos trivial, setBlk_last]
        simp
    refine ⟨.sl h.length (codeC l).length 0 l.length, h ++ [some ⟨true, 9, codeC l⟩], R_intro hE.fn ?_, ⟨hlen, .inr ⟨h.length, rfl, Nat.le_refl _, blk_new _ _⟩⟩, Kp.app _ (Nat.le_refl _)⟩
    rw [slices_Clone_sIns_Ins_eq, show ∀ {α : Type} (f : Bool → Option α), eqNilK false (.sl k N off l.length) .nils f = f false from fun _ => rfl, if_neg (by simp), if_pos (show ([] : List Cell).length = 0 * 9 from rfl), hc, bind_ok, show ([] : List Cell).length = 0 from rfl, hap]

end
end Jq

/- A test made ready by the program: the whole. -/
namespace Jq
open Go

def mixL {α : Type} (f : α → α) (l : List α) (i : Nat) : List α := (l.take i).map f ++ l.drop i
theorem mixL_zero {α : Type} (f : α → α) (l : List α) : mixL f l 0 = l := by simp [mixL]
theorem mixL_all {α : Type} (f : α → α) (l : List α) : mixL f l l.length = l.map f := by simp [mixL]
theorem mixL_len {α : Type} (f : α → α) (l : List α) (i : Nat) : (mixL f l i).length = l.length := by simp [mixL]; omega
theorem mixL_get {α : Type} (f : α → α) {l : List α} {i : Nat} {q : α} (h : l[i]? = some q) : (mixL f l i)[i]? = some q := by
  have hi := getI_lt h
  unfold mixL
  rw [List.getElem?_append_right (by simp; omega)]
  simp only [List.length_map, List.length_take, List.getElem?_drop]
  rw [show i + (i - min i l.length) = i by omega]; exact h
theorem mixL_set {α : Type} (f : α → α) {l : List α} {i : Nat} {q : α} (h : l[i]? = some q) : (mixL f l i).set i (f q) = mixL f l (i + 1) := by
  have hi := getI_lt h
  have hd : l.drop i = q :: l.drop (i + 1) := by
    rw [List.drop_eq_getElem_cons hi]
    have := List.getElem?_eq_getElem hi
    rw [h] at this
    rw [← Option.some.inj this]
  unfold mixL
  rw [List.set_append_right _ _ (by simp; omega), takeI_succ h, hd]
  simp only [List.length_map, List.length_take, List.map_append, List.map_cons, List.map_nil, List.append_assoc, List.singleton_append]
  rw [show i - min i l.length = 0 by omega]; rfl
theorem mixL_same {α : Type} (f : α → α) {l : List α} {i : Nat} {q : α} (h : l[i]? = some q) (hq : f q = q) : mixL f l i = mixL f l (i + 1) := by
  rw [← mixL_set f h, hq]
  refine List.ext_getElem? fun k => ?_
  by_cases hk : i = k
  · subst hk
    rw [List.getElem?_set_self (by rw [mixL_len]; exact getI_lt h), mixL_get f h]
  · rw [List.getElem?_set_ne hk]

theorem intC_set (k : IntKind) (l : List Int) (i : Nat) (v : Int) : (intC k l).set i (.int k v) = intC k (l.set i v) := by simp [intC, List.map_set]
theorem KpX.kp {a n m : Nat} {h h' : AHeap} (x : KpX a n h h') (h1 : m ≤ n) (h2 : m ≤ a) : Kp m h h' := ⟨x.1, fun k hk => x.2 k (by omega) (by omega)⟩

section
variable {E : Env}

theorem rd3 {α : Type} {h : AHeap} {k : Nat} {a b c : Cell} (hk : blk? h k = some ⟨true, 0, [a, b, c]⟩) {F : List Cell → Option α} : rdH h k 3 F = F [a, b, c] := rdH_ok hk rfl

theorem Own.setG1 {n : Nat} {h : AHeap} {x : Cell} {len : Nat} {cs : List Cell} (o : Own n h x 1 cs len) {i : Nat} (hi : i < len) (c : Cell) :
    ∃ k, n ≤ k ∧ k < h.length ∧ isBlk x k ∧ (∀ {α : Type} (f : AHeap → Option α), (idxSK 1 x (i : Int) fun k N o => rdH h k N fun l => if o < l.length then putH h k (l.set o c) f else none) = f (setBlk h k (some ⟨true, 1, cs.set i c⟩))) ∧
      Own n (setBlk h k (some ⟨true, 1, cs.set i c⟩)) x 1 (cs.set i c) len := by
  obtain ⟨k, h1, h2, h3, h4, h5⟩ := o.setG (j := 0) hi (by omega) c
  rw [show i * 1 + 0 = i by omega] at h4 h5
  exact ⟨k, h1, h2, h3, h4, h5⟩

theorem u8_loc {x : Int} (h : 97 ≤ x ∧ x ≤ 122) : E.glob.wrap .u8 x = x := by
  show IntKind.wrap .u8 _ = _
  simp only [IntKind.wrap, IntKind.signed, IntKind.bits, Bool.false_and, Bool.false_eq_true, if_false]; omega

/-- Where a letter stands, of a program that is being made. -/
theorem place_R (hE : prog_Compile_1_In E) {h : AHeap} {K : Nat} {y b c : Cell} {locs : List Int} (hb : blk? h K = some ⟨true, 0, [y, b, c]⟩) (hy : SlAt h y 1 (intC .u8 locs) locs.length) (hl : locs.length ≤ 100) {x : Int} (hx : 97 ≤ x ∧ x ≤ 122) :
    R E 118 ([.c (.int .i64 x)] ++ [.c (.ptr K 3 0)]) h = some ([.c (.int .i64 (plc locs x 0))], h) := by
  refine R_intro hE.fn ?_
  show prog_Compile_1.body (R E) Lim E.glob [.c (.int .i64 x), .c (.ptr K 3 0)] h = _
  rw [prog_Compile_1_eq, rd3 hb, atK_ok (i := 0 + 0) (c := y) rfl, u8_loc hx, Index_R hE.c134 hy hl, c1_ok, asI_ok]

theorem checkT_ok {T : PTest} (h : checkT T = 0) : okT T = true := by
  unfold checkT at h
  by_cases ho : (!okT T) = true
  · rw [if_pos ho] at h; cases h
  · simpa using ho

theorem Compile_R (hE : prog_Compile_In E) {cs : List Cell} {T : PTest} {h : AHeap} (p : TestAt h cs T) (hs : T.small) (hn : T.name.size < 9223372036854775807) (hk : checkT T = 0) :
    ∃ cs' h', R E 98 [.agg cs] h = some ([.agg cs', .c (.int .i64 0)], h') ∧ ProgAt h' cs' (compT T) ∧ Kp h.length h h' := by
  have hfit := hs.fits hn
  have hok := checkT_ok hk
  obtain ⟨y, h4, rl, ol, kl⟩ := Locs_R hE.c117 p hfit
  rw [locs_eq hok] at ol
  have hck := Check_R hE.c116 p hs hn
  rw [hk] at hck
  have hLl : (locsT T).length ≤ 26 := locsF_len _ 26
  have hpw : (locsT T).Pairwise (· < ·) := locsF_pw _ 26
  have hmb : maxBytes ≥ 100 * 8 := by unfold maxBytes; omega
  have hlen := p.len
  obtain ⟨a, b, c, rfl, ⟨ha, hal⟩, hb, _⟩ := p
  obtain ⟨ts, t1, t2, t3⟩ := hb
  have a1 : ∀ {α : Type} (f : Cell → Option α), atK [.str T.name, a, b, .int .i64 T.ck, c] 1 f = f a := fun _ => rfl
  have a2 : ∀ {α : Type} (f : Cell → Option α), atK [.str T.name, a, b, .int .i64 T.ck, c] 2 f = f b := fun _ => rfl
  generalize hcs : ([.str T.name, a, b, .int .i64 T.ck, c] : List Cell) = cs at *
  generalize hL : locsT T = L at *
  -- the program's own blocks
  have hK : h.length ≤ h4.length := kl.1
  have sp1 : splice [Cell.nils, Cell.nils, Cell.nils] 0 ([y] : List Cell) = [y, .nils, .nils] := rfl
  have l3 : ([Cell.nils, Cell.nils, Cell.nils] : List Cell).length = 3 := rfl
  have hrep : rep (Int.toNat (L.length : Int)) [Cell.int .i64 0] = intC .i64 (L.map (initV [])) := by
    rw [Int.toNat_natCast]
    unfold rep
    have : ∀ n : Nat, (List.replicate n [Cell.int .i64 0]).flatten = List.replicate n (Cell.int .i64 0) := fun n => by
      induction n with
      | zero => rfl
      | succ n ih => rw [List.replicate_succ, List.flatten_cons, ih, List.replicate_succ]; rfl
    rw [this]
    refine List.ext_getElem? fun k => ?_
    unfold intC
    rw [List.getElem?_replicate, List.getElem?_map, List.getElem?_map]
    split
    · rename_i hk
      rw [List.getElem?_eq_getElem hk]; rfl
    · rename_i hk
      rw [List.getElem?_eq_none (by omega)]; rfl
  have n8 : (h4 ++ [some (Blk.mk true 0 [y, .nils, .nils])]).length = h4.length + 1 := by simp
  have b8 : blk? (h4 ++ [some (Blk.mk true 0 [y, .nils, .nils])]) h4.length = some ⟨true, 0, [y, .nils, .nils]⟩ := blk_new _ _
  have k8 : Kp h4.length h4 (h4 ++ [some (Blk.mk true 0 [y, .nils, .nils])]) := Kp.app _ (Nat.le_refl _)
  have hrun : prog_Compile.body (R E) Lim E.glob [.agg cs] h = (Lim (prog_Compile_F1 (R E) Lim E.glob) (prog_Compile_s1 h4.length 3 0 (.fn 118 [(h4.length, 3, 0)]) a T.inits.length 0 cs [.nils, .nils, .nils] (setBlk ((h4 ++ [some (Blk.mk true 0 [y, .nils, .nils])]) ++ [some ⟨true, 1, intC .i64 (L.map (initV []))⟩]) h4.length (some ⟨true, 0, [y, .sl (h4.length + 1) L.length 0 L.length, .nils]⟩)))).bind fun p => prog_Compile_k3 (R E) Lim E.glob h p.1 p.2 := by
    have hil : (intC .i64 (L.map (initV []))).length = L.length := by rw [intC_len, List.length_map]
    rw [prog_Compile_eq, if_pos ⟨rfl, hlen⟩, hck, c1_ok, asI_ok, if_neg (by simp), if_pos ⟨rfl, hlen⟩, rl, c1_ok, asC_ok, l3, sp1, rd3 (blk_new _ _), if_pos ⟨rfl, rfl, rfl⟩, putH_ok (blk_new _ _) rfl, setBlk_last]
    rw [rd3 b8, atK_ok (i := 0) (c := y) rfl, ol.at.len, if_pos ⟨by omega, Int.le_refl _, by rw [Int.toNat_natCast]; omega, by omega⟩, hrep, rd3 (blk_old b8 _), if_pos (show 1 < ([y, Cell.nils, Cell.nils] : List Cell).length by simp), putH_ok (blk_old b8 _) rfl, a1, ha.len, n8, hil, Int.toNat_natCast]
    rfl
  have bN : blk? (setBlk ((h4 ++ [some (Blk.mk true 0 [y, .nils, .nils])]) ++ [some ⟨true, 1, intC .i64 (L.map (initV []))⟩]) h4.length (some ⟨true, 0, [y, .sl (h4.length + 1) L.length 0 L.length, .nils]⟩)) h4.length = some ⟨true, 0, [y, .sl (h4.length + 1) L.length 0 L.length, .nils]⟩ := blk_set_self (by simp) _
  have oN : Own (h4.length + 1) (setBlk ((h4 ++ [some (Blk.mk true 0 [y, .nils, .nils])]) ++ [some ⟨true, 1, intC .i64 (L.map (initV []))⟩]) h4.length (some ⟨true, 0, [y, .sl (h4.length + 1) L.length 0 L.length, .nils]⟩)) (.sl (h4.length + 1) L.length 0 L.length) 1 (intC .i64 (L.map (initV []))) L.length := by
    have hil : (intC .i64 (L.map (initV []))).length = L.length := by rw [intC_len, List.length_map]
    refine ⟨by rw [hil]; omega, .inr ⟨h4.length + 1, by rw [hil], Nat.le_refl _, ?_⟩⟩
    rw [blk_set_ne (by omega), ← n8]; exact blk_new _ _
  have kN : Kp h4.length h4 (setBlk ((h4 ++ [some (Blk.mk true 0 [y, .nils, .nils])]) ++ [some ⟨true, 1, intC .i64 (L.map (initV []))⟩]) h4.length (some ⟨true, 0, [y, .sl (h4.length + 1) L.length 0 L.length, .nils]⟩)) := (k8.trans (Kp.app _ (by rw [n8]; omega))).trans (Kp.set (Nat.le_refl _) _)
  have nN : (setBlk ((h4 ++ [some (Blk.mk true 0 [y, .nils, .nils])]) ++ [some ⟨true, 1, intC .i64 (L.map (initV []))⟩]) h4.length (some ⟨true, 0, [y, .sl (h4.length + 1) L.length 0 L.length, .nils]⟩)).length = h4.length + 2 := by rw [setBlk_len]; simp
  generalize setBlk ((h4 ++ [some (Blk.mk true 0 [y, .nils, .nils])]) ++ [some ⟨true, 1, intC .i64 (L.map (initV []))⟩]) h4.length (some ⟨true, 0, [y, .sl (h4.length + 1) L.length 0 L.length, .nils]⟩) = H at *
  generalize hini : Cell.sl (h4.length + 1) L.length 0 L.length = ini at *
  -- the values at the beginning
  have hnl := hs.inits
  obtain ⟨st, ⟨H1, rfl, b1, o1, k1⟩, hL1⟩ := Lim_inv (F := prog_Compile_F1 (R E) Lim E.glob) (fun i st => ∃ H', st = prog_Compile_s1 h4.length 3 0 (.fn 118 [(h4.length, 3, 0)]) a T.inits.length (i : Int) cs [.nils, .nils, .nils] H' ∧ blk? H' h4.length = some ⟨true, 0, [y, ini, .nils]⟩ ∧ Own (h4.length + 1) H' ini 1 (intC .i64 (L.map (initV (T.inits.take i)))) L.length ∧ Kp h4.length H H') 0 T.inits.length (by omega)
    (fun i st _ hi => by
      rintro ⟨H', rfl, bb, oo, kk⟩
      have hq : T.inits[i]? = some T.inits[i] := List.getElem?_eq_getElem hi
      generalize T.inits[i] = q at hq
      have hqm := List.mem_of_getElem? hq
      have hql := locB_iff.1 (okT_locs hok q hqm)
      have k4 : Kp h4.length h4 H' := kN.trans kk
      obtain ⟨off, cc, g1, g2, g3⟩ := ((ha.keep hal kl).keep (Low_mono hK hal) k4).pairG hq
      have hpl := place_R hE.c118 bb (ol.at.keep ol.low k4) (by omega) hql
      obtain ⟨j, hj1, hj2⟩ := plc_get L 0 (by rw [← hL]; exact mem_locs_init hok hqm)
      rw [Nat.zero_add] at hj1
      rw [hj1] at hpl
      obtain ⟨k, s1, s2, s3, s4, s5⟩ := oo.setG1 (getI_lt hj2) (.int .i64 q.2)
      rw [intC_set, init_set hpw _ _ hj2, ← takeI_succ hq] at s5
      refine ⟨_, ?_, _, rfl, ?_, s5, kk.trans (Kp.set (by omega) _)⟩
      · have hfn : ∀ {α : Type} (F : AV → AHeap → Option α), (fnK (.fn 118 [(h4.length, 3, 0)]) fun g cs => c1 (qh H' (R E g ([.c (.int .i64 q.1)] ++ cs) H')) F) = F (.c (.int .i64 (j : Int))) H' := fun F => by
          show c1 (qh H' (R E 118 ([.c (.int .i64 q.1)] ++ [.c (.ptr h4.length 3 0)]) H')) F = _
          rw [hpl, qh_ok, c1_ok]
        rw [prog_Compile_r1, if_pos (by simp; omega), g1, if_pos g2, g3, if_pos ⟨rfl, rfl, rfl⟩, rd3 bb, atK_ok (i := 0 + 1) (c := ini) rfl, show ∀ {α : Type} (f : Cell → Option α), atK (pairCs q) 0 f = f (.int .i64 q.1) from fun _ => rfl, asI_ok, hfn, asI_ok, show ∀ {α : Type} (f : Cell → Option α), atK (pairCs q) 1 f = f (.int .i64 q.2) from fun _ => rfl, asI_ok, s4, g_succ (by omega), intC_set, init_set hpw _ _ hj2, ← takeI_succ hq]
      · rw [intC_set, init_set hpw _ _ hj2, ← takeI_succ hq, blk_set_ne (by omega)] at *
        exact bb) (st := prog_Compile_s1 h4.length 3 0 (.fn 118 [(h4.length, 3, 0)]) a T.inits.length ((0 : Nat) : Int) cs [.nils, .nils, .nils] H) ⟨H, rfl, bN, by rw [List.take_zero]; exact oN, Kp.refl _ _⟩
  have e1 : prog_Compile_F1 (R E) Lim E.glob (prog_Compile_s1 h4.length 3 0 (.fn 118 [(h4.length, 3, 0)]) a T.inits.length (T.inits.length : Int) cs [.nils, .nils, .nils] H1) = some (.exit 0, prog_Compile_x1_1 h4.length 3 0 (.fn 118 [(h4.length, 3, 0)]) cs [.nils, .nils, .nils] H1) := by
    rw [prog_Compile_r1, if_neg (by simp)]
  have hr1 := hL1 _ (Lim_exit e1)
  rw [show ((0 : Nat) : Int) = 0 from rfl] at hr1
  rw [List.take_of_length_le (Nat.le_refl _)] at o1
  have k41 : Kp h4.length h4 H1 := kN.trans k1
  have hKlt : h4.length < H1.length := blk_lt' b1
  have nH1 : h4.length + 2 ≤ H1.length := by have := k1.1; omega
  have y1 := ol.at.keep ol.low k41
  have low1 := ol.low
  have kh1 : Kp h.length h H1 := kl.trans (k41.mono hK)
  -- one thread's instructions
  have inner : ∀ (t : Nat) (code : List Ins) (x' th : Cell) (H' H'' : AHeap), code ∈ T.thr → KpX h4.length H1.length H1 H' → blk? H' h4.length = some ⟨true, 0, [y, ini, th]⟩ → Own H'.length H'' x' 9 (codeC code) code.length → Kp H'.length H' H'' →
      ∃ G, Lim (prog_Compile_F2 (R E) Lim E.glob) (prog_Compile_s2 h4.length 3 0 (.fn 118 [(h4.length, 3, 0)]) x' b T.thr.length (t : Int) x' code.length ((0 : Nat) : Int) [.nils, .nils, .nils] H'') = some (.exit 4, prog_Compile_x2_5 h4.length 3 0 (.fn 118 [(h4.length, 3, 0)]) x' b T.thr.length (t : Int) [.nils, .nils, .nils] G) ∧
        Own H'.length G x' 9 (codeC (code.map (compI L))) code.length ∧ Kp H'.length H' G := by
    intro t code x' th H' H'' hm kx bb ox kc
    have hcl := hs.code code hm
    have hKH : h4.length < H'.length := blk_lt' bb
    obtain ⟨st, ⟨G, rfl, og, kg⟩, hLm⟩ := Lim_inv (F := prog_Compile_F2 (R E) Lim E.glob) (fun i st => ∃ G, st = prog_Compile_s2 h4.length 3 0 (.fn 118 [(h4.length, 3, 0)]) x' b T.thr.length (t : Int) x' code.length (i : Int) [.nils, .nils, .nils] G ∧ Own H'.length G x' 9 (codeC (mixL (compI L) code i)) code.length ∧ Kp H'.length H' G) 0 code.length (by omega)
      (fun i st _ hi => by
        rintro ⟨G, rfl, og, kg⟩
        have hq : code[i]? = some code[i] := List.getElem?_eq_getElem hi
        generalize code[i] = q at hq
        have hqf := okT_ins hok hm (List.mem_of_getElem? hq)
        have og' := og.at
        rw [← mixL_len (compI L) code i] at og'
        obtain ⟨off, cc, g1, g2, g3⟩ := og'.insG (mixL_get (compI L) hq)
        rcases fldB_loc hqf with ⟨hkd, hloc⟩ | ⟨hkd, hloc⟩
        · have bG : blk? G h4.length = some ⟨true, 0, [y, ini, th]⟩ := by rw [kg.blk hKH]; exact bb
          have hyG := (y1.keep low1 (kx.kp (Nat.le_of_lt hKlt) (Nat.le_refl _))).keep low1 (kg.mono (Nat.le_of_lt hKH))
          have hpl := place_R hE.c118 bG hyG (by omega) hloc
          have hcq : compI L q = { q with loc := plc L q.loc 0 } := by unfold compI; rw [if_pos (by omega)]
          obtain ⟨k, s1, s2, s3, s4, s5⟩ := og.setG (j := 2) hi (by omega) (.int .i64 (plc L q.loc 0))
          rw [codeC_set _ _ _ _ (mixL_get (compI L) hq), ← hcq, mixL_set _ hq] at s5
          refine ⟨_, ?_, _, rfl, s5, kg.trans (Kp.set s1 _)⟩
          have hfn : ∀ {α : Type} (F : AV → AHeap → Option α), (fnK (.fn 118 [(h4.length, 3, 0)]) fun g cs => c1 (R E g ([.c (.int .i64 q.loc)] ++ cs) G) F) = F (.c (.int .i64 (plc L q.loc 0))) G := fun F => by
            show c1 (R E 118 ([.c (.int .i64 q.loc)] ++ [.c (.ptr h4.length 3 0)]) G) F = _
            rw [hpl, c1_ok]
          have hkb : ((q.kind == 1 || q.kind == 2) || q.kind == 4) = true := by
            rcases hkd with h | h | h <;> simp [h]
          rw [prog_Compile_r2, if_pos (by simp; omega), g1, if_pos g2, g3, if_pos ⟨rfl, rfl, rfl⟩, ins_kind, asI_ok, ins_kind, asI_ok, scK_or, ins_kind, asI_ok, scK_or, hkb, if_pos rfl, ins_loc, asI_ok, hfn, asI_ok, s4, g_succ (by omega), codeC_set _ _ _ _ (mixL_get (compI L) hq), ← hcq, mixL_set _ hq]
        · have hcq : compI L q = q := by unfold compI; rw [if_neg (by omega)]
          have hkb : ((q.kind == 1 || q.kind == 2) || q.kind == 4) = false := by
            rw [Bool.or_eq_false_iff, Bool.or_eq_false_iff]
            simp only [beq_eq_false_iff_ne]
            omega
          refine ⟨_, ?_, G, rfl, by rw [← mixL_same _ hq hcq]; exact og, kg⟩
          rw [prog_Compile_r2, if_pos (by simp; omega), g1, if_pos g2, g3, if_pos ⟨rfl, rfl, rfl⟩, ins_kind, asI_ok, ins_kind, asI_ok, scK_or, ins_kind, asI_ok, scK_or, hkb, if_neg (by simp), g_succ (by omega)]) (st := prog_Compile_s2 h4.length 3 0 (.fn 118 [(h4.length, 3, 0)]) x' b T.thr.length (t : Int) x' code.length ((0 : Nat) : Int) [.nils, .nils, .nils] H'') ⟨H'', rfl, by rw [mixL_zero]; exact ox, kc⟩
    rw [mixL_all] at og
    refine ⟨G, hLm _ (Lim_exit ?_), og, kg⟩
    rw [prog_Compile_r2, if_neg (by simp)]
  have hthl := hs.thr
  obtain ⟨st3, ⟨th, H3, rfl, b3, r3, k3⟩, hL3⟩ := Lim_inv (F := prog_Compile_F3 (R E) Lim E.glob) (fun t st => ∃ th H', st = prog_Compile_s3 h4.length 3 0 (.fn 118 [(h4.length, 3, 0)]) b T.thr.length (t : Int) [.nils, .nils, .nils] H' ∧ blk? H' h4.length = some ⟨true, 0, [y, ini, th]⟩ ∧ RowsOwn 9 codeC H1.length H' th ((T.thr.map fun c => c.map (compI L)).take t) ∧ KpX h4.length H1.length H1 H') 0 T.thr.length (by omega)
    (fun t st _ ht => by
      rintro ⟨th, H', rfl, bb, rr, kx⟩
      have hq : T.thr[t]? = some T.thr[t] := List.getElem?_eq_getElem ht
      generalize T.thr[t] = code at hq
      have hm := List.mem_of_getElem? hq
      have hcl := hs.code code hm
      obtain ⟨x, x1, x2, x3⟩ := t3 t code hq
      have kh' : Kp h.length h H' := kh1.trans (kx.kp (by have := kh1.1; exact this) hK)
      obtain ⟨x', H'', c1', c2', c3'⟩ := Clone_R hE.c119 (x2.keep x3 kh') (Low_mono kh'.1 x3) hcl
      obtain ⟨G, f1, f2, f3⟩ := inner t code x' th H' H'' hm kx bb c2' c3'
      have hKH : h4.length < H'.length := blk_lt' bb
      have bG : blk? G h4.length = some ⟨true, 0, [y, ini, th]⟩ := by rw [f3.blk hKH]; exact bb
      have rG := rr.keep f3
      have hcl2 : (code.map (compI L)).length = code.length := List.length_map _
      have f2' := f2
      rw [← hcl2] at f2'
      obtain ⟨th2, G2, ap, r2, k2, fr⟩ := rG.push (f2'.monoN kx.1) (fun k h1 h2 => by have := (f2'.blkLt h1).2; have := (rr.blkLt h2).1; omega) (Nat.le_trans kx.1 f3.1) (by rw [List.length_take]; omega)
      have bG2 : blk? G2 h4.length = some ⟨true, 0, [y, ini, th]⟩ := by rw [k2.blk hKlt]; exact bG
      have hsn : (T.thr.map fun c => c.map (compI L))[t]? = some (code.map (compI L)) := by rw [List.getElem?_map, hq]; rfl
      refine ⟨_, ?_, th2, setBlk G2 h4.length (some ⟨true, 0, [y, ini, th2]⟩), rfl, blk_set_self (blk_lt' bG2) _, ?_, ?_⟩
      · rw [prog_Compile_r3, if_pos (by simp; omega), (t1.keep t2 kh').get1 ht x1, c1', c1_ok, asC_ok, c2'.at.len]
        rw [show (0 : Int) = ((0 : Nat) : Int) from rfl, f1, bind_ok, prog_Compile_e2_5, rd3 bG, atK_ok (i := 0 + 2) (c := th) rfl, if_pos (show (splice [Cell.nils] 0 ([x'] : List Cell)).length = 1 * 1 from rfl), show splice [Cell.nils] 0 ([x'] : List Cell) = [x'] from rfl, ap, rd3 bG2, if_pos (show 0 + 2 < ([y, ini, th] : List Cell).length by simp), putH_ok bG2 rfl, g_succ (by omega)]
        rfl
      · rw [takeI_succ hsn]
        exact r2.keepX hKlt (KpX.set _ _ _ _)
      · exact kx.trans (((f3.mono kx.1).x.trans k2.x).trans (KpX.set _ _ _ _))) (st := prog_Compile_s3 h4.length 3 0 (.fn 118 [(h4.length, 3, 0)]) b T.thr.length ((0 : Nat) : Int) [.nils, .nils, .nils] H1) ⟨.nils, H1, rfl, b1, by rw [List.take_zero]; exact RowsOwn.nil _, KpX.refl _ _ _⟩
  have e3 : prog_Compile_F3 (R E) Lim E.glob (prog_Compile_s3 h4.length 3 0 (.fn 118 [(h4.length, 3, 0)]) b T.thr.length (T.thr.length : Int) [.nils, .nils, .nils] H3) = some (.exit 2, prog_Compile_x3_3 h4.length 3 0 [.nils, .nils, .nils] H3) := by
    rw [prog_Compile_r3, if_neg (by simp)]
  have hr3 := hL3 _ (Lim_exit e3)
  rw [show ((0 : Nat) : Int) = 0 from rfl] at hr3
  rw [List.take_of_length_le (by rw [List.length_map]; exact Nat.le_refl _)] at r3
  have hkf : Kp h4.length H1 H3 := k3.kp (Nat.le_of_lt hKlt) (Nat.le_refl _)
  obtain ⟨us, u1, u2, u3⟩ := r3.of
  have hthr : (compT T).thr = T.thr.map fun c => c.map (compI L) := by rw [← hL]; rfl
  refine ⟨[y, ini, th], H3, R_intro hE.fn ?_, ⟨y, ini, th, us, rfl, ⟨?_, Low_mono (Nat.le_trans k41.1 hkf.1) low1⟩, ⟨?_, ?_⟩, ⟨by rw [hthr]; exact u1, u2⟩, by rw [hthr]; exact u3⟩, kh1.trans (hkf.mono hK)⟩
  · rw [hrun, hr1, bind_ok, prog_Compile_e1_1, a2, t1.len, hr3, bind_ok, prog_Compile_e3_3, rd3 b3, if_pos ⟨rfl, rfl⟩, if_pos ⟨rfl, rfl, rfl⟩, if_pos ⟨rfl, rfl⟩]
  · rw [show (compT T).locs = L from hL]; exact y1.keep low1 hkf
  · have ho := (o1.keepX (Nat.lt_succ_self _) k3).at
    have e : (compT T).init = L.map (initV T.inits) := by show (locsT T).map _ = _; rw [hL]
    rw [e, List.length_map]; exact ho
  · exact (o1.keepX (Nat.lt_succ_self _) k3).low

end
end Jq

/- Is a test one that may be, as the document says? -/
namespace Jq
open Go

theorem dec_iff {p : Prop} [Decidable p] {b : Bool} (h : p ↔ b = true) : decide p = b := by
  rw [Bool.eq_iff_iff, decide_eq_true_eq]; exact h

theorem cs1 (i : Ins) : decide (i.cs = (⟨i.kind, 0, i.loc, i.a, 0, ⟨0, 0⟩, 0⟩ : Ins).cs) = (((i.reg == 0 && i.op == 0) && decide (i.b.cs = [Cell.int .i64 0, Cell.int .i64 0])) && i.n == 0) := by
  refine dec_iff ?_
  simp [Ins.cs, Opd.cs, and_assoc]
theorem cs2 (i : Ins) : decide (i.cs = (⟨i.kind, i.reg, i.loc, ⟨0, 0⟩, 0, ⟨0, 0⟩, 0⟩ : Ins).cs) = (((decide (i.a.cs = [Cell.int .i64 0, Cell.int .i64 0]) && i.op == 0) && decide (i.b.cs = [Cell.int .i64 0, Cell.int .i64 0])) && i.n == 0) := by
  refine dec_iff ?_
  simp [Ins.cs, Opd.cs, and_assoc]
theorem cs4 (i : Ins) : decide (i.cs = (⟨i.kind, i.reg, i.loc, i.a, 0, i.b, 0⟩ : Ins).cs) = (i.op == 0 && i.n == 0) := by
  refine dec_iff ?_
  simp [Ins.cs]
theorem cs5 (i : Ins) : decide (i.cs = (⟨i.kind, i.reg, 0, i.a, i.op, i.b, 0⟩ : Ins).cs) = (i.loc == 0 && i.n == 0) := by
  refine dec_iff ?_
  simp [Ins.cs]
theorem cs6 (i : Ins) : decide (i.cs = (⟨i.kind, 0, 0, i.a, 0, i.b, i.n⟩ : Ins).cs) = ((i.reg == 0 && i.loc == 0) && i.op == 0) := by
  refine dec_iff ?_
  simp [Ins.cs, and_assoc]

theorem regB_le (n : Int) : regB n = (decide (n ≥ 0) && decide (n ≤ 3)) := by
  unfold regB; rw [Bool.eq_iff_iff]; simp; omega

section
variable {E : Env}

theorem named_R (hE : jacquardref2_named_In E) (n : Int) (h : AHeap) : R E 137 [.c (.int .i64 n)] h = some ([.c (.bool (locB n))], h) := by
  refine R_intro hE.fn ?_
  rw [jacquardref2_named_eq, scK_and]; rfl

theorem operandOk_R (hE : jacquardref2_operandOk_In E) (o : Opd) (h : AHeap) : R E 153 [.agg o.cs] h = some ([.c (.bool (opB o))], h) := by
  refine R_intro hE.fn ?_
  have a0 : ∀ {α : Type} (f : Cell → Option α), atK o.cs 0 f = f (.int .i64 o.reg) := fun _ => rfl
  have a1 : ∀ {α : Type} (f : Cell → Option α), atK o.cs 1 f = f (.int .i64 o.val) := fun _ => rfl
  rw [jacquardref2_operandOk_eq]
  simp only [a0, a1, asI_ok, scK_and, scK_or]
  unfold opB
  rw [regB_le]

theorem and_perm1 (a b c d e f : Bool) : (((((a && b) && c) && d) && e) && f) = ((b && c) && (((a && d) && e) && f)) := by
  cases a <;> cases b <;> cases c <;> cases d <;> cases e <;> rfl
theorem and_perm2 (r b c d e f : Bool) : (((((r && b) && c) && d) && e) && f) = ((b && r) && (((c && d) && e) && f)) := by
  cases r <;> cases b <;> cases c <;> cases d <;> cases e <;> rfl
theorem and_perm4 (r b c d e f : Bool) : (((((r && b) && c) && d) && e) && f) = ((((b && r) && c) && e) && (d && f)) := by
  cases r <;> cases b <;> cases c <;> cases d <;> cases e <;> rfl
theorem and_perm5 (r l a p q b n x : Bool) (hx : x = true) : (((((((r && l) && a) && p) && q) && b) && n)) = ((((((r && a) && b) && p) && q) && x) && (l && n)) := by
  subst hx
  cases r <;> cases l <;> cases a <;> cases p <;> cases q <;> cases b <;> rfl
theorem and_perm6 (r l a o b n : Bool) : (((((r && l) && a) && o) && b) && n) = (((n && a) && b) && ((r && l) && o)) := by
  cases r <;> cases l <;> cases a <;> cases o <;> cases b <;> cases n <;> rfl

theorem InsOk_R (hE : jacquardref2_InsOk_In E) (i : Ins) (h : AHeap) : R E 138 [.agg i.cs] h = some ([.c (.bool (fldB locB i))], h) := by
  refine R_intro hE.fn ?_
  have f3 : 3 + 2 ≤ (9 : Nat) := by decide
  have f6 : 6 + 2 ≤ (9 : Nat) := by decide
  have z1 : alike i.b.cs [Cell.int .i64 0, Cell.int .i64 0] = true := rfl
  have z2 : alike i.a.cs [Cell.int .i64 0, Cell.int .i64 0] = true := rfl
  have z3 : alike [Cell.int .i64 0, Cell.int .i64 0] [Cell.int .i64 0, Cell.int .i64 0] = true := rfl
  have z4 : [Cell.int .i64 0, Cell.int .i64 0].length = 2 := rfl
  have z5 : splice [Cell.int .i64 0, Cell.int .i64 0] 0 ([(.int .i64 (-1))] : List Cell) = [Cell.int .i64 (-1), Cell.int .i64 0] := rfl
  have z6 : alike [Cell.int .i64 (-1), Cell.int .i64 0] [Cell.int .i64 0, Cell.int .i64 0] = true := rfl
  rw [jacquardref2_InsOk_eq, if_pos ⟨rfl, rfl, rfl⟩, ins_kind, asI_ok]
  by_cases h1 : i.kind = 1
  · rw [if_pos (by simpa using h1)]
    simp only [ins_reg, ins_loc, ins_op, ins_n, ins_a, ins_b, asI_ok, named_R hE.c137, operandOk_R hE.c153, c1_ok, asB_ok, Ins.len, f3, f6, z1, z3, z4, and_self, if_true, scK_and]
    rw [fldB, if_pos h1, cs1, and_perm1]
    rfl
  rw [if_neg (by simpa using h1)]
  by_cases h2 : i.kind = 2
  · rw [if_pos (by simpa using h2)]
    simp only [ins_reg, ins_loc, ins_op, ins_n, ins_a, ins_b, asI_ok, named_R hE.c137, operandOk_R hE.c153, c1_ok, asB_ok, Ins.len, f3, f6, z1, z2, z3, z4, and_self, if_true, scK_and]
    rw [fldB, if_neg h1, if_pos h2, cs2, regB_le, and_perm2]
    rfl
  rw [if_neg (by simpa using h2)]
  by_cases h3 : i.kind = 3
  · rw [if_pos (by simpa using h3), if_pos ⟨rfl, rfl⟩, if_pos ⟨rfl, rfl⟩, fldB, if_neg h1, if_neg h2, if_pos h3, h3]
    rfl
  rw [if_neg (by simpa using h3)]
  by_cases h4 : i.kind = 4
  · rw [if_pos (by simpa using h4)]
    simp only [ins_reg, ins_loc, ins_op, ins_n, ins_a, ins_b, asI_ok, named_R hE.c137, operandOk_R hE.c153, c1_ok, asB_ok, Ins.len, f3, f6, if_true, scK_and]
    rw [fldB, if_neg h1, if_neg h2, if_neg h3, if_pos h4, cs4, regB_le, and_perm4]
  rw [if_neg (by simpa using h4)]
  by_cases h5 : i.kind = 5
  · rw [if_pos (by simpa using h5)]
    simp only [ins_reg, ins_loc, ins_op, ins_n, ins_a, ins_b, asI_ok, named_R hE.c137, operandOk_R hE.c153, c1_ok, asB_ok, Ins.len, f3, f6, z1, z5, z6, and_self, if_true, scK_and]
    have hb : decide (i.b.cs = (⟨-1, 0⟩ : Opd).cs) = decide (i.b.cs = [Cell.int .i64 (-1), Cell.int .i64 0]) := rfl
    rw [fldB, if_neg h1, if_neg h2, if_neg h3, if_neg h4, if_pos h5, cs5, regB_le, hb]
    by_cases hz : i.op = 0
    · by_cases hbz : i.b.cs = [Cell.int .i64 (-1), Cell.int .i64 0]
      · rw [if_neg (by simp [hbz]), and_perm5 _ _ _ _ _ _ _ _ (show (decide (i.op > 0) || decide (i.b.cs = [Cell.int .i64 (-1), Cell.int .i64 0])) = true by simp [hbz])]
      · rw [if_pos (by simp [hz, hbz])]
        have : (decide (i.op > 0) || decide (i.b.cs = [Cell.int .i64 (-1), Cell.int .i64 0])) = false := by simp [hz, hbz]
        rw [this, Bool.and_false, Bool.false_and]
    · rw [if_neg (by simp [hz])]
      by_cases hp : i.op > 0
      · rw [and_perm5 _ _ _ _ _ _ _ _ (show (decide (i.op > 0) || decide (i.b.cs = [Cell.int .i64 (-1), Cell.int .i64 0])) = true by simp [hp])]
      · have : decide (i.op ≥ 0) = false := decide_eq_false (by omega)
        rw [this]; simp
  rw [if_neg (by simpa using h5)]
  by_cases h6 : i.kind = 6
  · rw [if_pos (by simpa using h6)]
    simp only [ins_reg, ins_loc, ins_op, ins_n, ins_a, ins_b, asI_ok, named_R hE.c137, operandOk_R hE.c153, c1_ok, asB_ok, Ins.len, f3, f6, if_true, scK_and]
    rw [fldB, if_neg h1, if_neg h2, if_neg h3, if_neg h4, if_neg h5, if_pos h6, cs6, and_perm6]
  rw [if_neg (by simpa using h6), fldB, if_neg h1, if_neg h2, if_neg h3, if_neg h4, if_neg h5, if_neg h6]

end
end Jq

