/- YtnjjcoobhpldcaaDoorVmCopiesD: a part of the proof; no conditions of its own. -/
import Derived.KernelRfl
import Derived.Test.YtnjjcoobhpldcaaDoorRows
import Derived.WalkKit
import Derived.ProofKit
import Derived.OpenShut
import Derived.ShutString
import Derived.ChangeOld
import Derived.Below
import Derived.Carry
import Derived.Test.YtnjjcoobhpldcaaDoorCards
import Derived.Test.YtnjjcoobhpldcaaDoorTie
import Derived.SevenTiedAt
import Derived.LaidMore
import Derived.Stop.Joined
import Derived.Lib.LaidTab
import Derived.MakeChecks
import Derived.LaidHandle
import Derived.Stop.LaidErr
import Derived.Test.YtnjjcoobhpldcaaDoorVmCopiesC
set_option linter.unusedVariables false
set_option linter.unusedSimpArgs false

namespace Jq
open Go
theorem getDset {α : Type} {l : List α} {i : Nat} (hi : i < l.length) (y d : α) (j : Nat) : (l.set i y).getD j d = if j = i then y else l.getD j d := by
  rw [List.getD_eq_getElem?_getD, List.getD_eq_getElem?_getD, List.getElem?_set]
  by_cases h : i = j
  · subst h; rw [if_pos rfl, if_pos hi, if_pos rfl]; rfl
  · rw [if_neg h, if_neg (fun e => h e.symm)]
theorem startL_pc (P : PProg) (t : Int) : 0 ≤ (startL P t).pc := by
  unfold startL normL
  exact nrm_pc (code := P.code t) _ Lcl.zero
theorem MV.new_inv {P : PProg} {m : Int} (hm : 1 ≤ m ∧ m ≤ 3) (hs : P.small) (hf : ∀ c ∈ P.thr, ∀ i ∈ c, fldB (hasB P) i = true) (hl : P.locs.length ≤ 4) (hi : P.init.length ≤ 4) (hc : ∀ c ∈ P.thr, c.length ≤ 10) : (MV.new P m).Inv := by
  refine ⟨MV.new_fit hm hi, hs, hf, hl, hc, fun b hb e he => ?_, fun t ht => ?_⟩
  · simp [MV.new] at hb; subst hb; simp at he
  · match t with
    | 0 => exact startL_pc P 0
    | 1 => exact startL_pc P 1
    | 2 => exact startL_pc P 2
    | 3 => exact startL_pc P 3
    | t + 4 => omega
theorem MV.wr_lc (V : MV) (t : Nat) (e : Evt) : (V.wr t e).lc = V.lc ∧ (V.wr t e).P = V.P ∧ (V.wr t e).m = V.m := by
  unfold MV.wr; split <;> (try split) <;> exact ⟨rfl, rfl, rfl⟩
theorem MV.wr_bf (V : MV) (t : Nat) (e : Evt) : (V.wr t e).bf = if e.kind = 2 ∧ V.m ≠ 1 then V.bf.set t (V.b t ++ [⟨e.loc, e.w, V.st.length⟩]) else V.bf := by
  unfold MV.wr; split
  · rfl
  · split <;> rfl
theorem MV.rows_of {W : MV} (h4 : W.bf.length = 4) {p : List Ent → Prop} (h : ∀ t, t < 4 → p (W.b t)) : ∀ b ∈ W.bf, p b := by
  intro b hb
  obtain ⟨t, ht, rfl⟩ := List.mem_iff_getElem.1 hb
  have := h t (by omega)
  unfold MV.b at this
  rw [List.getD_eq_getElem?_getD, List.getElem?_eq_getElem ht] at this
  exact this
theorem MV.may_thr {V : MV} {i : Nat} (hi : i < 4) (h : V.may i = true) : V.nxt i = some (V.thrI i) := by
  unfold MV.may at h
  rw [if_pos hi] at h
  unfold MV.mayT at h
  unfold MV.thrI
  cases hq : V.nxt i with
  | none => rw [hq] at h; cases h
  | some q => rfl
section nx
variable {V : MV} (v : V.Inv)
include v
theorem MV.Inv.thrL {i : Nat} (hi : i < 4) (q : Ins) (t : Nat) : (V.thrM i q).l t = if t = i then afterL (V.P.code i) (V.l i) (V.val i q).1 else V.l t := by
  show (V.lc.set i _).getD t Lcl.zero = _
  rw [getDset (by rw [v.fit.lc]; exact hi)]
  rfl
theorem MV.Inv.thrB {i : Nat} (hi : i < 4) (q : Ins) (t : Nat) : (V.thrM i q).b t = if t = i ∧ (evOf q (V.l i) (V.val i q).1).kind = 2 ∧ V.m ≠ 1 then V.b i ++ [⟨(evOf q (V.l i) (V.val i q).1).loc, (evOf q (V.l i) (V.val i q).1).w, V.st.length⟩] else V.b t := by
  show (V.wr i _).bf.getD t [] = _
  rw [V.wr_bf]
  split
  · rename_i h
    rw [getDset (by rw [v.fit.bf]; exact hi)]
    by_cases ht : t = i
    · rw [if_pos ht, if_pos ⟨ht, h⟩]
    · rw [if_neg ht, if_neg (fun q => ht q.1)]; rfl
  · rename_i h
    rw [if_neg (fun q => h q.2)]; rfl
theorem MV.Inv.fluB {i : Nat} (hi : i < 4) (loc : Int) (t : Nat) : (V.fluM i loc).b t = if t = i then (V.b i).eraseP (oldP (bmod V.m) loc) else V.b t := by
  show (V.bf.set i _).getD t [] = _
  rw [getDset (by rw [v.fit.bf]; exact hi)]
  rfl
theorem MV.Inv.mem_b {t : Nat} {e : Ent} (he : e ∈ V.b t) : 0 ≤ e.loc ∧ e.loc < 4 := by
  by_cases ht : t < V.bf.length
  · exact v.ents _ (List.mem_of_getElem? (MV.b_at ht)) e he
  · unfold MV.b at he
    rw [List.getD_eq_getElem?_getD, List.getElem?_eq_none (by omega)] at he
    simp at he
theorem MV.Inv.thr {i : Nat} (hi : i < 4) {q : Ins} (hq : V.nxt i = some q) : (V.thrM i q).Inv := by
  obtain ⟨q1, q2, q3, q4, q5⟩ := v.nxt hq
  have hb := v.thrB hi q
  have hl := v.thrL hi q
  have hpc : (V.l i).pc + 1 ≤ (afterL (V.P.code i) (V.l i) (V.val i q).1).pc := afterL_pc hq _
  have hev := evOf_loc (l := V.l i) (v := (V.val i q).1) q1
  obtain ⟨w1, w2, w3⟩ := V.wr_lc i (evOf q (V.l i) (V.val i q).1)
  have f := v.fit
  have e0 : (V.thrM i q).bf.length = 4 := by
    show (V.wr i _).bf.length = 4
    rw [V.wr_bf]; split
    · rw [List.length_set]; exact f.bf
    · exact f.bf
  have blen : ∀ t, t < 4 → ((V.thrM i q).b t).length ≤ 24 := fun t ht => by
    rw [hb]
    split
    · have := v.pcs i hi
      rw [List.length_append, List.length_singleton]; omega
    · exact v.blen ht
  have hmm : (V.thrM i q).m = V.m := w3
  have hPP : (V.thrM i q).P = V.P := w2
  refine ⟨⟨by rw [hmm]; exact f.m, by show (V.lc.set _ _).length = 4; rw [List.length_set]; exact f.lc, ?_, ?_, e0, MV.rows_of e0 blen⟩, by rw [hPP]; exact v.small, by rw [hPP]; exact v.fld, by rw [hPP]; exact v.locs, by rw [hPP]; exact v.c10, MV.rows_of e0 fun t ht e he => ?_, fun t ht => ?_⟩
  · show (V.wr i _).mem.length = 4
    unfold MV.wr; split
    · exact f.mem
    · split
      · rw [List.length_set]; exact f.mem
      · exact f.mem
  · show (V.wr i _).frm.length = 4
    unfold MV.wr; split
    · exact f.frm
    · split
      · rw [List.length_set]; exact f.frm
      · exact f.frm
  · rw [hb] at he
    split at he
    · rcases List.mem_append.1 he with he | he
      · exact v.mem_b he
      · rw [List.mem_singleton] at he; subst he; exact hev
    · exact v.mem_b he
  · rw [hb, hl]
    by_cases h : t = i
    · subst h
      rw [if_pos rfl]
      have := v.pcs t ht
      split
      · rw [List.length_append, List.length_singleton]; omega
      · omega
    · rw [if_neg h, if_neg (fun q => h q.1)]
      exact v.pcs t ht
theorem MV.Inv.flu {i : Nat} (hi : i < 4) (loc : Int) : (V.fluM i loc).Inv := by
  have hb := v.fluB hi loc
  have f := v.fit
  have e0 : (V.fluM i loc).bf.length = 4 := by show (V.bf.set _ _).length = 4; rw [List.length_set]; exact f.bf
  refine ⟨⟨f.m, f.lc, by show (V.mem.set _ _).length = 4; rw [List.length_set]; exact f.mem, by show (V.frm.set _ _).length = 4; rw [List.length_set]; exact f.frm, e0, MV.rows_of e0 fun t ht => ?_⟩, v.small, v.fld, v.locs, v.c10, MV.rows_of e0 fun t ht e he => ?_, fun t ht => ?_⟩
  · rw [hb]; split
    · exact Nat.le_trans List.length_eraseP_le (v.blen hi)
    · exact v.blen ht
  · rw [hb] at he
    split at he
    · exact v.mem_b (List.mem_of_mem_eraseP he)
    · exact v.mem_b he
  · rw [hb]
    show _ ≤ (V.l t).pc
    split
    · rename_i h
      subst h
      have := v.pcs t ht
      have h2 := List.length_eraseP_le (p := oldP (bmod V.m) loc) (l := V.b t)
      omega
    · exact v.pcs t ht
theorem MV.Inv.st {s : List Stp} : MV.Inv { V with st := s } := ⟨⟨v.fit.m, v.fit.lc, v.fit.mem, v.fit.frm, v.fit.bf, v.fit.b⟩, v.small, v.fld, v.locs, v.c10, v.ents, v.pcs⟩
theorem MV.Inv.nx {i : Nat} (h : V.may i = true) : (V.nx i).Inv := by
  have hi := MV.may_lt h
  unfold MV.nx
  split
  · rename_i h4
    exact (v.thr h4 (MV.may_thr h4 h)).st
  · split
    · exact (v.flu (by omega) _).st
    · exact (v.flu (by omega) _).st
end nx
theorem MV.nx_st (V : MV) (i : Nat) : (V.nx i).st = V.st ++ [V.stp i] := rfl
theorem MV.nx_P (V : MV) (i : Nat) : (V.nx i).P = V.P ∧ (V.nx i).m = V.m := by
  unfold MV.nx
  split
  · exact ⟨(V.wr_lc _ _).2.1, (V.wr_lc _ _).2.2⟩
  · split <;> exact ⟨rfl, rfl⟩
end Jq

namespace Jq
open Go
theorem SlAt.cellsG {h : AHeap} {x : Cell} {esz : Nat} {cs : List Cell} {len : Nat} (s : SlAt h x esz cs len) : slCells h esz x = some cs := by
  have hl := s.1
  rcases s.2 with ⟨rfl, rfl⟩ | ⟨k, N, off, rfl, hb⟩
  · have : cs = [] := List.length_eq_zero_iff.1 (by omega)
    rw [this]; rfl
  · unfold slCells
    dsimp only
    by_cases h0 : len = 0
    · have : cs = [] := List.length_eq_zero_iff.1 (by rw [h0] at hl; omega)
      rw [if_pos h0, this]
    · rw [if_neg h0]
      rcases hb with hb | ⟨b, hb, hN, hle, hat⟩
      · exact absurd hb h0
      · rw [hb]
        simp only
        rw [if_pos ⟨hN, hle⟩]
        congr 1
        refine List.ext_getElem? fun j => ?_
        rw [List.getElem?_take, List.getElem?_drop]
        by_cases hj : j < len * esz
        · rw [if_pos hj, hat j hj]
        · rw [if_neg hj, List.getElem?_eq_none (by omega)]
theorem app_emptyG {α : Type} {h : AHeap} {esz bytes len : Nat} {cs : List Cell} (he : 0 < esz) (hlen : cs.length = len * esz) (h1 : len * bytes ≤ maxBytes) (h2 : len ≤ maxBytes) (f : Cell → AHeap → Option α) :
    appK esz bytes (.sl h.length 0 0 0) cs (h ++ [some ⟨true, esz, []⟩]) f = f (.sl h.length cs.length 0 len) (h ++ [some ⟨true, esz, cs⟩]) := by
  unfold appK
  simp only
  rw [blk_new, Option.bind_some]
  dsimp only
  have hd : cs.length / esz = len := by rw [hlen]; exact Nat.mul_div_cancel _ he
  rw [if_pos ⟨rfl, rfl, rfl, by simp, by rw [hd]; simp; omega, by rw [hd]; simp; omega⟩, hd]
  by_cases h0 : len = 0
  · have : cs = [] := List.length_eq_zero_iff.1 (by rw [hlen, h0]; omega)
    subst this
    rw [if_pos (by simp), setBlk_last, h0]
    simp [splice]
  · have hpos : 0 < cs.length := by rw [hlen]; exact Nat.mul_pos (by omega) he
    rw [if_neg (by omega), if_pos trivial, setBlk_last]
    simp
def finC (V : MV) : List Cell := V.lc.flatMap regsC ++ intC .i64 V.mem
def finT (V : MV) (t : Nat) : List Cell := (V.lc.take t).flatMap regsC ++ List.replicate (20 - t * 4) (.int .i64 0)
theorem regsC_len (l : Lcl) : (regsC l).length = 4 := rfl
theorem finT_len {V : MV} (f : V.Fit) {t : Nat} (ht : t ≤ 4) : (finT V t).length = 20 := by
  unfold finT
  rw [List.length_append, take_flat_len (n := 4) (fun l _ => regsC_len l) (by rw [f.lc]; exact ht), List.length_replicate]; omega
theorem finT_next {V : MV} (f : V.Fit) {t : Nat} (ht : t < 4) : splice (finT V t) (0 + t * 4) (regsC (V.l t)) = finT V (t + 1) := by
  have hq := MV.l_at (V := V) (t := t) (by rw [f.lc]; exact ht)
  have e : finT V t = (V.lc.take t).flatMap regsC ++ (List.replicate 4 (.int .i64 0) ++ List.replicate (20 - (t + 1) * 4) (.int .i64 0)) := by
    unfold finT
    rw [List.replicate_append_replicate, show 4 + (20 - (t + 1) * 4) = 20 - t * 4 by omega]
  rw [e, seg_set (by rw [take_flat_len (n := 4) (fun l _ => regsC_len l) (by rw [f.lc]; omega)]; omega) (by rw [regsC_len, List.length_replicate])]
  unfold finT
  rw [takeI_succ hq, List.flatMap_append]
  simp
section
variable {E : Env}
theorem Done_R (hE : q174_In E) {h : AHeap} {k : Nat} {x : Cell} {pc : List Cell} {V : MV} (hb : blk? h k = some ⟨true, 0, vmC pc V x⟩) (f : V.Fit) (p : ProgAt h pc V.P) :
    R E 174 [.c (.ptr k 329 0)] h = some ([.c (.bool (V.word == 0))], h) := by
  refine R_intro hE.fn ?_
  rw [q174_eq, Enabled_R hE.c172 hb f p, c1_ok, asI_ok]
  have : (((V.word : Nat) : Int) == 0) = (V.word == 0) := by rw [Bool.eq_iff_iff, beq_iff_eq, beq_iff_eq]; omega
  rw [this]
theorem CloneS_R (hE : q195_In E) {x : Cell} {l : List Stp} {h : AHeap} (hx : SlAt h x 7 (stepsC l) l.length) (hlow : Low h.length x) (hl : l.length ≤ 100000) :
    ∃ x' h', R E 195 [.c x] h = some ([.c x'], h') ∧ Own h.length h' x' 7 (stepsC l) l.length ∧ Kp h.length h h' := by
  have hm : maxBytes ≥ 100000 * 56 := by unfold maxBytes; omega
  have hlen := stepsC_len l
  have hx0 := hx
  rcases hx.2 with ⟨rfl, h0⟩ | ⟨k, N, off, rfl, hb⟩
  · refine ⟨.nils, h, R_intro hE.fn ?_, ⟨hlen, .inl ⟨rfl, h0⟩⟩, Kp.refl _ _⟩
    rw [q195_eq]; rfl
  · have hk1 : Kp h.length h (h ++ [some ⟨true, 7, []⟩]) := Kp.app _ (Nat.le_refl _)
    have hc := (hx0.keep hlow hk1).cellsG
    refine ⟨.sl h.length (stepsC l).length 0 l.length, h ++ [some ⟨true, 7, stepsC l⟩], R_intro hE.fn ?_, ⟨hlen, .inr ⟨h.length, rfl, Nat.le_refl _, blk_new _ _⟩⟩, Kp.app _ (Nat.le_refl _)⟩
    rw [q195_eq, show ∀ {α : Type} (f : Bool → Option α), eqNilK false (.sl k N off l.length) .nils f = f false from fun _ => rfl, if_neg (by simp), if_pos (show ([] : List Cell).length = 0 * 7 from rfl), hc, bind_ok, show ([] : List Cell).length = 0 from rfl, app_emptyG (by omega) hlen (by omega) (by omega)]
theorem Steps_R (hE : q175_In E) {n k : Nat} {h : AHeap} {x : Cell} {pc : List Cell} {V : MV} (a : VmAt n h k x pc V) (f : V.Fit) (hst : V.st.length ≤ 100000) :
    ∃ y h', R E 175 [.c (.ptr k 329 0)] h = some ([.c y], h') ∧ Own h.length h' y 7 (stepsC V.st) V.st.length ∧ Kp h.length h h' := by
  obtain ⟨y, h', r, o, kk⟩ := CloneS_R hE.c195 a.st.at a.st.low hst
  refine ⟨y, h', R_intro hE.fn ?_, o, kk⟩
  rw [q175_eq, rdH_ok a.blk (vm_len f a.prog.len), vm_steps f a.prog.len, r, c1_ok, asC_ok]
theorem Final_R (hE : q179_In E) {h : AHeap} {k : Nat} {x : Cell} {pc : List Cell} {V : MV} (hb : blk? h k = some ⟨true, 0, vmC pc V x⟩) (f : V.Fit) (hpc : pc.length = 3) :
    R E 179 [.c (.ptr k 329 0)] h = some ([.agg (finC V)], h) := by
  refine R_intro hE.fn ?_
  have hl := vm_len (x := x) f hpc
  have rd : ∀ {α : Type} {F : List Cell → Option α}, rdH h k 329 F = F (vmC pc V x) := fun {α F} => rdH_ok hb hl
  have lp : Lim (q179_F1 (R E) Lim E.glob) (q179_s1 k 329 0 ((0 : Nat) : Int) (List.replicate 20 (.int .i64 0)) (finT V 0) h) = some (.exit 0, q179_x1_1 k 329 0 (List.replicate 20 (.int .i64 0)) (finT V 4) h) := by
    refine Lim_count (F := q179_F1 (R E) Lim E.glob) (fun t => q179_s1 k 329 0 (t : Int) (List.replicate 20 (.int .i64 0)) (finT V t) h) 0 4 (by omega) (fun t _ ht => ?_) (Lim_exit ?_)
    · have hr : 0 ≤ (t : Int) ∧ (t : Int) < ((4 : Nat) : Int) := ⟨by omega, by omega⟩
      have hq := MV.l_at (V := V) (t := t) (by rw [f.lc]; exact ht)
      have hrg : ((vmC pc V x).drop (((0 + 4) + t * 5) + 1)).take 4 = regsC (V.l t) := vm_regs f hpc hq
      rw [q179_r1, if_pos (by simp; omega), if_pos hr, rd, Int.toNat_natCast, if_pos (by rw [hl]; omega), hrg, if_pos hr, if_pos ⟨by rw [finT_len f (by omega)]; omega, regsC_len _⟩, finT_next f ht, g_succ (by omega)]
    · rw [q179_r1, if_neg (by simp)]
  have e0 : finT V 0 = List.replicate 20 (.int .i64 0) := by unfold finT; simp
  rw [e0, show ((0 : Nat) : Int) = 0 from rfl] at lp
  have hm : (intC .i64 V.mem).length = 4 := by rw [intC_len, f.mem]
  have e4 : splice (finT V 4) 16 (intC .i64 V.mem) = finC V := by
    have : finT V 4 = V.lc.flatMap regsC ++ (List.replicate 4 (.int .i64 0) ++ []) := by
      unfold finT
      rw [List.take_of_length_le (by rw [f.lc]; exact Nat.le_refl _), List.append_nil]
    rw [this, seg_set (by rw [flat_len (n := 4) fun l _ => regsC_len l, f.lc]) (by rw [hm, List.length_replicate]), List.append_nil]
    rfl
  have hfl : (finC V).length = 20 := by rw [← e4, splice_len (by rw [finT_len f (Nat.le_refl _), hm]; omega), finT_len f (Nat.le_refl _)]
  rw [q179_eq, lp, bind_ok]
  dsimp only
  rw [q179_e1_1, rd, if_pos (by rw [hl]; omega), vm_mems f hpc, if_pos ⟨by rw [finT_len f (Nat.le_refl _)]; omega, hm⟩, e4, if_pos ⟨rfl, hfl⟩, if_pos ⟨rfl, rfl, hfl⟩, if_pos ⟨rfl, hfl⟩]
theorem Copy_R (hE : q184_In E) {n k : Nat} {h : AHeap} {x : Cell} {pc : List Cell} {V : MV} (a : VmAt n h k x pc V) (f : V.Fit) (hst : V.st.length ≤ 100000) :
    ∃ x' h', R E 184 [.c (.ptr k 329 0)] h = some ([.c (.ptr h.length 329 0)], h') ∧ VmAt n h' h.length x' pc V ∧ Kp h.length h h' ∧ (∀ j, isBlk x' j → h.length ≤ j) := by
  have hpc := a.prog.len
  have hl := vm_len (x := x) f hpc
  have rd : ∀ {α : Type} {F : List Cell → Option α}, rdH h k 329 F = F (vmC pc V x) := fun {α F} => rdH_ok a.blk hl
  have hz := nw_z
  generalize hzz : ([Cell.nils, Cell.nils, Cell.nils] ++ List.replicate 325 (Cell.int .i64 0) ++ [Cell.nils]) = z at hz
  have hk1 : Kp h.length h (h ++ [some ⟨true, 0, vmC pc V x⟩]) := Kp.app _ (Nat.le_refl _)
  obtain ⟨x', h6, r6, o6, k6⟩ := CloneS_R hE.c195 (a.st.at.keep a.st.low hk1) (Low_mono hk1.1 a.st.low) hst
  have b3 : blk? (h ++ [some ⟨true, 0, vmC pc V x⟩]) h.length = some ⟨true, 0, vmC pc V x⟩ := blk_new _ _
  have bz : blk? (h ++ [some ⟨true, 0, z⟩]) h.length = some ⟨true, 0, z⟩ := blk_new _ _
  have bk : blk? (h ++ [some ⟨true, 0, vmC pc V x⟩]) k = some ⟨true, 0, vmC pc V x⟩ := blk_old a.blk _
  have b6 : blk? h6 h.length = some ⟨true, 0, vmC pc V x⟩ := by rw [k6.blk (by simp)]; exact b3
  have kk : Kp h.length h (setBlk h6 h.length (some ⟨true, 0, vmC pc V x'⟩)) := (hk1.trans (k6.mono (by simp))).trans (Kp.set (Nat.le_refl _) _)
  have nb : ¬ isBlk x' h.length := fun q => by have := (o6.blkLt q).2; simp at this; omega
  refine ⟨x', setBlk h6 h.length (some ⟨true, 0, vmC pc V x'⟩), R_intro hE.fn ?_, ⟨Nat.le_trans a.hn kk.1, a.hn, ?_, blk_set_self (blk_lt' b6) _, ((o6.monoN (by simp; have := a.hn; omega)).setO nb _), nb⟩, kk, fun j q => by have := (o6.blkLt q).2; simp at this; omega⟩
  · rw [q184_eq, hzz, rd, if_pos (by rw [hl]; omega), List.drop_zero, List.take_of_length_le (by rw [hl]; omega), hz, rdH_ok bz hz, if_pos ⟨rfl, hz, hl⟩, putB bz, setBlk_last, rdH_ok bk hl, vm_steps f hpc, r6, c1_ok, asC_ok, rdH_ok b6 hl, if_pos (by rw [hl]; omega)]
    rw [show (vmC pc V x).set 328 x' = vmC pc V x' from vm_setX f hpc x', putB b6]
  · have : (setBlk h6 h.length (some ⟨true, 0, vmC pc V x'⟩)).take n = h.take n := by
      refine List.ext_getElem? fun j => ?_
      rw [List.getElem?_take, List.getElem?_take]
      split
      · exact (kk.mono a.hn).2 j (by assumption)
      · rfl
    rw [this]; exact a.prog
end
end Jq

namespace Jq
open Go
end Jq

namespace Jq
open Go
end Jq

namespace Jq
open Go
end Jq

namespace Jq
open Go
end Jq

namespace Jq
open Go
end Jq

namespace Jq
open Go
end Jq

namespace Jq
open Go
variable (C : CallF) (L : LoopF) (G : Glo)
set_option maxRecDepth 100000 in
theorem q45_eq (a0 : Int) (h0 : AHeap) : q45.body C L G [(.c (.int .i64 a0))] h0 = c1 (C 46 [(.c (.int .i64 a0))] h0) fun y_2 h_1 => asS y_2 fun z_3 => some ([(.c (.str z_3))], h_1) := by kernel_rfl
end Jq

namespace Jq
open Go
variable (C : CallF) (L : LoopF) (G : Glo)
set_option maxRecDepth 100000 in
theorem q46_eq (a0 : Int) (h0 : AHeap) : q46.body C L G [(.c (.int .i64 a0))] h0 = c1 (C 47 [(.c (.int .i64 a0)), (.c (.int .i64 10))] h0) fun y_2 h_1 => asS y_2 fun z_3 => some ([(.c (.str z_3))], h_1) := by kernel_rfl
set_option maxRecDepth 100000 in
theorem q47_eq (a0 a1 : Int) (h0 : AHeap) : q47.body C L G [(.c (.int .i64 a0)), (.c (.int .i64 a1))] h0 = if (a1 == 10) = true then scK (decide (0 ≤ a0)) true (some ((decide (a0 < 100)), h0)) false h0 fun b_1 h_2 => if b_1 = true then c1 (C 48 [(.c (.int .i64 a0))] h_2) fun y_4 h_3 => asS y_4 fun z_5 => finish true h0 [(.c (.str z_5))] h_3 else if (decide (a0 < 0)) = true then c1 (C 49 [(.c (.int .u64 (G.wrap .u64 (0 - (G.wrap .u64 a0)))))] (h_2 ++ [some (Blk.mk true 0 (List.replicate 24 (Cell.int .u8 0)))])) fun y_7 h_6 => asI .i64 y_7 fun n_8 => sliceAK h_6 24 1 true true (.ptr h_2.length ((List.replicate 24 (Cell.int .u8 0)).length) 0) [.v (.c (.int .i64 1)), .v (.c (.int .i64 (G.wrap .i64 (1 + n_8))))] fun x_9 => c0 (C 50 [(.c x_9), (.c (.int .u64 (G.wrap .u64 (0 - (G.wrap .u64 a0)))))] h_6) fun h_10 => if (decide (a0 < 0)) = true then rdH h_10 h_2.length ((List.replicate 24 (Cell.int .u8 0)).length) fun l_11 => if 0 < l_11.length then putH h_10 h_2.length (l_11.set 0 (.int .u8 45)) fun h_12 => sliceAK h_12 24 1 false true (.ptr h_2.length ((List.replicate 24 (Cell.int .u8 0)).length) 0) [.v (.c (.int .i64 (G.wrap .i64 (1 + n_8))))] fun x_13 => (slCells h_12 1 x_13).bind fun l_14 => (bytesOf l_14).bind fun l_15 => finish true h0 [(.c (.str (ByteArray.mk l_15.toArray)))] h_12 else none else sliceAK h_10 24 1 true true (.ptr h_2.length ((List.replicate 24 (Cell.int .u8 0)).length) 0) [.v (.c (.int .i64 1)), .v (.c (.int .i64 (G.wrap .i64 (1 + n_8))))] fun x_16 => (slCells h_10 1 x_16).bind fun l_17 => (bytesOf l_17).bind fun l_18 => finish true h0 [(.c (.str (ByteArray.mk l_18.toArray)))] h_10 else c1 (C 49 [(.c (.int .u64 (G.wrap .u64 a0)))] (h_2 ++ [some (Blk.mk true 0 (List.replicate 24 (Cell.int .u8 0)))])) fun y_20 h_19 => asI .i64 y_20 fun n_21 => sliceAK h_19 24 1 true true (.ptr h_2.length ((List.replicate 24 (Cell.int .u8 0)).length) 0) [.v (.c (.int .i64 1)), .v (.c (.int .i64 (G.wrap .i64 (1 + n_21))))] fun x_22 => c0 (C 50 [(.c x_22), (.c (.int .u64 (G.wrap .u64 a0)))] h_19) fun h_23 => if (decide (a0 < 0)) = true then rdH h_23 h_2.length ((List.replicate 24 (Cell.int .u8 0)).length) fun l_24 => if 0 < l_24.length then putH h_23 h_2.length (l_24.set 0 (.int .u8 45)) fun h_25 => sliceAK h_25 24 1 false true (.ptr h_2.length ((List.replicate 24 (Cell.int .u8 0)).length) 0) [.v (.c (.int .i64 (G.wrap .i64 (1 + n_21))))] fun x_26 => (slCells h_25 1 x_26).bind fun l_27 => (bytesOf l_27).bind fun l_28 => finish true h0 [(.c (.str (ByteArray.mk l_28.toArray)))] h_25 else none else sliceAK h_23 24 1 true true (.ptr h_2.length ((List.replicate 24 (Cell.int .u8 0)).length) 0) [.v (.c (.int .i64 1)), .v (.c (.int .i64 (G.wrap .i64 (1 + n_21))))] fun x_29 => (slCells h_23 1 x_29).bind fun l_30 => (bytesOf l_30).bind fun l_31 => finish true h0 [(.c (.str (ByteArray.mk l_31.toArray)))] h_23 else c2 (C 51 [(.c .nils), (.c (.int .u64 (G.wrap .u64 a0))), (.c (.int .i64 a1)), (.c (.bool (decide (a0 < 0)))), (.c (.bool false))] h0) fun y_33 y_34 h_32 => asC y_33 fun x_35 => asS y_34 fun z_36 => finish true h0 [(.c (.str z_36))] h_32 := by kernel_rfl
set_option maxRecDepth 100000 in
theorem q48_eq (a0 : Int) (h0 : AHeap) : q48.body C L G [(.c (.int .i64 a0))] h0 = if (decide (a0 < 10)) = true then sliceStrK true true (.str (ByteArray.mk #[48, 49, 50, 51, 52, 53, 54, 55, 56, 57, 97, 98, 99, 100, 101, 102, 103, 104, 105, 106, 107, 108, 109, 110, 111, 112, 113, 114, 115, 116, 117, 118, 119, 120, 121, 122])) [.v (.c (.int .i64 a0)), .v (.c (.int .i64 (G.wrap .i64 (a0 + 1))))] fun x_1 => some ([(.c (.str x_1))], h0) else let v_2 : Int := (G.wrap .i64 ((G.wrap .i64 (a0 * 2)) + 2)); sliceStrK true true (.str (ByteArray.mk #[48, 48, 48, 49, 48, 50, 48, 51, 48, 52, 48, 53, 48, 54, 48, 55, 48, 56, 48, 57, 49, 48, 49, 49, 49, 50, 49, 51, 49, 52, 49, 53, 49, 54, 49, 55, 49, 56, 49, 57, 50, 48, 50, 49, 50, 50, 50, 51, 50, 52, 50, 53, 50, 54, 50, 55, 50, 56, 50, 57, 51, 48, 51, 49, 51, 50, 51, 51, 51, 52, 51, 53, 51, 54, 51, 55, 51, 56, 51, 57, 52, 48, 52, 49, 52, 50, 52, 51, 52, 52, 52, 53, 52, 54, 52, 55, 52, 56, 52, 57, 53, 48, 53, 49, 53, 50, 53, 51, 53, 52, 53, 53, 53, 54, 53, 55, 53, 56, 53, 57, 54, 48, 54, 49, 54, 50, 54, 51, 54, 52, 54, 53, 54, 54, 54, 55, 54, 56, 54, 57, 55, 48, 55, 49, 55, 50, 55, 51, 55, 52, 55, 53, 55, 54, 55, 55, 55, 56, 55, 57, 56, 48, 56, 49, 56, 50, 56, 51, 56, 52, 56, 53, 56, 54, 56, 55, 56, 56, 56, 57, 57, 48, 57, 49, 57, 50, 57, 51, 57, 52, 57, 53, 57, 54, 57, 55, 57, 56, 57, 57])) [.v (.c (.int .i64 (G.wrap .i64 (a0 * 2)))), .v (.c (.int .i64 v_2))] fun x_3 => some ([(.c (.str x_3))], h0) := by kernel_rfl
end Jq

namespace Jq
open Go
variable {E : Env}
theorem Itoa_of (hE : q45_In E) {a : Int} {z : ByteArray} (ha : 0 ≤ a ∧ a < 100) {h : AHeap} (small : R E 48 [.c (.int .i64 a)] h = some ([.c (.str z)], h)) : R E 45 [.c (.int .i64 a)] h = some ([.c (.str z)], h) := by
  refine R_intro hE.fn ?_
  have fmt : R E 47 [.c (.int .i64 a), .c (.int .i64 10)] h = some ([.c (.str z)], h) := by
    refine R_intro hE.c46.c47.fn ?_
    rw [q47_eq, if_pos (by rfl), scK_and, if_pos (by simp; omega), small, c1_ok, asS_ok]
    exact finish_gc (Kp.refl _ _) (by simp [avOk, AV.cells, idOk])
  have it : R E 46 [.c (.int .i64 a)] h = some ([.c (.str z)], h) := by
    refine R_intro hE.c46.fn ?_
    rw [q46_eq, fmt, c1_ok, asS_ok]
  rw [q45_eq, it, c1_ok, asS_ok]
def nums : List (Int × Int) := [(0, 0), (1, 1), (2, 2), (4, 4), (5, 5), (6, 6), (7, 7), (8, 8), (9, 9), (10, 10), (4000, 4000), (4, 4), (10, 10), (24, 24), (4, 4), (1, 1), (2, 2), (3, 3), (4, 4), (5, 5), (6, 6), (7, 7), (8, 8), (9, 9), (10, 10), (11, 11), (1, 1), (2, 2), (3, 3), (4, 4), (1, 1), (2, 2), (3, 3), (4, 4), (5, 5), (6, 6), (1, 1), (2, 2), (1, 1), (2, 2), (3, 3), (4, 4), (5, 5), (6, 6), (1, 1), (2, 2), (3, 3), (0, 0), (1, 1), (2, 2), (1, 1), (2, 2), (3, 3), (4, 4), (5, 5), (6, 6), (7, 7), (8, 8), (9, 9), (10, 10), (11, 11), (12, 12), (13, 13)]
end Jq

namespace Jq
open Go
variable (C : CallF) (L : LoopF) (G : Glo)
set_option maxRecDepth 100000 in
theorem q187_eq  (h0 : AHeap) : q187.body C L G [] h0 = if 0 = 0 ∧ [Cell.int .i64 0, Cell.int .i64 0].length = 2 ∧ (splice (splice [Cell.int .i64 0, Cell.int .i64 0] 0 ([(.int .i64 (-1))] : List Cell)) 1 ([(.int .i64 1)] : List Cell)).length = 2 then if (splice (splice [Cell.int .u8 0, Cell.int .u8 0] 0 ([(.int .u8 120)] : List Cell)) 1 ([(.int .u8 121)] : List Cell)).length = 2 * 1 then markK (.sl h0.length ((splice (splice [Cell.int .u8 0, Cell.int .u8 0] 0 ([(.int .u8 120)] : List Cell)) 1 ([(.int .u8 121)] : List Cell)).length) 0 2) (h0 ++ [some (Blk.mk true 1 (splice (splice [Cell.int .u8 0, Cell.int .u8 0] 0 ([(.int .u8 120)] : List Cell)) 1 ([(.int .u8 121)] : List Cell)))]) fun x_1 h_2 => if (splice (splice [Cell.int .i64 0, Cell.int .i64 0] 0 ([(.int .i64 0)] : List Cell)) 1 ([(.int .i64 0)] : List Cell)).length = 2 * 1 then if 0 = 0 ∧ (splice (splice [Cell.int .i64 0, Cell.int .i64 0] 0 ([(.int .i64 (-1))] : List Cell)) 1 ([(.int .i64 1)] : List Cell)).length = 2 then if (splice (splice [Cell.int .i64 0, Cell.int .i64 0] 0 ([(.int .i64 (-1))] : List Cell)) 1 ([(.int .i64 1)] : List Cell)).length = 2 ∧ 3 + 2 ≤ (splice (splice (List.replicate 9 (Cell.int .i64 0)) 0 ([(.int .i64 1)] : List Cell)) 2 ([(.int .i64 0)] : List Cell)).length then if (splice (splice (splice (List.replicate 9 (Cell.int .i64 0)) 0 ([(.int .i64 1)] : List Cell)) 2 ([(.int .i64 0)] : List Cell)) 3 (splice (splice [Cell.int .i64 0, Cell.int .i64 0] 0 ([(.int .i64 (-1))] : List Cell)) 1 ([(.int .i64 1)] : List Cell))).length = 9 ∧ 0 + 9 ≤ (List.replicate 18 (Cell.int .i64 0)).length then if (splice (splice (List.replicate 9 (Cell.int .i64 0)) 0 ([(.int .i64 2)] : List Cell)) 2 ([(.int .i64 1)] : List Cell)).length = 9 ∧ 9 + 9 ≤ (splice (List.replicate 18 (Cell.int .i64 0)) 0 (splice (splice (splice (List.replicate 9 (Cell.int .i64 0)) 0 ([(.int .i64 1)] : List Cell)) 2 ([(.int .i64 0)] : List Cell)) 3 (splice (splice [Cell.int .i64 0, Cell.int .i64 0] 0 ([(.int .i64 (-1))] : List Cell)) 1 ([(.int .i64 1)] : List Cell)))).length then if (splice (splice (List.replicate 18 (Cell.int .i64 0)) 0 (splice (splice (splice (List.replicate 9 (Cell.int .i64 0)) 0 ([(.int .i64 1)] : List Cell)) 2 ([(.int .i64 0)] : List Cell)) 3 (splice (splice [Cell.int .i64 0, Cell.int .i64 0] 0 ([(.int .i64 (-1))] : List Cell)) 1 ([(.int .i64 1)] : List Cell)))) 9 (splice (splice (List.replicate 9 (Cell.int .i64 0)) 0 ([(.int .i64 2)] : List Cell)) 2 ([(.int .i64 1)] : List Cell))).length = 2 * 9 then if 0 = 0 ∧ (splice (splice [Cell.int .i64 0, Cell.int .i64 0] 0 ([(.int .i64 (-1))] : List Cell)) 1 ([(.int .i64 1)] : List Cell)).length = 2 then if (splice (splice [Cell.int .i64 0, Cell.int .i64 0] 0 ([(.int .i64 (-1))] : List Cell)) 1 ([(.int .i64 1)] : List Cell)).length = 2 ∧ 3 + 2 ≤ (splice (splice (List.replicate 9 (Cell.int .i64 0)) 0 ([(.int .i64 1)] : List Cell)) 2 ([(.int .i64 1)] : List Cell)).length then if (splice (splice (splice (List.replicate 9 (Cell.int .i64 0)) 0 ([(.int .i64 1)] : List Cell)) 2 ([(.int .i64 1)] : List Cell)) 3 (splice (splice [Cell.int .i64 0, Cell.int .i64 0] 0 ([(.int .i64 (-1))] : List Cell)) 1 ([(.int .i64 1)] : List Cell))).length = 9 ∧ 0 + 9 ≤ (List.replicate 18 (Cell.int .i64 0)).length then if (splice (splice (List.replicate 9 (Cell.int .i64 0)) 0 ([(.int .i64 2)] : List Cell)) 2 ([(.int .i64 0)] : List Cell)).length = 9 ∧ 9 + 9 ≤ (splice (List.replicate 18 (Cell.int .i64 0)) 0 (splice (splice (splice (List.replicate 9 (Cell.int .i64 0)) 0 ([(.int .i64 1)] : List Cell)) 2 ([(.int .i64 1)] : List Cell)) 3 (splice (splice [Cell.int .i64 0, Cell.int .i64 0] 0 ([(.int .i64 (-1))] : List Cell)) 1 ([(.int .i64 1)] : List Cell)))).length then if (splice (splice (List.replicate 18 (Cell.int .i64 0)) 0 (splice (splice (splice (List.replicate 9 (Cell.int .i64 0)) 0 ([(.int .i64 1)] : List Cell)) 2 ([(.int .i64 1)] : List Cell)) 3 (splice (splice [Cell.int .i64 0, Cell.int .i64 0] 0 ([(.int .i64 (-1))] : List Cell)) 1 ([(.int .i64 1)] : List Cell)))) 9 (splice (splice (List.replicate 9 (Cell.int .i64 0)) 0 ([(.int .i64 2)] : List Cell)) 2 ([(.int .i64 0)] : List Cell))).length = 2 * 9 then if (splice (splice [Cell.nils, Cell.nils] 0 ([(.sl ((h_2 ++ [some (Blk.mk true 1 (splice (splice [Cell.int .i64 0, Cell.int .i64 0] 0 ([(.int .i64 0)] : List Cell)) 1 ([(.int .i64 0)] : List Cell)))]).length) ((splice (splice (List.replicate 18 (Cell.int .i64 0)) 0 (splice (splice (splice (List.replicate 9 (Cell.int .i64 0)) 0 ([(.int .i64 1)] : List Cell)) 2 ([(.int .i64 0)] : List Cell)) 3 (splice (splice [Cell.int .i64 0, Cell.int .i64 0] 0 ([(.int .i64 (-1))] : List Cell)) 1 ([(.int .i64 1)] : List Cell)))) 9 (splice (splice (List.replicate 9 (Cell.int .i64 0)) 0 ([(.int .i64 2)] : List Cell)) 2 ([(.int .i64 1)] : List Cell))).length) 0 2)] : List Cell)) 1 ([(.sl (((h_2 ++ [some (Blk.mk true 1 (splice (splice [Cell.int .i64 0, Cell.int .i64 0] 0 ([(.int .i64 0)] : List Cell)) 1 ([(.int .i64 0)] : List Cell)))]) ++ [some (Blk.mk true 9 (splice (splice (List.replicate 18 (Cell.int .i64 0)) 0 (splice (splice (splice (List.replicate 9 (Cell.int .i64 0)) 0 ([(.int .i64 1)] : List Cell)) 2 ([(.int .i64 0)] : List Cell)) 3 (splice (splice [Cell.int .i64 0, Cell.int .i64 0] 0 ([(.int .i64 (-1))] : List Cell)) 1 ([(.int .i64 1)] : List Cell)))) 9 (splice (splice (List.replicate 9 (Cell.int .i64 0)) 0 ([(.int .i64 2)] : List Cell)) 2 ([(.int .i64 1)] : List Cell))))]).length) ((splice (splice (List.replicate 18 (Cell.int .i64 0)) 0 (splice (splice (splice (List.replicate 9 (Cell.int .i64 0)) 0 ([(.int .i64 1)] : List Cell)) 2 ([(.int .i64 1)] : List Cell)) 3 (splice (splice [Cell.int .i64 0, Cell.int .i64 0] 0 ([(.int .i64 (-1))] : List Cell)) 1 ([(.int .i64 1)] : List Cell)))) 9 (splice (splice (List.replicate 9 (Cell.int .i64 0)) 0 ([(.int .i64 2)] : List Cell)) 2 ([(.int .i64 0)] : List Cell))).length) 0 2)] : List Cell)).length = 2 * 1 then if 0 = 0 ∧ [Cell.nils, Cell.nils, Cell.nils].length = 3 ∧ (splice (splice (splice [Cell.nils, Cell.nils, Cell.nils] 0 ([x_1] : List Cell)) 1 ([(.sl h_2.length ((splice (splice [Cell.int .i64 0, Cell.int .i64 0] 0 ([(.int .i64 0)] : List Cell)) 1 ([(.int .i64 0)] : List Cell)).length) 0 2)] : List Cell)) 2 ([(.sl ((((h_2 ++ [some (Blk.mk true 1 (splice (splice [Cell.int .i64 0, Cell.int .i64 0] 0 ([(.int .i64 0)] : List Cell)) 1 ([(.int .i64 0)] : List Cell)))]) ++ [some (Blk.mk true 9 (splice (splice (List.replicate 18 (Cell.int .i64 0)) 0 (splice (splice (splice (List.replicate 9 (Cell.int .i64 0)) 0 ([(.int .i64 1)] : List Cell)) 2 ([(.int .i64 0)] : List Cell)) 3 (splice (splice [Cell.int .i64 0, Cell.int .i64 0] 0 ([(.int .i64 (-1))] : List Cell)) 1 ([(.int .i64 1)] : List Cell)))) 9 (splice (splice (List.replicate 9 (Cell.int .i64 0)) 0 ([(.int .i64 2)] : List Cell)) 2 ([(.int .i64 1)] : List Cell))))]) ++ [some (Blk.mk true 9 (splice (splice (List.replicate 18 (Cell.int .i64 0)) 0 (splice (splice (splice (List.replicate 9 (Cell.int .i64 0)) 0 ([(.int .i64 1)] : List Cell)) 2 ([(.int .i64 1)] : List Cell)) 3 (splice (splice [Cell.int .i64 0, Cell.int .i64 0] 0 ([(.int .i64 (-1))] : List Cell)) 1 ([(.int .i64 1)] : List Cell)))) 9 (splice (splice (List.replicate 9 (Cell.int .i64 0)) 0 ([(.int .i64 2)] : List Cell)) 2 ([(.int .i64 0)] : List Cell))))]).length) ((splice (splice [Cell.nils, Cell.nils] 0 ([(.sl ((h_2 ++ [some (Blk.mk true 1 (splice (splice [Cell.int .i64 0, Cell.int .i64 0] 0 ([(.int .i64 0)] : List Cell)) 1 ([(.int .i64 0)] : List Cell)))]).length) ((splice (splice (List.replicate 18 (Cell.int .i64 0)) 0 (splice (splice (splice (List.replicate 9 (Cell.int .i64 0)) 0 ([(.int .i64 1)] : List Cell)) 2 ([(.int .i64 0)] : List Cell)) 3 (splice (splice [Cell.int .i64 0, Cell.int .i64 0] 0 ([(.int .i64 (-1))] : List Cell)) 1 ([(.int .i64 1)] : List Cell)))) 9 (splice (splice (List.replicate 9 (Cell.int .i64 0)) 0 ([(.int .i64 2)] : List Cell)) 2 ([(.int .i64 1)] : List Cell))).length) 0 2)] : List Cell)) 1 ([(.sl (((h_2 ++ [some (Blk.mk true 1 (splice (splice [Cell.int .i64 0, Cell.int .i64 0] 0 ([(.int .i64 0)] : List Cell)) 1 ([(.int .i64 0)] : List Cell)))]) ++ [some (Blk.mk true 9 (splice (splice (List.replicate 18 (Cell.int .i64 0)) 0 (splice (splice (splice (List.replicate 9 (Cell.int .i64 0)) 0 ([(.int .i64 1)] : List Cell)) 2 ([(.int .i64 0)] : List Cell)) 3 (splice (splice [Cell.int .i64 0, Cell.int .i64 0] 0 ([(.int .i64 (-1))] : List Cell)) 1 ([(.int .i64 1)] : List Cell)))) 9 (splice (splice (List.replicate 9 (Cell.int .i64 0)) 0 ([(.int .i64 2)] : List Cell)) 2 ([(.int .i64 1)] : List Cell))))]).length) ((splice (splice (List.replicate 18 (Cell.int .i64 0)) 0 (splice (splice (splice (List.replicate 9 (Cell.int .i64 0)) 0 ([(.int .i64 1)] : List Cell)) 2 ([(.int .i64 1)] : List Cell)) 3 (splice (splice [Cell.int .i64 0, Cell.int .i64 0] 0 ([(.int .i64 (-1))] : List Cell)) 1 ([(.int .i64 1)] : List Cell)))) 9 (splice (splice (List.replicate 9 (Cell.int .i64 0)) 0 ([(.int .i64 2)] : List Cell)) 2 ([(.int .i64 0)] : List Cell))).length) 0 2)] : List Cell)).length) 0 2)] : List Cell)).length = 3 then if 0 = 0 ∧ (splice (splice (splice [Cell.nils, Cell.nils, Cell.nils] 0 ([x_1] : List Cell)) 1 ([(.sl h_2.length ((splice (splice [Cell.int .i64 0, Cell.int .i64 0] 0 ([(.int .i64 0)] : List Cell)) 1 ([(.int .i64 0)] : List Cell)).length) 0 2)] : List Cell)) 2 ([(.sl ((((h_2 ++ [some (Blk.mk true 1 (splice (splice [Cell.int .i64 0, Cell.int .i64 0] 0 ([(.int .i64 0)] : List Cell)) 1 ([(.int .i64 0)] : List Cell)))]) ++ [some (Blk.mk true 9 (splice (splice (List.replicate 18 (Cell.int .i64 0)) 0 (splice (splice (splice (List.replicate 9 (Cell.int .i64 0)) 0 ([(.int .i64 1)] : List Cell)) 2 ([(.int .i64 0)] : List Cell)) 3 (splice (splice [Cell.int .i64 0, Cell.int .i64 0] 0 ([(.int .i64 (-1))] : List Cell)) 1 ([(.int .i64 1)] : List Cell)))) 9 (splice (splice (List.replicate 9 (Cell.int .i64 0)) 0 ([(.int .i64 2)] : List Cell)) 2 ([(.int .i64 1)] : List Cell))))]) ++ [some (Blk.mk true 9 (splice (splice (List.replicate 18 (Cell.int .i64 0)) 0 (splice (splice (splice (List.replicate 9 (Cell.int .i64 0)) 0 ([(.int .i64 1)] : List Cell)) 2 ([(.int .i64 1)] : List Cell)) 3 (splice (splice [Cell.int .i64 0, Cell.int .i64 0] 0 ([(.int .i64 (-1))] : List Cell)) 1 ([(.int .i64 1)] : List Cell)))) 9 (splice (splice (List.replicate 9 (Cell.int .i64 0)) 0 ([(.int .i64 2)] : List Cell)) 2 ([(.int .i64 0)] : List Cell))))]).length) ((splice (splice [Cell.nils, Cell.nils] 0 ([(.sl ((h_2 ++ [some (Blk.mk true 1 (splice (splice [Cell.int .i64 0, Cell.int .i64 0] 0 ([(.int .i64 0)] : List Cell)) 1 ([(.int .i64 0)] : List Cell)))]).length) ((splice (splice (List.replicate 18 (Cell.int .i64 0)) 0 (splice (splice (splice (List.replicate 9 (Cell.int .i64 0)) 0 ([(.int .i64 1)] : List Cell)) 2 ([(.int .i64 0)] : List Cell)) 3 (splice (splice [Cell.int .i64 0, Cell.int .i64 0] 0 ([(.int .i64 (-1))] : List Cell)) 1 ([(.int .i64 1)] : List Cell)))) 9 (splice (splice (List.replicate 9 (Cell.int .i64 0)) 0 ([(.int .i64 2)] : List Cell)) 2 ([(.int .i64 1)] : List Cell))).length) 0 2)] : List Cell)) 1 ([(.sl (((h_2 ++ [some (Blk.mk true 1 (splice (splice [Cell.int .i64 0, Cell.int .i64 0] 0 ([(.int .i64 0)] : List Cell)) 1 ([(.int .i64 0)] : List Cell)))]) ++ [some (Blk.mk true 9 (splice (splice (List.replicate 18 (Cell.int .i64 0)) 0 (splice (splice (splice (List.replicate 9 (Cell.int .i64 0)) 0 ([(.int .i64 1)] : List Cell)) 2 ([(.int .i64 0)] : List Cell)) 3 (splice (splice [Cell.int .i64 0, Cell.int .i64 0] 0 ([(.int .i64 (-1))] : List Cell)) 1 ([(.int .i64 1)] : List Cell)))) 9 (splice (splice (List.replicate 9 (Cell.int .i64 0)) 0 ([(.int .i64 2)] : List Cell)) 2 ([(.int .i64 1)] : List Cell))))]).length) ((splice (splice (List.replicate 18 (Cell.int .i64 0)) 0 (splice (splice (splice (List.replicate 9 (Cell.int .i64 0)) 0 ([(.int .i64 1)] : List Cell)) 2 ([(.int .i64 1)] : List Cell)) 3 (splice (splice [Cell.int .i64 0, Cell.int .i64 0] 0 ([(.int .i64 (-1))] : List Cell)) 1 ([(.int .i64 1)] : List Cell)))) 9 (splice (splice (List.replicate 9 (Cell.int .i64 0)) 0 ([(.int .i64 2)] : List Cell)) 2 ([(.int .i64 0)] : List Cell))).length) 0 2)] : List Cell)).length) 0 2)] : List Cell)).length = 3 then some ([(.agg (splice (splice (splice [Cell.nils, Cell.nils, Cell.nils] 0 ([x_1] : List Cell)) 1 ([(.sl h_2.length ((splice (splice [Cell.int .i64 0, Cell.int .i64 0] 0 ([(.int .i64 0)] : List Cell)) 1 ([(.int .i64 0)] : List Cell)).length) 0 2)] : List Cell)) 2 ([(.sl ((((h_2 ++ [some (Blk.mk true 1 (splice (splice [Cell.int .i64 0, Cell.int .i64 0] 0 ([(.int .i64 0)] : List Cell)) 1 ([(.int .i64 0)] : List Cell)))]) ++ [some (Blk.mk true 9 (splice (splice (List.replicate 18 (Cell.int .i64 0)) 0 (splice (splice (splice (List.replicate 9 (Cell.int .i64 0)) 0 ([(.int .i64 1)] : List Cell)) 2 ([(.int .i64 0)] : List Cell)) 3 (splice (splice [Cell.int .i64 0, Cell.int .i64 0] 0 ([(.int .i64 (-1))] : List Cell)) 1 ([(.int .i64 1)] : List Cell)))) 9 (splice (splice (List.replicate 9 (Cell.int .i64 0)) 0 ([(.int .i64 2)] : List Cell)) 2 ([(.int .i64 1)] : List Cell))))]) ++ [some (Blk.mk true 9 (splice (splice (List.replicate 18 (Cell.int .i64 0)) 0 (splice (splice (splice (List.replicate 9 (Cell.int .i64 0)) 0 ([(.int .i64 1)] : List Cell)) 2 ([(.int .i64 1)] : List Cell)) 3 (splice (splice [Cell.int .i64 0, Cell.int .i64 0] 0 ([(.int .i64 (-1))] : List Cell)) 1 ([(.int .i64 1)] : List Cell)))) 9 (splice (splice (List.replicate 9 (Cell.int .i64 0)) 0 ([(.int .i64 2)] : List Cell)) 2 ([(.int .i64 0)] : List Cell))))]).length) ((splice (splice [Cell.nils, Cell.nils] 0 ([(.sl ((h_2 ++ [some (Blk.mk true 1 (splice (splice [Cell.int .i64 0, Cell.int .i64 0] 0 ([(.int .i64 0)] : List Cell)) 1 ([(.int .i64 0)] : List Cell)))]).length) ((splice (splice (List.replicate 18 (Cell.int .i64 0)) 0 (splice (splice (splice (List.replicate 9 (Cell.int .i64 0)) 0 ([(.int .i64 1)] : List Cell)) 2 ([(.int .i64 0)] : List Cell)) 3 (splice (splice [Cell.int .i64 0, Cell.int .i64 0] 0 ([(.int .i64 (-1))] : List Cell)) 1 ([(.int .i64 1)] : List Cell)))) 9 (splice (splice (List.replicate 9 (Cell.int .i64 0)) 0 ([(.int .i64 2)] : List Cell)) 2 ([(.int .i64 1)] : List Cell))).length) 0 2)] : List Cell)) 1 ([(.sl (((h_2 ++ [some (Blk.mk true 1 (splice (splice [Cell.int .i64 0, Cell.int .i64 0] 0 ([(.int .i64 0)] : List Cell)) 1 ([(.int .i64 0)] : List Cell)))]) ++ [some (Blk.mk true 9 (splice (splice (List.replicate 18 (Cell.int .i64 0)) 0 (splice (splice (splice (List.replicate 9 (Cell.int .i64 0)) 0 ([(.int .i64 1)] : List Cell)) 2 ([(.int .i64 0)] : List Cell)) 3 (splice (splice [Cell.int .i64 0, Cell.int .i64 0] 0 ([(.int .i64 (-1))] : List Cell)) 1 ([(.int .i64 1)] : List Cell)))) 9 (splice (splice (List.replicate 9 (Cell.int .i64 0)) 0 ([(.int .i64 2)] : List Cell)) 2 ([(.int .i64 1)] : List Cell))))]).length) ((splice (splice (List.replicate 18 (Cell.int .i64 0)) 0 (splice (splice (splice (List.replicate 9 (Cell.int .i64 0)) 0 ([(.int .i64 1)] : List Cell)) 2 ([(.int .i64 1)] : List Cell)) 3 (splice (splice [Cell.int .i64 0, Cell.int .i64 0] 0 ([(.int .i64 (-1))] : List Cell)) 1 ([(.int .i64 1)] : List Cell)))) 9 (splice (splice (List.replicate 9 (Cell.int .i64 0)) 0 ([(.int .i64 2)] : List Cell)) 2 ([(.int .i64 0)] : List Cell))).length) 0 2)] : List Cell)).length) 0 2)] : List Cell)))], ((((h_2 ++ [some (Blk.mk true 1 (splice (splice [Cell.int .i64 0, Cell.int .i64 0] 0 ([(.int .i64 0)] : List Cell)) 1 ([(.int .i64 0)] : List Cell)))]) ++ [some (Blk.mk true 9 (splice (splice (List.replicate 18 (Cell.int .i64 0)) 0 (splice (splice (splice (List.replicate 9 (Cell.int .i64 0)) 0 ([(.int .i64 1)] : List Cell)) 2 ([(.int .i64 0)] : List Cell)) 3 (splice (splice [Cell.int .i64 0, Cell.int .i64 0] 0 ([(.int .i64 (-1))] : List Cell)) 1 ([(.int .i64 1)] : List Cell)))) 9 (splice (splice (List.replicate 9 (Cell.int .i64 0)) 0 ([(.int .i64 2)] : List Cell)) 2 ([(.int .i64 1)] : List Cell))))]) ++ [some (Blk.mk true 9 (splice (splice (List.replicate 18 (Cell.int .i64 0)) 0 (splice (splice (splice (List.replicate 9 (Cell.int .i64 0)) 0 ([(.int .i64 1)] : List Cell)) 2 ([(.int .i64 1)] : List Cell)) 3 (splice (splice [Cell.int .i64 0, Cell.int .i64 0] 0 ([(.int .i64 (-1))] : List Cell)) 1 ([(.int .i64 1)] : List Cell)))) 9 (splice (splice (List.replicate 9 (Cell.int .i64 0)) 0 ([(.int .i64 2)] : List Cell)) 2 ([(.int .i64 0)] : List Cell))))]) ++ [some (Blk.mk true 1 (splice (splice [Cell.nils, Cell.nils] 0 ([(.sl ((h_2 ++ [some (Blk.mk true 1 (splice (splice [Cell.int .i64 0, Cell.int .i64 0] 0 ([(.int .i64 0)] : List Cell)) 1 ([(.int .i64 0)] : List Cell)))]).length) ((splice (splice (List.replicate 18 (Cell.int .i64 0)) 0 (splice (splice (splice (List.replicate 9 (Cell.int .i64 0)) 0 ([(.int .i64 1)] : List Cell)) 2 ([(.int .i64 0)] : List Cell)) 3 (splice (splice [Cell.int .i64 0, Cell.int .i64 0] 0 ([(.int .i64 (-1))] : List Cell)) 1 ([(.int .i64 1)] : List Cell)))) 9 (splice (splice (List.replicate 9 (Cell.int .i64 0)) 0 ([(.int .i64 2)] : List Cell)) 2 ([(.int .i64 1)] : List Cell))).length) 0 2)] : List Cell)) 1 ([(.sl (((h_2 ++ [some (Blk.mk true 1 (splice (splice [Cell.int .i64 0, Cell.int .i64 0] 0 ([(.int .i64 0)] : List Cell)) 1 ([(.int .i64 0)] : List Cell)))]) ++ [some (Blk.mk true 9 (splice (splice (List.replicate 18 (Cell.int .i64 0)) 0 (splice (splice (splice (List.replicate 9 (Cell.int .i64 0)) 0 ([(.int .i64 1)] : List Cell)) 2 ([(.int .i64 0)] : List Cell)) 3 (splice (splice [Cell.int .i64 0, Cell.int .i64 0] 0 ([(.int .i64 (-1))] : List Cell)) 1 ([(.int .i64 1)] : List Cell)))) 9 (splice (splice (List.replicate 9 (Cell.int .i64 0)) 0 ([(.int .i64 2)] : List Cell)) 2 ([(.int .i64 1)] : List Cell))))]).length) ((splice (splice (List.replicate 18 (Cell.int .i64 0)) 0 (splice (splice (splice (List.replicate 9 (Cell.int .i64 0)) 0 ([(.int .i64 1)] : List Cell)) 2 ([(.int .i64 1)] : List Cell)) 3 (splice (splice [Cell.int .i64 0, Cell.int .i64 0] 0 ([(.int .i64 (-1))] : List Cell)) 1 ([(.int .i64 1)] : List Cell)))) 9 (splice (splice (List.replicate 9 (Cell.int .i64 0)) 0 ([(.int .i64 2)] : List Cell)) 2 ([(.int .i64 0)] : List Cell))).length) 0 2)] : List Cell)))])) else none else none else none else none else none else none else none else none else none else none else none else none else none else none else none else none := by kernel_rfl
end Jq

namespace Jq
open Go
variable (C : CallF) (L : LoopF) (G : Glo)
set_option maxRecDepth 100000 in
theorem q170_eq  (h0 : AHeap) : q170.body C L G [] h0 = c1 (C 187 [] h0) fun y_2 h_1 => asA y_2 fun l_3 => c2 (C 171 [(.agg l_3), (.c (.int .i64 2))] h_1) fun y_5 y_6 h_4 => asC y_5 fun x_7 => asI .i64 y_6 fun n_8 => eqNilK false x_7 .nilp fun b_9 => scK b_9 false (some ((n_8 != 0), h_4)) true h_4 fun b_10 h_11 => if b_10 = true then some ([(.c (.bool false))], h_11) else c2 (C 173 [(.c x_7), (.c (.int .i64 0))] h_11) fun y_13 y_14 h_12 => asA y_13 fun l_15 => asB y_14 fun b_16 => if 0 = 0 ∧ (List.replicate 7 (Cell.int .i64 0)).length = 7 ∧ l_15.length = 7 then c2 (C 173 [(.c x_7), (.c (.int .i64 5))] h_12) fun y_18 y_19 h_17 => asA y_18 fun l_20 => asB y_19 fun b_21 => if 0 = 0 ∧ (List.replicate 7 (Cell.int .i64 0)).length = 7 ∧ l_20.length = 7 then scK b_16 true (atK l_15 2 fun q_22 => asI .i64 (.c q_22) fun n_23 => some ((n_23 == 2), h_17)) false h_17 fun b_24 h_25 => scK b_24 true (atK l_15 6 fun q_26 => asI .i64 (.c q_26) fun n_27 => some ((n_27 == (-1)), h_25)) false h_25 fun b_28 h_29 => scK b_28 true (some ((!b_21), h_29)) false h_29 fun b_30 h_31 => scK b_30 true (c1 (C 172 [(.c x_7)] h_31) fun y_33 h_32 => asI .u64 y_33 fun n_34 => some ((n_34 == 19), h_32)) false h_31 fun b_35 h_36 => scK b_35 true (c1 (C 167 [(.c (.int .i64 13))] h_36) fun y_38 h_37 => asS y_38 fun z_39 => some ((ByteArray.toList z_39 == ByteArray.toList (ByteArray.mk #[102, 49, 46, 49])), h_37)) false h_36 fun b_40 h_41 => some ([(.c (.bool b_40))], h_41) else none else none := by kernel_rfl
def q183_k2 (C : CallF) (L : LoopF) (G : Glo) (h0 : AHeap) : Ex → St → Option (List AV × AHeap) := kSeq (fun st => q183_p1.exec C L G st (q183.fin G h0)) (q183.fin G h0)
def q183_k3 (C : CallF) (L : LoopF) (G : Glo) (h0 : AHeap) : Ex → St → Option (List AV × AHeap) := kBlk 0 (q183_k2 C L G h0)
def q183_s1 (k0 N0 : Nat) (o0 k1 : Nat) (N1 o1 : Nat) (x5 x6 : Cell) (a7 : Int) (h : AHeap) : St := ⟨.v (.c (.ptr k0 N0 o0)) :: .v (.c (.ptr k1 N1 o1)) :: tops 3 (.v (.c x5) :: .v (.c x6) :: .v (.c (.int .i64 a7)) :: tops 70 []), [], h⟩
def q183_F1 (C : CallF) (L : LoopF) (G : Glo) : St → Option (Ex × St) := roundF (fun st f => q183_b1.exec C L G st f) [0, 1, 5, 6, 7] [] [(0, [4], []), (1, [0, 1], [])]
def q183_x1_0 (b4 : Bool) (h : AHeap) : St := ⟨tops 4 (.v (.c (.bool b4)) :: tops 73 []), [], h⟩
def q183_x1_1 (k0 N0 : Nat) (o0 k1 : Nat) (N1 o1 : Nat) (h : AHeap) : St := ⟨.v (.c (.ptr k0 N0 o0)) :: .v (.c (.ptr k1 N1 o1)) :: tops 76 [], [], h⟩
def q183_k4 (C : CallF) (L : LoopF) (G : Glo) (h0 : AHeap) : Ex → St → Option (List AV × AHeap) := kSeq (fun st => q183_p2.exec C L G st (q183.fin G h0)) (q183.fin G h0)
def q183_k5 (C : CallF) (L : LoopF) (G : Glo) (h0 : AHeap) : Ex → St → Option (List AV × AHeap) := kBlk 2 (q183_k4 C L G h0)
def q183_s2 (k1 N1 o1 : Nat) (x8 : Cell) (a9 : Int) (h : AHeap) : St := ⟨tops 1 (.v (.c (.ptr k1 N1 o1)) :: tops 6 (.v (.c x8) :: .v (.c (.int .i64 a9)) :: tops 68 [])), [], h⟩
def q183_F2 (C : CallF) (L : LoopF) (G : Glo) : St → Option (Ex × St) := roundF (fun st f => q183_b2.exec C L G st f) [1, 8, 9] [] [(0, [4], []), (3, [], [])]
def q183_x2_0 (b4 : Bool) (h : AHeap) : St := ⟨tops 4 (.v (.c (.bool b4)) :: tops 73 []), [], h⟩
def q183_x2_3 (h : AHeap) : St := ⟨tops 78 [], [], h⟩
theorem q183_r1 (k0 N0 : Nat) (o0 k1 : Nat) (N1 o1 : Nat) (x5 x6 : Cell) (a7 : Int) (h : AHeap) : q183_F1 C L G (q183_s1 k0 N0 o0 k1 N1 o1 x5 x6 a7 h) = lenK x5 fun n_26 => if (decide (a7 < n_26)) = true then idxSK 1 x6 a7 fun k_27 N_28 o_29 => rdH h k_27 N_28 fun l_30 => atK l_30 o_29 fun q_31 => asI .i64 (.c q_31) fun n_32 => idxSK 1 x5 a7 fun k_33 N_34 o_35 => rdH h k_33 N_34 fun l_36 => atK l_36 o_35 fun q_37 => asI .i64 (.c q_37) fun n_38 => if (n_32 != n_38) = true then some (.ret, (q183_x1_0 false h)) else some (.normal, (q183_s1 k0 N0 o0 k1 N1 o1 x5 x6 (G.wrap .i64 (a7 + 1)) h)) else some ((.exit 0), (q183_x1_1 k0 N0 o0 k1 N1 o1 h)) := by kernel_rfl
theorem q183_e1_0 (h0 : AHeap) (b4 : Bool) (h : AHeap) : (q183_k3 C L G h0) .ret (q183_x1_0 b4 h) = some ([(.c (.bool b4))], h) := by kernel_rfl
theorem q183_r2 (k1 N1 o1 : Nat) (x8 : Cell) (a9 : Int) (h : AHeap) : q183_F2 C L G (q183_s2 k1 N1 o1 x8 a9 h) = lenK x8 fun n_46 => if (decide (a9 < n_46)) = true then idxSK 7 x8 a9 fun k_47 N_48 o_49 => rdH h k_47 N_48 fun l_50 => if o_49 + 7 ≤ l_50.length then rdH h k1 N1 fun l_51 => atK l_51 (o1 + 36) fun q_52 => idxSK 7 q_52 a9 fun k_53 N_54 o_55 => rdH h k_53 N_54 fun l_56 => if o_55 + 7 ≤ l_56.length then if alike ((l_50.drop o_49).take 7) (List.replicate 7 (Cell.int .i64 0)) = true ∧ alike ((l_56.drop o_55).take 7) (List.replicate 7 (Cell.int .i64 0)) = true then if (!(decide (((l_50.drop o_49).take 7) = ((l_56.drop o_55).take 7)))) = true then some (.ret, (q183_x2_0 false h)) else some (.normal, (q183_s2 k1 N1 o1 x8 (G.wrap .i64 (a9 + 1)) h)) else none else none else none else some ((.exit 2), (q183_x2_3 h)) := by kernel_rfl
theorem q183_e2_0 (h0 : AHeap) (b4 : Bool) (h : AHeap) : (q183_k5 C L G h0) .ret (q183_x2_0 b4 h) = some ([(.c (.bool b4))], h) := by kernel_rfl
theorem q183_e2_3 (h0 : AHeap) (h : AHeap) : (q183_k5 C L G h0) (.exit 2) (q183_x2_3 h) = some ([(.c (.bool true))], h) := by kernel_rfl
theorem q183_e1_1 (h0 : AHeap) (k0 N0 : Nat) (o0 k1 : Nat) (N1 o1 : Nat) (h : AHeap) : (q183_k3 C L G h0) (.exit 0) (q183_x1_1 k0 N0 o0 k1 N1 o1 h) = c1 (C 175 [(.c (.ptr k0 N0 o0))] h) fun y_40 h_39 => asC y_40 fun x_41 => lenK x_41 fun n_42 => rdH h_39 k1 N1 fun l_43 => atK l_43 (o1 + 36) fun q_44 => lenK q_44 fun n_45 => if (n_42 != n_45) = true then some ([(.c (.bool false))], h_39) else (L (q183_F2 C L G) (q183_s2 k1 N1 o1 x_41 0 h_39)).bind fun p_57 => (q183_k5 C L G h0) p_57.1 p_57.2 := by kernel_rfl
set_option maxRecDepth 100000 in
theorem q183_eq (k0 N0 : Nat) (o0 k1 : Nat) (N1 o1 : Nat) (h0 : AHeap) : q183.body C L G [(.c (.ptr k0 N0 o0)), (.c (.ptr k1 N1 o1))] h0 = c1 (C 181 [(.c (.ptr k1 N1 o1))] h0) fun y_2 h_1 => asC y_2 fun x_3 => c1 (C 172 [(.c (.ptr k0 N0 o0))] h_1) fun y_5 h_4 => asI .u64 y_5 fun n_6 => c1 (C 32 [(.c (.int .u64 n_6))] h_4) fun y_8 h_7 => asC y_8 fun x_9 => lenK x_9 fun n_10 => lenK x_3 fun n_11 => scK (n_10 != n_11) false (c1 (C 174 [(.c (.ptr k0 N0 o0))] h_7) fun y_13 h_12 => asB y_13 fun b_14 => lenK x_3 fun n_15 => some ((!(b_14 == (n_15 == 0))), h_12)) true h_7 fun b_16 h_17 => scK b_16 false (c1 (C 179 [(.c (.ptr k0 N0 o0))] h_17) fun y_19 h_18 => asA y_19 fun l_20 => c1 (C 199 [(.c (.ptr k1 N1 o1))] h_18) fun y_22 h_21 => asA y_22 fun l_23 => if alike l_20 (List.replicate 20 (Cell.int .i64 0)) = true ∧ alike l_23 (List.replicate 20 (Cell.int .i64 0)) = true then some ((!(decide (l_20 = l_23))), h_21) else none) true h_17 fun b_24 h_25 => if b_24 = true then some ([(.c (.bool false))], h_25) else (L (q183_F1 C L G) (q183_s1 k0 N0 o0 k1 N1 o1 x_3 x_9 0 h_25)).bind fun p_58 => (q183_k3 C L G h0) p_58.1 p_58.2 := by kernel_rfl
def q185_k2 (C : CallF) (L : LoopF) (G : Glo) (h0 : AHeap) : Ex → St → Option (List AV × AHeap) := kSeq (fun st => q185_p1.exec C L G st (q185.fin G h0)) (q185.fin G h0)
def q185_k3 (C : CallF) (L : LoopF) (G : Glo) (h0 : AHeap) : Ex → St → Option (List AV × AHeap) := kBlk 0 (q185_k2 C L G h0)
def q185_s1 (x3 x4 : Cell) (a5 : Int) (h : AHeap) : St := ⟨tops 3 (.v (.c x3) :: .v (.c x4) :: .v (.c (.int .i64 a5)) :: tops 17 []), [], h⟩
def q185_F1 (C : CallF) (L : LoopF) (G : Glo) : St → Option (Ex × St) := roundF (fun st f => q185_b1.exec C L G st f) [3, 4, 5] [] [(1, [3], [])]
def q185_x1_1 (x3 : Cell) (h : AHeap) : St := ⟨tops 3 (.v (.c x3) :: tops 19 []), [], h⟩
theorem q185_r1 (x3 x4 : Cell) (a5 : Int) (h : AHeap) : q185_F1 C L G (q185_s1 x3 x4 a5 h) = lenK x4 fun n_4 => if (decide (a5 < n_4)) = true then idxSK 7 x4 a5 fun k_5 N_6 o_7 => rdH h k_5 N_6 fun l_8 => atK l_8 (o_7 + 0) fun q_9 => asI .i64 (.c q_9) fun n_10 => if (splice [Cell.int .i64 0] 0 ([(.int .i64 n_10)] : List Cell)).length = 1 * 1 then appK 1 8 x3 (splice [Cell.int .i64 0] 0 ([(.int .i64 n_10)] : List Cell)) h fun x_11 h_12 => some (.normal, (q185_s1 x_11 x4 (G.wrap .i64 (a5 + 1)) h_12)) else none else some ((.exit 0), (q185_x1_1 x3 h)) := by kernel_rfl
theorem q185_e1_1 (h0 : AHeap) (x3 : Cell) (h : AHeap) : (q185_k3 C L G h0) (.exit 0) (q185_x1_1 x3 h) = some ([(.c x3)], h) := by kernel_rfl
set_option maxRecDepth 100000 in
theorem q185_eq (k0 N0 o0 : Nat) (h0 : AHeap) : q185.body C L G [(.c (.ptr k0 N0 o0))] h0 = c1 (C 175 [(.c (.ptr k0 N0 o0))] h0) fun y_2 h_1 => asC y_2 fun x_3 => (L (q185_F1 C L G) (q185_s1 .nils x_3 0 h_1)).bind fun p_13 => (q185_k3 C L G h0) p_13.1 p_13.2 := by kernel_rfl
def q223_k2 (C : CallF) (L : LoopF) (G : Glo) (h0 : AHeap) : Ex → St → Option (List AV × AHeap) := kSeq (fun st => q223_p1.exec C L G st (q223.fin G h0)) (q223.fin G h0)
def q223_k3 (C : CallF) (L : LoopF) (G : Glo) (h0 : AHeap) : Ex → St → Option (List AV × AHeap) := kBlk 0 (q223_k2 C L G h0)
def q223_s1 (a1 : Int) (x2 : Cell) (a3 : Int) (x10 x12 x13 : Cell) (a14 : Int) (s0 : List Cell) (h : AHeap) : St := ⟨tops 1 (.v (.c (.int .i64 a1)) :: .v (.c x2) :: .v (.c (.int .i64 a3)) :: tops 5 (.loc 0 0 :: .v (.c x10) :: tops 1 (.v (.c x12) :: .v (.c x13) :: .v (.c (.int .i64 a14)) :: tops 82 []))), [some s0], h⟩
def q223_F1 (C : CallF) (L : LoopF) (G : Glo) : St → Option (Ex × St) := roundF (fun st f => q223_b1.exec C L G st f) [1, 2, 3, 9, 10, 12, 13, 14] [0] [(1, [12, 13], [])]
def q223_x1_1 (x12 x13 : Cell) (h : AHeap) : St := ⟨tops 12 (.v (.c x12) :: .v (.c x13) :: tops 83 []), [none], h⟩
theorem q223_r1 (a1 : Int) (x2 : Cell) (a3 : Int) (x10 x12 x13 : Cell) (a14 : Int) (s0 : List Cell) (h : AHeap) : q223_F1 C L G (q223_s1 a1 x2 a3 x10 x12 x13 a14 s0 h) = lenK x2 fun n_16 => scK (decide (a14 < n_16)) true (some ((decide (a14 < 50)), h)) false h fun b_17 h_18 => if b_17 = true then c1 (C 172 [(.c x10)] h_18) fun y_20 h_19 => asI .u64 y_20 fun n_21 => c1 (C 32 [(.c (.int .u64 n_21))] h_19) fun y_23 h_22 => asC y_23 fun x_24 => lenK x_24 fun n_25 => if (n_25 == 0) = true then some ((.exit 0), (q223_x1_1 x12 x13 h_22)) else if (a14 == a3) = true then c1 (C 184 [(.c x10)] h_22) fun y_27 h_26 => asC y_27 fun x_28 => if 0 = 0 ∧ s0.length = 3 then c1 (C 185 [(.c x10)] h_26) fun y_30 h_29 => asC y_30 fun x_31 => c2 (C 186 [(.agg s0), (.c (.int .i64 a1)), (.c x_31)] h_29) fun y_33 y_34 h_32 => asC y_33 fun x_35 => asI .i64 y_34 fun n_36 => idxSK 1 x2 a14 fun k_37 N_38 o_39 => rdH h_32 k_37 N_38 fun l_40 => atK l_40 o_39 fun q_41 => asI .i64 (.c q_41) fun n_42 => lenK x_24 fun n_43 => if n_43 = 0 then none else idxSK 1 x_24 (G.rem .i64 (G.band .i64 n_42 255) n_43) fun k_44 N_45 o_46 => rdH h_32 k_44 N_45 fun l_47 => atK l_47 o_46 fun q_48 => asI .i64 (.c q_48) fun n_49 => c2 (C 173 [(.c x10), (.c (.int .i64 n_49))] h_32) fun y_51 y_52 h_50 => asA y_51 fun l_53 => asB y_52 fun b_54 => some (.normal, (q223_s1 a1 x2 a3 x10 x_28 x_35 (G.wrap .i64 (a14 + 1)) s0 h_50)) else none else idxSK 1 x2 a14 fun k_55 N_56 o_57 => rdH h_22 k_55 N_56 fun l_58 => atK l_58 o_57 fun q_59 => asI .i64 (.c q_59) fun n_60 => lenK x_24 fun n_61 => if n_61 = 0 then none else idxSK 1 x_24 (G.rem .i64 (G.band .i64 n_60 255) n_61) fun k_62 N_63 o_64 => rdH h_22 k_62 N_63 fun l_65 => atK l_65 o_64 fun q_66 => asI .i64 (.c q_66) fun n_67 => c2 (C 173 [(.c x10), (.c (.int .i64 n_67))] h_22) fun y_69 y_70 h_68 => asA y_69 fun l_71 => asB y_70 fun b_72 => some (.normal, (q223_s1 a1 x2 a3 x10 x12 x13 (G.wrap .i64 (a14 + 1)) s0 h_68)) else some ((.exit 0), (q223_x1_1 x12 x13 h_18)) := by kernel_rfl
theorem q223_e1_1 (h0 : AHeap) (x12 x13 : Cell) (h : AHeap) : (q223_k3 C L G h0) (.exit 0) (q223_x1_1 x12 x13 h) = eqNilK false x12 .nilp fun b_73 => scK b_73 false (c1 (C 183 [(.c x12), (.c x13)] h) fun y_75 h_74 => asB y_75 fun b_76 => scK b_76 true (c1 (C 184 [(.c x12)] h_74) fun y_78 h_77 => asC y_78 fun x_79 => c1 (C 183 [(.c x_79), (.c x13)] h_77) fun y_81 h_80 => asB y_81 fun b_82 => some (b_82, h_80)) false h_74 fun b_83 h_84 => some (b_83, h_84)) true h fun b_85 h_86 => scK b_85 true (c1 (C 170 [] h_86) fun y_88 h_87 => asB y_88 fun b_89 => some (b_89, h_87)) false h_86 fun b_90 h_91 => some ([(.c (.bool b_90))], h_91) := by kernel_rfl
set_option maxRecDepth 100000 in
theorem q223_eq (x0 : Cell) (a1 : Int) (x2 : Cell) (a3 : Int) (h0 : AHeap) : q223.body C L G [(.c x0), (.c (.int .i64 a1)), (.c x2), (.c (.int .i64 a3))] h0 = c1 (C 76 [(.c x0), (.c (.int .i64 10))] h0) fun y_2 h_1 => asA y_2 fun l_3 => if 0 = 0 ∧ [Cell.nils, Cell.nils, Cell.nils].length = 3 ∧ l_3.length = 3 then let v_4 : Int := (G.wrap .i64 ((G.rem .i64 (G.band .i64 a1 255) 3) + 1)); if 0 = 0 ∧ l_3.length = 3 then c2 (C 171 [(.agg l_3), (.c (.int .i64 v_4))] h_1) fun y_6 y_7 h_5 => asC y_6 fun x_8 => asI .i64 y_7 fun n_9 => eqNilK false x_8 .nilp fun b_10 => scK b_10 false (some ((n_9 != 0), h_5)) true h_5 fun b_11 h_12 => if b_11 = true then some ([(.c (.bool false))], h_12) else if 0 = 0 ∧ l_3.length = 3 then c1 (C 180 [(.agg l_3), (.c (.int .i64 v_4))] h_12) fun y_14 h_13 => asC y_14 fun x_15 => (L (q223_F1 C L G) (q223_s1 v_4 x2 (G.band .i64 a3 31) x_8 .nilp x_15 0 l_3 h_13)).bind fun p_92 => (q223_k3 C L G h0) p_92.1 p_92.2 else none else none else none := by kernel_rfl
end Jq

namespace Jq
open Go
section
variable {E : Env}
def sbC (a b : Int) : List Ins := [⟨1, 0, a, ⟨-1, 1⟩, 0, ⟨0, 0⟩, 0⟩, ⟨2, 0, b, ⟨0, 0⟩, 0, ⟨0, 0⟩, 0⟩]
def sbP : PProg := ⟨[120, 121], [0, 0], [sbC 0 1, sbC 1 0]⟩
theorem SB_R (hE : q187_In E) (h : AHeap) : ∃ cs h', R E 187 [] h = some ([.agg cs], h') ∧ ProgAt h' cs sbP ∧ Kp h.length h h' := by
  have hmark : ∀ {α : Type} (f : Cell → AHeap → Option α), markK (.sl h.length ((splice (splice [Cell.int .u8 0, Cell.int .u8 0] 0 ([(.int .u8 120)] : List Cell)) 1 ([(.int .u8 121)] : List Cell)).length) 0 2) (h ++ [some (Blk.mk true 1 (splice (splice [Cell.int .u8 0, Cell.int .u8 0] 0 ([(.int .u8 120)] : List Cell)) 1 ([(.int .u8 121)] : List Cell)))]) f = f (.sl h.length 2 0 2) (h ++ [some ⟨false, 1, intC .u8 [120, 121]⟩]) := by
    intro α f
    unfold markK
    simp only
    rw [blk_new, Option.bind_some]
    dsimp only
    rw [if_pos ⟨rfl, rfl⟩, setBlk_last]; rfl
  generalize h1 : h ++ [some (Blk.mk false 1 (intC .u8 [120, 121]))] = H1 at hmark
  generalize h2 : H1 ++ [some (Blk.mk true 1 (intC .i64 [0, 0]))] = H2
  generalize h3 : H2 ++ [some (Blk.mk true 9 (codeC (sbC 0 1)))] = H3
  generalize h4 : H3 ++ [some (Blk.mk true 9 (codeC (sbC 1 0)))] = H4
  generalize h5 : H4 ++ [some (Blk.mk true 1 [Cell.sl H2.length 18 0 2, .sl H3.length 18 0 2])] = H5
  have n1 : H1.length = h.length + 1 := by rw [← h1]; simp
  have n2 : H2.length = h.length + 2 := by rw [← h2, List.length_append, n1]; simp
  have n3 : H3.length = h.length + 3 := by rw [← h3, List.length_append, n2]; simp
  have n4 : H4.length = h.length + 4 := by rw [← h4, List.length_append, n3]; simp
  have n5 : H5.length = h.length + 5 := by rw [← h5, List.length_append, n4]; simp
  have b1 : blk? H5 h.length = some ⟨false, 1, intC .u8 [120, 121]⟩ := by
    rw [← h5, ← h4, ← h3, ← h2, ← h1]
    exact blk_old (blk_old (blk_old (blk_old (blk_new _ _) _) _) _) _
  have b2 : blk? H5 H1.length = some ⟨true, 1, intC .i64 [0, 0]⟩ := by
    rw [← h5, ← h4, ← h3, ← h2]
    exact blk_old (blk_old (blk_old (blk_new _ _) _) _) _
  have b3 : blk? H5 H2.length = some ⟨true, 9, codeC (sbC 0 1)⟩ := by
    rw [← h5, ← h4, ← h3]
    exact blk_old (blk_old (blk_new _ _) _) _
  have b4 : blk? H5 H3.length = some ⟨true, 9, codeC (sbC 1 0)⟩ := by
    rw [← h5, ← h4]
    exact blk_old (blk_new _ _) _
  have b5 : blk? H5 H4.length = some ⟨true, 1, [Cell.sl H2.length 18 0 2, .sl H3.length 18 0 2]⟩ := by
    rw [← h5]
    exact blk_new _ _
  have kk : Kp h.length h H5 := by
    rw [← h5, ← h4, ← h3, ← h2, ← h1]
    simp only [List.append_assoc]
    exact Kp.app _ (Nat.le_refl _)
  refine ⟨[.sl h.length 2 0 2, .sl H1.length 2 0 2, .sl H4.length 2 0 2], H5, R_intro hE.fn ?_, ⟨_, _, _, [Cell.sl H2.length 18 0 2, .sl H3.length 18 0 2], rfl, ⟨SlAt.whole b1 rfl, .inr (by omega)⟩, ⟨SlAt.whole b2 rfl, .inr (by omega)⟩, ⟨SlAt.whole b5 rfl, .inr (by omega)⟩, fun t code ht => ?_⟩, kk⟩
  · rw [q187_eq, if_pos ⟨rfl, rfl, rfl⟩, if_pos (by rfl), hmark]
    rw [← h5, ← h4, ← h3, ← h2]
    kernel_rfl
  · match t with
    | 0 => cases ht; exact ⟨_, rfl, SlAt.whole b3 rfl, .inr (by omega)⟩
    | 1 => cases ht; exact ⟨_, rfl, SlAt.whole b4 rfl, .inr (by omega)⟩
    | t + 2 => simp [sbP] at ht
theorem small_R (hE : q48_In E) (h : AHeap) : ∀ n : Nat, n < 4 → R E 48 [.c (.int .i64 (n : Int))] h = some ([.c (.str (ByteArray.mk #[UInt8.ofNat (48 + n)]))], h)
  | 0, _ => R_intro hE.fn ((q48_eq (R E) Lim E.glob 0 h).trans (by kernel_rfl))
  | 1, _ => R_intro hE.fn ((q48_eq (R E) Lim E.glob 1 h).trans (by kernel_rfl))
  | 2, _ => R_intro hE.fn ((q48_eq (R E) Lim E.glob 2 h).trans (by kernel_rfl))
  | 3, _ => R_intro hE.fn ((q48_eq (R E) Lim E.glob 3 h).trans (by kernel_rfl))
  | n + 4, h => by omega
theorem Itoa_R (hE : q45_In E) (h : AHeap) {n : Nat} (hn : n < 4) : R E 45 [.c (.int .i64 (n : Int))] h = some ([.c (.str (ByteArray.mk #[UInt8.ofNat (48 + n)]))], h) :=
  Itoa_of hE (by omega) (small_R hE.c46.c47.c48 h n hn)
def nameOf (i : Int) : ByteArray :=
  if i < 0 ∨ i ≥ 24 then ByteArray.mk #[]
  else if i < 4 then ByteArray.mk #[116] ++ ByteArray.mk #[UInt8.ofNat (48 + i.toNat)]
  else if i < 8 then ByteArray.mk #[102] ++ ByteArray.mk #[UInt8.ofNat (48 + (i.toNat - 4))]
  else ((ByteArray.mk #[102] ++ ByteArray.mk #[UInt8.ofNat (48 + (i.toNat - 8) / 4)]) ++ ByteArray.mk #[46]) ++ ByteArray.mk #[UInt8.ofNat (48 + (i.toNat - 8) % 4)]
theorem one_size (n : Nat) : (ByteArray.mk #[UInt8.ofNat n]).size = 1 := rfl
theorem VName_R (hE : q167_In E) (i : Int) (h : AHeap) : R E 167 [.c (.int .i64 i)] h = some ([.c (.str (nameOf i))], h) := by
  refine R_intro hE.fn ?_
  rw [q167_eq, scK_or]
  unfold nameOf
  by_cases h0 : i < 0 ∨ i ≥ 24
  · rw [if_pos (by simp; omega), if_pos h0]
  · rw [if_neg (by simp; omega), if_neg h0]
    obtain ⟨n, rfl⟩ := Int.eq_ofNat_of_zero_le (show 0 ≤ i by omega)
    rw [Int.toNat_natCast]
    by_cases h4 : n < 4
    · rw [if_pos (by simp; omega), if_pos (by omega), Itoa_R hE.c45 _ h4, c1_ok, asS_ok, if_pos (by rw [one_size]; decide)]
    · rw [if_neg (by simp; omega), if_neg (c := ((n : Int) < 4)) (by omega)]
      by_cases h8 : n < 8
      · rw [if_pos (by simp; omega), if_pos (c := ((n : Int) < 8)) (by omega), g_wrap_i64 (by omega) (by omega), show ((n : Int) - 4) = ((n - 4 : Nat) : Int) by omega, Itoa_R hE.c45 _ (by omega), c1_ok, asS_ok, if_pos (by rw [one_size]; decide)]
      · rw [if_neg (by simp; omega), if_neg (c := ((n : Int) < 8)) (by omega), g_wrap_i64 (by omega) (by omega), show ((n : Int) - 8) = ((n - 8 : Nat) : Int) by omega, g_quo, g_rem, Int.tdiv_eq_ediv_of_nonneg (by omega), Int.tmod_eq_emod_of_nonneg (by omega),
          show (((n - 8 : Nat) : Int) / 4) = (((n - 8) / 4 : Nat) : Int) by omega, show (((n - 8 : Nat) : Int) % 4) = (((n - 8) % 4 : Nat) : Int) by omega, wrap_i64 (by omega) (by omega), Itoa_R hE.c45 _ (by omega), c1_ok, asS_ok,
          if_pos (by rw [one_size]; decide), if_pos (by rw [ByteArray.size_append, one_size]; decide), Itoa_R hE.c45 _ (by omega), c1_ok, asS_ok, if_pos (by rw [ByteArray.size_append, ByteArray.size_append, one_size, one_size]; decide)]
theorem sb_small : sbP.small := ⟨by decide, fun c hc => by
  simp [sbP] at hc
  rcases hc with rfl | rfl <;> decide⟩
def sbV : MV := MV.new sbP 2
theorem sb_may0 : sbV.may 0 = true := by decide +kernel
theorem sb_kind : (sbV.stp 0).kind = 2 ∧ (sbV.stp 0).frm = -1 := by decide +kernel
theorem sb_may5 : hasI (sbV.nx 0).word 5 = false := by decide +kernel
theorem sb_word : (sbV.nx 0).word = 19 := by decide +kernel
theorem sb_name : (ByteArray.toList (nameOf 13) == ByteArray.toList (ByteArray.mk #[102, 49, 46, 49])) = true := by kernel_rfl
theorem sb_pok : pokB sbP = true := by decide +kernel
theorem sb_fld : ∀ c ∈ sbP.thr, ∀ i ∈ c, fldB (hasB sbP) i = true := by decide +kernel
theorem sb_inv : sbV.Inv := MV.new_inv (by omega) sb_small sb_fld (by decide) (by decide) (fun c hc => by
  simp [sbP] at hc
  rcases hc with rfl | rfl <;> decide)
theorem awake16_R (hE : q170_In E) (h : AHeap) : ∃ h', R E 170 [] h = some ([.c (.bool true)], h') ∧ Kp h.length h h' := by
  obtain ⟨cs, h1, r1, p1, k1⟩ := SB_R hE.c187 h
  obtain ⟨n, k, pc, h2, r2, a2, n2, k2⟩ := VNew_R hE.c171 p1 sb_small (by decide) (by decide) (by decide) (m := 2) (by omega) sb_pok
  obtain ⟨x3, h3, r3, a3, k3⟩ := Pick_R hE.c173 a2 sb_inv (by show 0 < 100000; omega) (i := 0) sb_may0
  have v3 := sb_inv.nx sb_may0
  have r4 := Pick_no hE.c173 a3 v3 sb_may5
  have r5 := Enabled_R hE.c172 a3.blk v3.fit (prog_at a3.prog a3.hn (Kp.refl n h3))
  refine ⟨h3, R_intro hE.fn ?_, (k1.trans (k2.mono k1.1)).trans (k3.kp.mono (Nat.le_trans k1.1 n2))⟩
  have e0 : ∀ {α : Type} (f : Bool → Option α), eqNilK false (.ptr k 329 0) .nilp f = f false := fun _ => rfl
  have f1 : ((MV.new sbP 2).stp 0).kind = 2 := sb_kind.1
  have f2 : ((MV.new sbP 2).stp 0).frm = -1 := sb_kind.2
  have f3 : ((MV.new sbP 2).nx 0).word = 19 := sb_word
  rw [q170_eq, r1, c1_ok, asA_ok, r2, c2_ok, asC_ok, asI_ok, e0, scK_or, show (false || ((0 : Int) != 0)) = false from rfl, if_neg (by simp), show (0 : Int) = ((0 : Nat) : Int) from rfl, r3, c2_ok, asA_ok, asB_ok, if_pos (by exact ⟨rfl, rfl, rfl⟩),
    r4, c2_ok, asA_ok, asB_ok, if_pos (by exact ⟨rfl, rfl, rfl⟩), scK_ok, stp_kind, asI_ok, f1, bind_ok]
  dsimp only
  rw [show ((2 : Int) == 2) = true from rfl, scK_ok, stp_frm, asI_ok, f2, bind_ok]
  dsimp only
  rw [show ((-1 : Int) == -1) = true from rfl, scK_and, show (true && !false) = true from rfl, scK_ok, r5, c1_ok, asI_ok, f3, bind_ok]
  dsimp only
  rw [show ((((19 : Nat) : Int)) == 19) = true from rfl, scK_ok, VName_R hE.c167, c1_ok, asS_ok, sb_name, bind_ok]
end
end Jq

namespace Jq
open Go
theorem locs_rise (S : Nat → Bool) (n : Nat) : (locsF S n).Pairwise (· < ·) := by
  unfold locsF
  refine List.Pairwise.map _ (fun a b (hab : a < b) => ?_) (List.Pairwise.filter _ List.pairwise_lt_range)
  omega
theorem locs_ok (S : Nat → Bool) : (List.range (locsF S 26).length).any (atB (locsF S 26) (locBad (locsF S 26))) = false := by
  have hp := locs_rise S 26
  have hm : ∀ x ∈ locsF S 26, 97 ≤ x ∧ x ≤ 122 := fun x h => by
    obtain ⟨c, h1, _, rfl⟩ := locsF_mem.1 h
    omega
  generalize locsF S 26 = l at *
  rw [List.any_eq_false]
  intro i hi
  rw [List.mem_range] at hi
  rw [atB_ok (List.getElem?_eq_getElem hi)]
  have h1 := hm _ (List.getElem_mem hi)
  have h2 : 0 < i → l.getD (i - 1) 0 < l[i] := fun h0 => by
    rw [List.getD_eq_getElem?_getD, List.getElem?_eq_getElem (by omega)]
    exact List.pairwise_iff_getElem.1 hp (i - 1) i (by omega) hi (by omega)
  unfold locBad locB
  rw [decide_eq_true h1.1, decide_eq_true h1.2]
  by_cases h0 : 0 < i
  · have := h2 h0
    rw [decide_eq_false (p := l[i] ≤ _) (by omega)]; simp
  · rw [decide_eq_false (p := (i : Int) > 0) (by omega)]; simp
theorem sumLen_le {c : Nat} : ∀ l : List (List Ins), (∀ x ∈ l, x.length ≤ c) → (l.map List.length).sum ≤ l.length * c
  | [], _ => by simp
  | x :: l, h => by
    have := sumLen_le l fun y hy => h y (List.mem_cons_of_mem _ hy)
    have h1 := h x List.mem_cons_self
    rw [List.map_cons, List.sum_cons, List.length_cons, Nat.succ_mul]; omega
theorem opdOk.opB {o : Opd} (h : opdOk o) : opB o = true := by
  unfold Jq.opB regB
  rcases h with ⟨h1, _⟩ | ⟨h1 | h1, h2⟩ <;> rw [h1] <;> simp [*]
theorem SmI.fld {L : Int} {T : PTest} {i : Ins} (s : SmI L i) (hin : i.loc ≠ 0 → i.loc ∈ locsT T) : fldB (hasB (compT T)) (compI (locsT T) i) = true := by
  have hl : i.loc ≠ 0 → compI (locsT T) i = { i with loc := plc (locsT T) i.loc 0 } ∧ hasB (compT T) (plc (locsT T) i.loc 0) = true := fun h => by
    refine ⟨by unfold compI; rw [if_pos h], ?_⟩
    obtain ⟨j, hj, hg⟩ := plc_get (locsT T) 0 (hin h)
    have := getI_lt hg
    rw [hj]
    unfold hasB
    rw [show (compT T).locs = locsT T from rfl, decide_eq_true (by omega), decide_eq_true (by omega)]; rfl
  rcases s with ⟨h1, h2, h3, h4, h5, h6, h7⟩ | ⟨h1, h2, h3, h4, h5, h6, h7⟩ | rfl | ⟨h1, h2, h3, h4, h5, h6, h7⟩ | ⟨h1, h2, h3, h4, h5, h6, h7⟩ | ⟨h1, h2, h3, h4, h5, h6, h7⟩
  · obtain ⟨e, hh⟩ := hl (by omega)
    rw [e]
    unfold fldB
    dsimp only
    rw [if_pos h1, hh, h4.opB, h1, h2, h5, h6, h7]
    simp [Ins.cs]
  · obtain ⟨e, hh⟩ := hl (by omega)
    rw [e]
    unfold fldB regB
    dsimp only
    rw [if_neg (by omega), if_pos h1, hh, h1, h4, h5, h6, h7, decide_eq_true (by omega), decide_eq_true (by omega)]
    simp [Ins.cs]
  · rfl
  · obtain ⟨e, hh⟩ := hl (by omega)
    rw [e]
    unfold fldB regB
    dsimp only
    rw [if_neg (by omega), if_neg (by omega), if_neg (by omega), if_pos h1, hh, h4.opB, h1, h5, h6, h7, decide_eq_true (by omega), decide_eq_true (by omega)]
    simp [Ins.cs, opB]
  · have e : compI (locsT T) i = i := by unfold compI; rw [if_neg (by omega)]
    rw [e]
    unfold fldB regB
    rw [if_neg (by omega), if_neg (by omega), if_neg (by omega), if_neg (by omega), if_pos h1, h4.opB, h1, h5, h6, decide_eq_true (by omega), decide_eq_true (by omega)]
    simp [Ins.cs, opB, h1, h3, h5, h6, h7]
  · have e : compI (locsT T) i = i := by unfold compI; rw [if_neg (by omega)]
    rw [e]
    unfold fldB
    rw [if_neg (by omega), if_neg (by omega), if_neg (by omega), if_neg (by omega), if_neg (by omega), if_pos h1, h4.opB, h1, h6, h7]
    simp [Ins.cs, opB, h1, h2, h3, h5, h6, h7]
theorem there_loc {T : PTest} {c : List Ins} (hc : c ∈ T.thr) {i : Ins} (hi : i ∈ c) (hl : 97 ≤ i.loc ∧ i.loc ≤ 122) : i.loc ∈ locsT T := by
  unfold locsT
  refine locsF_mem.2 ⟨(i.loc - 97).toNat, by omega, ?_, by omega⟩
  unfold thereT
  rw [Bool.or_eq_true, Bool.or_eq_true]
  refine .inl (.inr (List.any_eq_true.2 ⟨c, hc, List.any_eq_true.2 ⟨i, hi, ?_⟩⟩))
  rw [beq_iff_eq]; omega
theorem SkipOk.jmp {c : List Ins} (s : SkipOk c) (h1 : ∀ i ∈ c, i.kind = 6 → i.n = 1) : jmpB c = true := by
  unfold jmpB
  rw [List.all_eq_true]
  intro k hk
  cases hq : c[k]? with
  | none => rfl
  | some i =>
    dsimp only
    by_cases h6 : i.kind = 6
    · have a := s k i hq h6
      have b := h1 i (List.mem_of_getElem? hq) h6
      rw [decide_eq_false (p := i.n < 1) (by omega), decide_eq_false (p := i.n > _) (by omega)]; simp
    · rw [beq_false_of_ne h6]; rfl
structure RunP (P : PProg) : Prop where
  pok : pokB P = true
  fld : ∀ c ∈ P.thr, ∀ i ∈ c, fldB (hasB P) i = true
theorem GoodT.run {most : Nat} {T : PTest} (g : GoodT most T) : RunP (compT T) := by
  have gp := g.goodP
  obtain ⟨L, hL, hc⟩ := g.code
  have hf : ∀ c ∈ (compT T).thr, ∀ i ∈ c, fldB (hasB (compT T)) i = true := fun c hcm i hi => by
    obtain ⟨d, hd, rfl⟩ := List.mem_map.1 hcm
    obtain ⟨j, hj, rfl⟩ := List.mem_map.1 hi
    obtain ⟨k, hk, ht⟩ := hc d hd
    have := ht.all j hj
    refine this.fld fun h0 => there_loc hd hj ?_
    have := this.loc; omega
  refine ⟨?_, hf⟩
  have hgn := gp.n
  have hgl := gp.locs
  have hgi := gp.init
  have hsum := sumLen_le (c := 6) (compT T).thr gp.code
  have hs : sizeBad (compT T) = false := by
    unfold sizeBad sumL
    rw [beq_false_of_ne (by omega), decide_eq_false (p := ((compT T).thr.length : Int) > 4) (by omega), decide_eq_false (p := ((compT T).locs.length : Int) > 4) (by omega), decide_eq_false (p := _ > (24 : Int)) (by omega), show (((compT T).init.length : Int) != ((compT T).locs.length : Int)) = false by simp [hgl]]
    rfl
  unfold pokB
  rw [if_neg (by rw [hs]; simp), if_neg (by rw [show (compT T).locs = locsF (thereT T) 26 from rfl, locs_ok]; simp), Bool.not_eq_true', List.any_eq_false]
  intro c hcm
  have hj : jmpB c = true := (gp.skip c hcm).jmp fun i hi h6 => by
    obtain ⟨d, hd, rfl⟩ := List.mem_map.1 hcm
    obtain ⟨j, hj, rfl⟩ := List.mem_map.1 hi
    obtain ⟨k, hk, ht⟩ := hc d hd
    rw [compI_kn.1] at h6
    rw [compI_kn.2]
    exact (ht.all j hj).skip h6
  have hcl := gp.code c hcm
  unfold thrBad
  rw [hj, decide_eq_false (by omega), show (c.any fun i => !fldB (hasB (compT T)) i) = false by
    rw [List.any_eq_false]; intro i hi; rw [hf c hcm i hi]; simp]
  simp
section
variable {E : Env}
theorem OfO_R (hE : q76_In E) {h : AHeap} {x : Cell} {l : List Int} (hx : SlAt h x 1 (intC .i64 l) l.length) (hlow : Low h.length x) (hl : l.length < 9223372036854775808) {most : Nat} (hmost : most ≤ 900) :
    ∃ (cs : List Cell) (h' : AHeap) (P : PProg), R E 76 [.c x, .c (.int .i64 (most : Int))] h = some ([.agg cs], h') ∧ ProgOwn h.length h' cs P ∧ GoodP most P ∧ RunP P ∧ (∀ x ∈ P.locs, 0 ≤ x ∧ x < 256) ∧ Kp h.length h h' := by
  obtain ⟨cs, h1, T, s1, s2, s3, s4⟩ := Small_R hE.c97 hx hlow hl hmost
  obtain ⟨cs2, h2, t1, t2, t3⟩ := refCompile_S hE.c101 s2 s3.small
  refine ⟨cs2, h2, compT T, R_intro hE.fn ?_, by obtain ⟨m, a, b, y, e1, e2, e3⟩ := t2; exact ⟨m, a, b, y, e1, Nat.le_trans s4.1 e2, e3⟩, s3.goodP, s3.run, fun x hx => by have := locsT_u8 (T := T) hx; omega, s4.trans (t3.mono s4.1)⟩
  rw [q76_eq, s1, c1_ok, asA_ok, t1, c1_ok, asA_ok, if_pos ⟨rfl, rfl, t2.at.len⟩, if_pos ⟨rfl, t2.at.len⟩]
theorem OfP_R (hE : q76_In E) {h : AHeap} {x : Cell} {l : List Int} (hx : SlAt h x 1 (intC .i64 l) l.length) (hlow : Low h.length x) (hl : l.length < 9223372036854775808) {most : Nat} (hmost : most ≤ 900) :
    ∃ (cs : List Cell) (h' : AHeap) (P : PProg), R E 76 [.c x, .c (.int .i64 (most : Int))] h = some ([.agg cs], h') ∧ ProgAt h' cs P ∧ GoodP most P ∧ RunP P ∧ (∀ x ∈ P.locs, 0 ≤ x ∧ x < 256) ∧ Kp h.length h h' := by
  obtain ⟨cs, h', P, r1, r2, r3⟩ := OfO_R hE hx hlow hl hmost
  exact ⟨cs, h', P, r1, r2.at, r3⟩
end
end Jq

namespace Jq
open Go
theorem take_keep {n : Nat} {h h' : AHeap} (hk : Kp n h h') : h'.take n = h.take n := by
  refine List.ext_getElem? fun j => ?_
  rw [List.getElem?_take, List.getElem?_take]
  split
  · exact hk.2 j (by assumption)
  · rfl
theorem VmAt.keep {n : Nat} {h h' : AHeap} {k : Nat} {x : Cell} {pc : List Cell} {V : MV} (a : VmAt n h k x pc V) (hk : Kp h.length h h') : VmAt n h' k x pc V :=
  ⟨Nat.le_trans a.hn hk.1, a.nk, by rw [take_keep (hk.mono a.hn)]; exact a.prog, by rw [hk.blk (blk_lt' a.blk)]; exact a.blk, a.st.keepK hk, a.sep⟩
theorem VmAt.other {n : Nat} {h h' : AHeap} {k : Nat} {x : Cell} {pc : List Cell} {V : MV} (a : VmAt n h k x pc V) (hl : h.length ≤ h'.length) (hn : Kp n h h') (hk : blk? h' k = blk? h k) (hx : ∀ j, isBlk x j → blk? h' j = blk? h j) : VmAt n h' k x pc V := by
  refine ⟨Nat.le_trans a.hn hl, a.nk, by rw [take_keep hn]; exact a.prog, by rw [hk]; exact a.blk, ⟨a.st.1, a.st.2.imp id ?_⟩, a.sep⟩
  rintro ⟨j, rfl, h1, h2⟩
  exact ⟨j, rfl, h1, by rw [hx j rfl]; exact h2⟩
theorem GoodP.inv {most : Nat} {P : PProg} (g : GoodP most P) (r : RunP P) {m : Int} (hm : 1 ≤ m ∧ m ≤ 3) : (MV.new P m).Inv :=
  MV.new_inv hm g.small r.fld (by have := g.locs; have := g.init; omega) (by have := g.init; omega) (fun c hc => by have := g.code c hc; omega)
theorem bits_may {V : MV} {j i : Nat} (h : (bitsL V.word)[j]? = some i) : V.may i = true := by
  have := (mem_bitsL.1 (List.mem_of_getElem? h)).2
  rwa [MV.word_bit] at this
section
variable {E : Env}
theorem Vstart (hO : q76_In E) (hN : q171_In E) {h : AHeap} {x : Cell} {l : List Int} (hx : SlAt h x 1 (intC .i64 l) l.length) (hlow : Low h.length x) (hl : l.length < 9223372036854775808) {most : Nat} (hmost : most ≤ 900) :
    ∃ (cs : List Cell) (h1 : AHeap) (P : PProg), R E 76 [.c x, .c (.int .i64 (most : Int))] h = some ([.agg cs], h1) ∧ ProgAt h1 cs P ∧ GoodP most P ∧ RunP P ∧ Kp h.length h h1 ∧
      ∀ (h2 : AHeap) (m : Int), Kp h1.length h1 h2 → 1 ≤ m → m ≤ 3 → ∃ n k pc h3, R E 171 [.agg cs, .c (.int .i64 m)] h2 = some ([.c (.ptr k 329 0), .c (.int .i64 0)], h3) ∧ VmAt n h3 k .nils pc (MV.new P m) ∧ h2.length ≤ n ∧ Kp h2.length h2 h3 := by
  obtain ⟨cs, h1, P, r1, p1, g1, g2, g3, g4⟩ := OfP_R hO hx hlow hl hmost
  refine ⟨cs, h1, P, r1, p1, g1, g2, g4, fun h2 m hk m1 m3 => ?_⟩
  exact VNew_R hN (p1.keep hk) g1.small g3 (by have := g1.locs; have := g1.init; omega) (by have := g1.init; omega) ⟨m1, m3⟩ g2.pok
theorem ptr_nil {α : Type} {k : Nat} {f : Bool → Option α} : eqNilK false (.ptr k 329 0) .nilp f = f false := rfl
theorem choose {V : MV} {y : Cell} {n : Nat} {h : AHeap} (o : Own n h y 1 (natC (bitsL V.word)) (bitsL V.word).length) {v : Int} (h0 : 0 ≤ v) (h1 : v < (bitsL V.word).length) :
    ∃ i : Nat, V.may i = true ∧ ∀ {α : Type} (f : Cell → Option α), (idxSK 1 y v fun k N o => rdH h k N fun l => atK l o f) = f (.int .i64 (i : Int)) := by
  obtain ⟨q, rfl⟩ := Int.eq_ofNat_of_zero_le h0
  have hq : q < (bitsL V.word).length := by omega
  have hg := List.getElem?_eq_getElem hq
  exact ⟨(bitsL V.word)[q], bits_may hg, fun f => o.at.get1 hq (natC_get hg)⟩
end
end Jq

namespace Jq
open Go
def MV.cnt (V : MV) (q : Nat) : Int :=
  if V.m = 2 ∧ 4 ≤ q ∧ q < 8 then ((V.b (q - 4)).length : Int)
  else if V.m = 3 ∧ 8 ≤ q ∧ q < 24 then ((V.b ((q - 8) / 4)).countP (oldP 3 (((q - 8) % 4 : Nat) : Int)) : Int) else 0
theorem MV.cnt2 {V : MV} (hm : V.m = 2) (q : Nat) : V.cnt q = if 4 ≤ q ∧ q < 8 then ((V.b (q - 4)).length : Int) else 0 := by
  unfold MV.cnt
  by_cases h : 4 ≤ q ∧ q < 8
  · rw [if_pos ⟨hm, h⟩, if_pos h]
  · rw [if_neg (fun c => h c.2), if_neg (fun c => by omega), if_neg h]
theorem MV.cnt3 {V : MV} (hm : V.m = 3) (q : Nat) : V.cnt q = if 8 ≤ q ∧ q < 24 then ((V.b ((q - 8) / 4)).countP (oldP 3 (((q - 8) % 4 : Nat) : Int)) : Int) else 0 := by
  unfold MV.cnt
  rw [if_neg (fun c => by omega)]
  by_cases h : 8 ≤ q ∧ q < 24
  · rw [if_pos ⟨hm, h⟩, if_pos h]
  · rw [if_neg (fun c => h c.2), if_neg h]
def cntC (V : MV) : List Cell := (List.range 24).map fun q => .int .i64 (V.cnt q)
theorem MV.may_cnt (V : MV) {k : Nat} (h4 : 4 ≤ k) (h24 : k < 24) : V.may k = decide (V.cnt k > 0) := by
  unfold MV.may MV.cnt
  rw [if_neg (by omega)]
  by_cases h8 : k < 8
  · rw [if_pos h8]
    unfold MV.mayF
    by_cases hm : V.m = 2
    · rw [if_pos ⟨hm, h4, h8⟩, hm]
      cases V.b (k - 4) with
      | nil => rfl
      | cons e l => rw [decide_eq_true (by rw [List.length_cons]; omega)]; rfl
    · rw [if_neg (fun q => hm q.1), if_neg (show ¬ (V.m = 3 ∧ 8 ≤ k ∧ k < 24) by omega), beq_false_of_ne hm]; rfl
  · rw [if_neg h8, if_pos h24, if_neg (by omega)]
    unfold MV.mayL
    by_cases hm : V.m = 3
    · rw [if_pos ⟨hm, by omega, h24⟩, hm, Bool.eq_iff_iff, decide_eq_true_eq]
      have : ((3 : Int) == 3) = true := rfl
      rw [this, Bool.true_and, List.find?_isSome]
      constructor
      · rintro ⟨e, he, hp⟩
        have := List.countP_pos_iff.2 ⟨e, he, hp⟩
        omega
      · intro hp
        obtain ⟨e, he, hp⟩ := List.countP_pos_iff.1 (show 0 < (V.b ((k - 8) / 4)).countP (oldP 3 (((k - 8) % 4 : Nat) : Int)) by omega)
        exact ⟨e, he, hp⟩
    · rw [if_neg (fun q => hm q.1), beq_false_of_ne hm]; rfl
def qOf (m : Int) (s : Stp) : Nat := if m = 3 then 8 + (4 * s.t.toNat + s.loc.toNat) else 4 + s.t.toNat
theorem new_b (P : PProg) (m : Int) (t : Nat) : (MV.new P m).b t = [] := by
  unfold MV.b MV.new
  match t with
  | 0 => rfl
  | 1 => rfl
  | 2 => rfl
  | 3 => rfl
  | t + 4 => rfl
section
variable {E : Env}
end
end Jq

namespace Jq
open Go
section
variable {E : Env}
end
end Jq

namespace Jq
open Go
def sumM (l : List (List Ins)) : Int := ((l.map fun c => min c.length 100).sum : Nat)
def jmpAt (len : Nat) (k : Nat) (i : Ins) : Bool := i.kind == 6 && (decide (i.n < 1) || decide (i.n > (len : Int) - k - 1))
section
variable {E : Env}
end
end Jq

namespace Jq
open Go
section
variable {E : Env}
end
end Jq

namespace Jq
open Go
end Jq

namespace Jq
open Go
def shOpd : Sh := .agg (.cons (.i .i64) (.cons (.i .i64) .nil))
def shIns : Sh := .agg (.cons (.i .i64) (.cons (.i .i64) (.cons (.i .i64) (.cons shOpd (.cons (.i .i64) (.cons shOpd (.cons (.i .i64) .nil)))))))
def shAtm : Sh := .agg (.cons (.i .i64) (.cons (.i .i64) (.cons (.i .i64) (.cons (.i .i64) .nil))))
def shCond : Sh := .agg (.cons (.i .i64) (.cons (.sl (.sl shAtm)) .nil))
def shTest : Sh := .agg (.cons .s (.cons (.sl shPair) (.cons (.sl (.sl shIns)) (.cons shCond .nil))))
def shLcl : Sh := .agg (.cons (.i .i64) (.cons (.agg (Sh.rep (.i .i64) 4)) .nil))
def fewB (T : PTest) : Bool := !(((decide ((T.thr.length : Int) > 6) || decide ((T.inits.length : Int) > 40)) || decide ((T.name.size : Int) > 60)) || decide ((T.any.length : Int) > 12)) && !(T.thr.any fun c => decide ((c.length : Int) > 30)) && !(T.any.any fun c => decide ((c.length : Int) > 12))
section
variable {E : Env}
end
end Jq

namespace Jq
open Go
section
variable {E : Env}
end
end Jq

namespace Jq
open Go
theorem SlAt.cells1 {h : AHeap} {x : Cell} {cs : List Cell} {len : Nat} (s : SlAt h x 1 cs len) : slCells h 1 x = some cs := by
  have hl := s.1
  rcases s.2 with ⟨rfl, rfl⟩ | ⟨k, N, off, rfl, hb⟩
  · have : cs = [] := List.length_eq_zero_iff.1 (by omega)
    rw [this]; rfl
  · unfold slCells
    dsimp only
    by_cases h0 : len = 0
    · have : cs = [] := List.length_eq_zero_iff.1 (by omega)
      rw [if_pos h0, this]
    · rw [if_neg h0]
      rcases hb with hb | ⟨b, hb, hN, hle, hat⟩
      · exact absurd hb h0
      · rw [hb]
        simp only
        rw [if_pos ⟨hN, hle⟩]
        congr 1
        refine List.ext_getElem? fun j => ?_
        rw [List.getElem?_take, List.getElem?_drop]
        by_cases hj : j < len * 1
        · rw [if_pos hj, hat j hj]
        · rw [if_neg hj, List.getElem?_eq_none (by omega)]
section
variable {E : Env}
end
end Jq

namespace Jq
open Go
def MV.sumB (V : MV) : Int := (V.b 0).length + (V.b 1).length + (V.b 2).length + (V.b 3).length
def MV.sumP (V : MV) : Int := (V.l 0).pc + (V.l 1).pc + (V.l 2).pc + (V.l 3).pc
def isSt (m : Int) (s : Stp) : Bool := s.kind == 2 && m != 1
def isFl (s : Stp) : Bool := s.kind == 6
def MV.skips (V : MV) : Prop := ∀ c ∈ V.P.thr, SkipOk c
structure MV.Inv2 (V : MV) : Prop where
  le : ∀ t, t < 4 → (V.l t).pc ≤ (V.P.code t).length
  ms : (V.st.length : Int) + V.sumB ≤ 2 * V.sumP
  m1 : V.m = 1 → ∀ t, V.b t = []
  bal : (V.st.countP (isSt V.m) : Int) = V.st.countP isFl + V.sumB
theorem sum_codes {P : PProg} (h4 : P.thr.length ≤ 4) : ((P.code 0).length : Int) + (P.code 1).length + (P.code 2).length + (P.code 3).length = sumL P.thr := by
  have hc : ∀ t : Nat, P.code (t : Int) = P.thr.getD t [] := fun t => by unfold PProg.code; rw [if_pos (by omega), Int.toNat_natCast]
  have e0 := hc 0; have e1 := hc 1; have e2 := hc 2; have e3 := hc 3
  rw [show ((0 : Nat) : Int) = 0 from rfl] at e0
  rw [show ((1 : Nat) : Int) = 1 from rfl] at e1
  rw [show ((2 : Nat) : Int) = 2 from rfl] at e2
  rw [show ((3 : Nat) : Int) = 3 from rfl] at e3
  rw [e0, e1, e2, e3]
  unfold sumL
  generalize P.thr = l at *
  match l with
  | [] => rfl
  | [a] => simp
  | [a, b] => simp
  | [a, b, c] => simp <;> omega
  | [a, b, c, d] => simp <;> omega
  | a :: b :: c :: d :: e :: r => simp at h4
theorem MV.Inv2.most {V : MV} (w : V.Inv2) (h4 : V.P.thr.length ≤ 4) : (V.st.length : Int) ≤ 2 * sumL V.P.thr := by
  have := w.ms
  have h := sum_codes h4
  have l0 := w.le 0 (by omega); have l1 := w.le 1 (by omega); have l2 := w.le 2 (by omega); have l3 := w.le 3 (by omega)
  rw [show ((0 : Nat) : Int) = 0 from rfl] at l0
  rw [show ((1 : Nat) : Int) = 1 from rfl] at l1
  rw [show ((2 : Nat) : Int) = 2 from rfl] at l2
  rw [show ((3 : Nat) : Int) = 3 from rfl] at l3
  unfold MV.sumB MV.sumP at this
  omega
theorem MV.Inv.done {V : MV} (v : V.Inv) (w : V.Inv2) (h0 : V.word = 0) : V.sumB = 0 := by
  have hno : ∀ i, V.may i = false := fun i => by rw [← MV.word_bit, h0, Nat.zero_testBit]
  have hb : ∀ t, t < 4 → V.b t = [] := fun t ht => by
    have hm := v.fit.m
    rcases (show V.m = 1 ∨ V.m = 2 ∨ V.m = 3 by omega) with h1 | h2 | h3
    · exact w.m1 h1 t
    · have := hno (4 + t)
      rw [MV.may_cnt V (by omega) (by omega), MV.cnt2 h2, if_pos ⟨by omega, by omega⟩, show 4 + t - 4 = t by omega, decide_eq_false_iff_not] at this
      exact List.length_eq_zero_iff.1 (by omega)
    · cases hbb : V.b t with
      | nil => rfl
      | cons e l =>
        exfalso
        have he := v.mem_b (t := t) (e := e) (by rw [hbb]; exact List.mem_cons_self)
        have := hno (8 + (4 * t + e.loc.toNat))
        rw [MV.may_cnt V (by omega) (by omega), MV.cnt3 h3, if_pos ⟨by omega, by omega⟩, show (8 + (4 * t + e.loc.toNat) - 8) / 4 = t by omega, show (8 + (4 * t + e.loc.toNat) - 8) % 4 = e.loc.toNat by omega, decide_eq_false_iff_not, hbb, List.countP_cons, if_pos (show oldP 3 ((e.loc.toNat : Nat) : Int) e = true by unfold oldP; simp; omega)] at this
        omega
  unfold MV.sumB
  rw [hb 0 (by omega), hb 1 (by omega), hb 2 (by omega), hb 3 (by omega)]; rfl
end Jq

namespace Jq
open Go
theorem Own.appN {n : Nat} {h : AHeap} {x : Cell} {esz len m bytes : Nat} {cs xs : List Cell} (o : Own n h x esz cs len) (hn : n ≤ h.length) (hx : xs.length = m * esz) (he : 0 < esz) (h1 : (len + m) * bytes ≤ maxBytes) (h2 : len + m ≤ maxBytes) :
    ∃ x' h', (∀ {α : Type} (f : Cell → AHeap → Option α), appK esz bytes x xs h f = f x' h') ∧ Own n h' x' esz (cs ++ xs) (len + m) ∧ Kp n h h' ∧ (∀ j b, blk? h j = some b → ¬ isBlk x j → blk? h' j = some b ∧ ¬ isBlk x' j) := by
  have hd : xs.length / esz = m := by rw [hx]; exact Nat.mul_div_cancel _ he
  rcases o.2 with ⟨rfl, rfl⟩ | ⟨k, rfl, hk, hb⟩
  · have hcs : cs = [] := List.length_eq_zero_iff.1 (by have := o.1; omega)
    subst hcs
    by_cases h0 : m = 0
    · subst h0
      have : xs = [] := List.length_eq_zero_iff.1 (by omega)
      subst this
      exact ⟨.nils, h, fun f => rfl, Own.nil _ _ _, Kp.refl _ _, fun j b hj hi => ⟨hj, hi⟩⟩
    · have hpos : 0 < xs.length := by rw [hx]; exact Nat.mul_pos (by omega) he
      refine ⟨.sl h.length xs.length 0 m, h ++ [some ⟨true, esz, xs⟩], fun f => ?_, ⟨by simp [hx], .inr ⟨h.length, by simp, hn, by rw [List.nil_append]; exact blk_new _ _⟩⟩, Kp.app _ hn, fun j b hj _ => ⟨blk_old hj _, fun hi => ?_⟩⟩
      · unfold appK; simp only; rw [if_neg (by omega), hd, if_pos ⟨by rw [Nat.zero_add] at h1; exact h1, by omega⟩]
      · have := blk_lt' hj; simp only [isBlk] at hi; omega
  · have hl := o.1
    refine ⟨.sl k (len * esz + xs.length) 0 (len + m), setBlk h k (some ⟨true, esz, cs ++ xs⟩), fun f => ?_, ⟨by simp [hl, hx, Nat.add_mul], .inr ⟨k, by simp [hl], hk, blk_set_self (blk_lt' hb) _⟩⟩, Kp.set hk _, fun j b hj hi => ?_⟩
    · unfold appK; simp only; rw [hb, Option.bind_some]; dsimp only
      rw [if_pos ⟨rfl, rfl, rfl, by omega, by rw [hd]; exact h1, by rw [hd]; exact h2⟩, hd]
      by_cases h0 : xs.length = 0
      · have : xs = [] := List.length_eq_zero_iff.1 h0
        subst this
        have e : splice cs (0 + len * esz) [] = cs ++ [] := by unfold splice; simp
        rw [if_pos (by simp; omega), e, List.length_nil, hl]
        rfl
      · rw [if_neg (by omega), if_pos trivial, List.take_of_length_le (by omega)]
    · have hne : k ≠ j := fun h => hi h
      exact ⟨by rw [blk_set_ne hne]; exact hj, fun q => hne q⟩
theorem Own.slc {n : Nat} {h : AHeap} {x : Cell} {esz len : Nat} {cs : List Cell} (o : Own n h x esz cs len) (h0 : 0 < len) {a : Nat} (ha : a ≤ len) :
    (∃ x', (∀ {α : Type} (f : Cell → Option α), sliceK h esz false true x [.v (.c (.int .i64 (a : Int)))] f = f x') ∧ slCells h esz x' = some (cs.take (a * esz))) ∧
    (∃ x', (∀ {α : Type} (f : Cell → Option α), sliceK h esz true false x [.v (.c (.int .i64 (a : Int)))] f = f x') ∧ slCells h esz x' = some (cs.drop (a * esz))) := by
  have hl := o.1
  have hae : a * esz ≤ len * esz := Nat.mul_le_mul_right _ ha
  rcases o.2 with ⟨rfl, rfl⟩ | ⟨k, rfl, hk, hb⟩
  · omega
  · have hok : okSl h esz k cs.length = true := by unfold okSl; rw [hb]; simp
    refine ⟨⟨.sl k cs.length (0 + 0 * esz) (a - 0), fun f => ?_, ?_⟩, ⟨.sl k cs.length (0 + a * esz) (len - a), fun f => ?_, ?_⟩⟩
    · unfold sliceK boundsK
      simp only
      rw [if_pos hok, if_pos ⟨by omega, by omega⟩, Int.toNat_natCast]
    · unfold slCells
      dsimp only
      by_cases h1 : a - 0 = 0
      · rw [if_pos h1, show a = 0 by omega, Nat.zero_mul, List.take_zero]
      · rw [if_neg h1, hb]
        simp only
        rw [if_pos ⟨by trivial, by rw [Nat.sub_zero]; omega⟩]
        simp
    · unfold sliceK boundsK
      simp only
      rw [if_pos hok, if_pos ⟨by omega, by omega⟩, Int.toNat_natCast]
    · unfold slCells
      dsimp only
      have hm : (len - a) * esz = len * esz - a * esz := Nat.sub_mul _ _ _
      by_cases h1 : len - a = 0
      · rw [if_pos h1, List.drop_of_length_le (by rw [show a = len by omega]; omega)]
      · rw [if_neg h1, hb]
        simp only
        rw [if_pos ⟨by trivial, by omega⟩, Nat.zero_add, List.take_of_length_le (by rw [List.length_drop]; omega)]
theorem ents_take (l : List Ent) (j : Nat) : (entsC l).take (min j l.length * 3) = entsC (l.take j) ∧ (entsC l).drop (min j l.length * 3) = entsC (l.drop j) := by
  have e : entsC l = entsC (l.take j) ++ entsC (l.drop j) := by rw [← entsC_append, List.take_append_drop]
  have hl : (entsC (l.take j)).length = min j l.length * 3 := by rw [entsC_len, List.length_take]
  rw [e, ← hl]
  exact ⟨by rw [List.take_append_of_le_length (Nat.le_refl _), List.take_length], by rw [List.drop_append_of_le_length (Nat.le_refl _), List.drop_length, List.nil_append]⟩
theorem newE_snoc (loc : Int) (l : List Ent) (e : Ent) : newE loc (l ++ [e]) = if e.loc = loc then some e else newE loc l := by
  unfold newE
  rw [List.reverse_append, List.reverse_singleton, List.singleton_append, List.find?_cons]
  by_cases h : e.loc = loc
  · rw [if_pos h, h, beq_self_eq_true]
  · rw [if_neg h, beq_false_of_ne h]
def rvC (pc : List Cell) (V : MV) (bs : List Cell) (x : Cell) : List Cell :=
  pc ++ (([.int .i64 V.m] : List Cell) ++ (intC .i64 V.mem ++ (intC .i64 V.frm ++ (V.lc.flatMap Lcl.cs ++ (bs ++ [x])))))
section
variable {V : MV} {pc bs : List Cell} {x : Cell} (f : V.Fit) (hpc : pc.length = 3) (hbs : bs.length = 4)
theorem rv_prog (hpc : pc.length = 3) : ((rvC pc V bs x).drop (0 + 0)).take 3 = pc := by
  unfold rvC
  exact seg_get (a := []) rfl hpc
theorem rv_m (hpc : pc.length = 3) {α : Type} {g : Cell → Option α} : atK (rvC pc V bs x) (0 + 3) g = g (.int .i64 V.m) := by
  unfold rvC
  refine atK_ok ?_
  rw [List.getElem?_append_right (by omega), hpc]; rfl
theorem rv_lensM (_ : V.Fit) (hpc : pc.length = 3) : ∃ A B : List Cell, rvC pc V bs x = A ++ (intC .i64 V.mem ++ B) ∧ A.length = 0 + 4 ∧ ∀ l' : List Int, rvC pc { V with mem := l' } bs x = A ++ (intC .i64 l' ++ B) := by
  refine ⟨pc ++ [.int .i64 V.m], intC .i64 V.frm ++ (V.lc.flatMap Lcl.cs ++ (bs ++ [x])), ?_, ?_, fun l' => ?_⟩
  · unfold rvC; simp only [List.append_assoc]
  · simp only [List.length_append, hpc, List.length_cons, List.length_nil]
  · unfold rvC; simp only [List.append_assoc]
include f hpc
theorem rv_lensF : ∃ A B : List Cell, rvC pc V bs x = A ++ (intC .i64 V.frm ++ B) ∧ A.length = 0 + 8 ∧ ∀ l' : List Int, rvC pc { V with frm := l' } bs x = A ++ (intC .i64 l' ++ B) := by
  have := f.mem
  refine ⟨pc ++ (([.int .i64 V.m] : List Cell) ++ intC .i64 V.mem), V.lc.flatMap Lcl.cs ++ (bs ++ [x]), ?_, ?_, fun l' => ?_⟩
  · unfold rvC; simp only [List.append_assoc]
  · simp only [List.length_append, hpc, List.length_cons, List.length_nil, intC_len]; omega
  · unfold rvC; simp only [List.append_assoc]
theorem rv_lensL {t : Nat} {l : Lcl} (h : V.lc[t]? = some l) : ∃ A B : List Cell, rvC pc V bs x = A ++ (l.cs ++ B) ∧ A.length = (0 + 12) + t * 5 ∧ ∀ l' : Lcl, rvC pc { V with lc := V.lc.set t l' } bs x = A ++ (l'.cs ++ B) := by
  have hi := getI_lt h
  have e := take_flat_len (f.lcs hpc) (Nat.le_of_lt hi)
  have := f.mem; have := f.frm
  refine ⟨pc ++ (([.int .i64 V.m] : List Cell) ++ (intC .i64 V.mem ++ (intC .i64 V.frm ++ (V.lc.take t).flatMap Lcl.cs))), (V.lc.drop (t + 1)).flatMap Lcl.cs ++ (bs ++ [x]), ?_, ?_, fun l' => ?_⟩
  · unfold rvC; rw [flat_split h]; simp only [List.append_assoc]
  · simp only [List.length_append, e, hpc, List.length_cons, List.length_nil, intC_len]; omega
  · unfold rvC; dsimp only; rw [flat_set hi]; simp only [List.append_assoc]
theorem rv_lensB : ∃ A : List Cell, A.length = 0 + 32 ∧ ∀ bs x, rvC pc V bs x = A ++ (bs ++ [x]) := by
  have e2 := flat_len (f.lcs hpc)
  have := f.lc; have := f.mem; have := f.frm
  refine ⟨pc ++ (([.int .i64 V.m] : List Cell) ++ (intC .i64 V.mem ++ (intC .i64 V.frm ++ V.lc.flatMap Lcl.cs))), ?_, fun bs x => ?_⟩
  · simp only [List.length_append, e2, hpc, List.length_cons, List.length_nil, intC_len]; omega
  · unfold rvC; simp only [List.append_assoc]
theorem rv_lcl {t : Nat} {l : Lcl} (h : V.lc[t]? = some l) : ((rvC pc V bs x).drop ((0 + 12) + t * 5)).take 5 = l.cs := by
  obtain ⟨A, B, e, hA, _⟩ := rv_lensL (bs := bs) (x := x) f hpc h
  rw [e]; exact seg_get hA rfl
theorem rv_regs {t : Nat} {l : Lcl} (h : V.lc[t]? = some l) : ((rvC pc V bs x).drop (((0 + 12) + t * 5) + 1)).take 4 = regsC l := by
  obtain ⟨A, B, e, hA, _⟩ := rv_lensL (bs := bs) (x := x) f hpc h
  rw [e, show l.cs = ([.int .i64 l.pc] : List Cell) ++ regsC l from rfl, List.append_assoc, ← List.append_assoc A]
  exact seg_get (by rw [List.length_append, hA]; rfl) rfl
theorem rv_setL {t : Nat} (ht : t < 4) (l : Lcl) : splice (rvC pc V bs x) ((0 + 12) + t * 5) l.cs = rvC pc { V with lc := V.lc.set t l } bs x := by
  obtain ⟨A, B, e, hA, h2⟩ := rv_lensL (bs := bs) (x := x) f hpc (List.getElem?_eq_getElem (show t < V.lc.length by rw [f.lc]; exact ht))
  rw [e, h2]; exact seg_set hA rfl
theorem rv_mem {α : Type} {i : Nat} {v : Int} (h : V.mem[i]? = some v) {g : Cell → Option α} : atK (rvC pc V bs x) ((0 + 4) + i * 1) g = g (.int .i64 v) := by
  obtain ⟨A, B, e, hA, _⟩ := rv_lensM (bs := bs) (x := x) f hpc
  have hi := getI_lt h
  refine atK_ok ?_
  rw [e, List.getElem?_append_right (by omega), List.getElem?_append_left (by rw [intC_len]; omega), show 0 + 4 + i * 1 - A.length = i by omega]
  exact intC_get h
theorem rv_frm {α : Type} {i : Nat} {v : Int} (h : V.frm[i]? = some v) {g : Cell → Option α} : atK (rvC pc V bs x) ((0 + 8) + i * 1) g = g (.int .i64 v) := by
  obtain ⟨A, B, e, hA, _⟩ := rv_lensF (bs := bs) (x := x) f hpc
  have hi := getI_lt h
  refine atK_ok ?_
  rw [e, List.getElem?_append_right (by omega), List.getElem?_append_left (by rw [intC_len]; omega), show 0 + 8 + i * 1 - A.length = i by omega]
  exact intC_get h
theorem rv_setM {i : Nat} (hi : i < 4) (v : Int) : (rvC pc V bs x).set ((0 + 4) + i * 1) (.int .i64 v) = rvC pc { V with mem := V.mem.set i v } bs x := by
  obtain ⟨A, B, e, hA, h2⟩ := rv_lensM (bs := bs) (x := x) f hpc
  have := f.mem
  rw [e, h2, List.set_append_right _ _ (by omega), List.set_append_left _ _ (by rw [intC_len]; omega), show 0 + 4 + i * 1 - A.length = i by omega]
  unfold intC
  rw [List.map_set]
theorem rv_setF {i : Nat} (hi : i < 4) (v : Int) : (rvC pc V bs x).set ((0 + 8) + i * 1) (.int .i64 v) = rvC pc { V with frm := V.frm.set i v } bs x := by
  obtain ⟨A, B, e, hA, h2⟩ := rv_lensF (bs := bs) (x := x) f hpc
  have := f.frm
  rw [e, h2, List.set_append_right _ _ (by omega), List.set_append_left _ _ (by rw [intC_len]; omega), show 0 + 8 + i * 1 - A.length = i by omega]
  unfold intC
  rw [List.map_set]
theorem rv_mems : ((rvC pc V bs x).drop (0 + 4)).take 4 = intC .i64 V.mem := by
  obtain ⟨A, B, e, hA, _⟩ := rv_lensM (bs := bs) (x := x) f hpc
  rw [e]; exact seg_get hA (by rw [intC_len, f.mem])
include hbs
theorem rv_len : (rvC pc V bs x).length = 37 := by
  obtain ⟨A, hA, e⟩ := rv_lensB f hpc
  rw [e]
  simp only [List.length_append, hA, hbs, List.length_cons, List.length_nil]
theorem rv_buf {α : Type} {t : Nat} (ht : t < 4) {g : Cell → Option α} : atK (rvC pc V bs x) ((0 + 32) + t * 1) g = g (bs.getD t .nils) := by
  obtain ⟨A, hA, e⟩ := rv_lensB f hpc
  refine atK_ok ?_
  rw [e, List.getElem?_append_right (by omega), List.getElem?_append_left (by omega), show 0 + 32 + t * 1 - A.length = t by omega, List.getD_eq_getElem?_getD, List.getElem?_eq_getElem (by omega)]; rfl
theorem rv_setB {t : Nat} (ht : t < 4) (c : Cell) : (rvC pc V bs x).set ((0 + 32) + t * 1) c = rvC pc V (bs.set t c) x := by
  obtain ⟨A, hA, e⟩ := rv_lensB f hpc
  rw [e, e, List.set_append_right _ _ (by omega), List.set_append_left _ _ (by omega), show 0 + 32 + t * 1 - A.length = t by omega]
theorem rv_steps {α : Type} {g : Cell → Option α} : atK (rvC pc V bs x) (0 + 36) g = g x := by
  obtain ⟨A, hA, e⟩ := rv_lensB f hpc
  refine atK_ok ?_
  rw [e, List.getElem?_append_right (by omega), List.getElem?_append_right (by omega), hA, hbs]; rfl
theorem rv_setX (y : Cell) : (rvC pc V bs x).set (0 + 36) y = rvC pc V bs y := by
  obtain ⟨A, hA, e⟩ := rv_lensB f hpc
  rw [e, e, List.set_append_right _ _ (by omega), List.set_append_right _ _ (by omega), hA, hbs]; rfl
end
structure RvAt (n : Nat) (h : AHeap) (k : Nat) (x : Cell) (bs pc : List Cell) (V : MV) : Prop where
  hn : n ≤ h.length
  nk : n ≤ k
  prog : ProgAt (h.take n) pc V.P
  blk : blk? h k = some ⟨true, 0, rvC pc V bs x⟩
  st : Own n h x 7 (stepsC V.st) V.st.length
  sep : ¬ isBlk x k
  bl : bs.length = 4
  bf : ∀ t, t < 4 → Own n h (bs.getD t .nils) 3 (entsC (V.b t)) (V.b t).length ∧ ¬ isBlk (bs.getD t .nils) k ∧ ∀ j, isBlk (bs.getD t .nils) j → ¬ isBlk x j
def mayI (V : MV) (i : Int) : Bool := decide (0 ≤ i) && V.may i.toNat
theorem mayI_nat (V : MV) (i : Nat) : mayI V (i : Int) = V.may i := by
  unfold mayI
  rw [decide_eq_true (by omega), Int.toNat_natCast]; rfl
theorem ent_loc {h : AHeap} {y : Cell} {l : List Ent} (o : SlAt h y 3 (entsC l) l.length) {i : Nat} {e : Ent} (hq : l[i]? = some e) {α : Type} {f : Cell → Option α} :
    (idxSK 3 y (i : Int) fun k N o => rdH h k N fun l => atK l (o + 0) f) = f (.int .i64 e.loc) := o.get (getI_lt hq) (by omega) (by rw [entsC_get l i e hq 0 (by omega)]; rfl)
theorem ent_val {h : AHeap} {y : Cell} {l : List Ent} (o : SlAt h y 3 (entsC l) l.length) {i : Nat} {e : Ent} (hq : l[i]? = some e) {α : Type} {f : Cell → Option α} :
    (idxSK 3 y (i : Int) fun k N o => rdH h k N fun l => atK l (o + 1) f) = f (.int .i64 e.val) := o.get (getI_lt hq) (by omega) (by rw [entsC_get l i e hq 1 (by omega)]; rfl)
theorem ent_id {h : AHeap} {y : Cell} {l : List Ent} (o : SlAt h y 3 (entsC l) l.length) {i : Nat} {e : Ent} (hq : l[i]? = some e) {α : Type} {f : Cell → Option α} :
    (idxSK 3 y (i : Int) fun k N o => rdH h k N fun l => atK l (o + 2) f) = f (.int .i64 e.id) := o.get (getI_lt hq) (by omega) (by rw [entsC_get l i e hq 2 (by omega)]; rfl)
section
variable {E : Env}
theorem oldest_R' (hE : q198_In E) {n k : Nat} {h : AHeap} {x : Cell} {bs pc : List Cell} {V : MV} (a : RvAt n h k x bs pc V) (f : V.Fit) {t : Nat} (ht : t < 4) (loc : Int) (p : Ent → Bool) (hp : ∀ e, (decide (loc < 0) || e.loc == loc) = p e) :
    R E 198 [.c (.ptr k 37 0), .c (.int .i64 (t : Int)), .c (.int .i64 loc)] h = some ([.c (.int .i64 (match (V.b t).findIdx? p with | some i => (i : Int) | none => -1))], h) := by
  refine R_intro hE.fn ?_
  have hpc := a.prog.len
  have hl := rv_len (x := x) f hpc a.bl
  have rd : ∀ {α : Type} {F : List Cell → Option α}, rdH h k 37 F = F (rvC pc V bs x) := fun {α F} => rdH_ok a.blk hl
  have hr : 0 ≤ (t : Int) ∧ (t : Int) < ((4 : Nat) : Int) := ⟨by omega, by omega⟩
  have o := (a.bf t ht).1.at
  have hbl : (V.b t).length ≤ 24 := f.b _ (List.mem_of_getElem? (MV.b_at (by rw [f.bf]; exact ht)))
  have hL := Lim_find (F := q198_F1 (R E) Lim E.glob) (fun i => q198_s1 k 37 0 (t : Int) loc (i : Int) h) (fun i => q198_x1_0 (i : Int) h) (q198_x1_1 h) 0 (V.b t) p (fun i q hq => by
    have hi := getI_lt hq
    rw [q198_r1, if_pos hr, rd, Int.toNat_natCast, rv_buf f hpc a.bl ht, o.len, if_pos (by simp; omega)]
    simp only [rd, if_pos hr, rv_buf f hpc a.bl ht, ent_loc o hq, asI_ok, scK_or]
    rw [hp q, g_succ (by omega)]) (by rw [q198_r1, if_pos hr, rd, Int.toNat_natCast, rv_buf f hpc a.bl ht, o.len, if_neg (by simp)])
  have hL' : Lim (q198_F1 (R E) Lim E.glob) (q198_s1 k 37 0 (t : Int) loc 0 h) = _ := hL
  rw [q198_eq, hL', bind_ok]
  cases (V.b t).findIdx? p with
  | none => dsimp only; rw [q198_e1_1]
  | some i => dsimp only; rw [q198_e1_0]
def fluOf (m i : Int) : Int × Int × Bool :=
  if m = 2 ∧ 4 ≤ i ∧ i < 8 then (i - 4, -1, true) else if m = 3 ∧ 8 ≤ i ∧ i < 24 then ((i - 8) / 4, (i - 8) % 4, true) else (0, 0, false)
theorem refFlush_R (hE : q197_In E) {n k : Nat} {h : AHeap} {x : Cell} {bs pc : List Cell} {V : MV} (a : RvAt n h k x bs pc V) (f : V.Fit) (i : Int) :
    R E 197 [.c (.ptr k 37 0), .c (.int .i64 i)] h = some ([.c (.int .i64 (fluOf V.m i).1), .c (.int .i64 (fluOf V.m i).2.1), .c (.bool (fluOf V.m i).2.2)], h) := by
  refine R_intro hE.fn ?_
  have hpc := a.prog.len
  have hl := rv_len (x := x) f hpc a.bl
  have rd : ∀ {α : Type} {F : List Cell → Option α}, rdH h k 37 F = F (rvC pc V bs x) := fun {α F} => rdH_ok a.blk hl
  rw [q197_eq]
  simp only [rd, rv_m hpc, asI_ok, scK_and]
  unfold fluOf
  by_cases h2 : V.m = 2 ∧ 4 ≤ i ∧ i < 8
  · rw [if_pos (by simp; omega), if_pos h2, g_wrap_i64 (by omega) (by omega)]
  · rw [if_neg (by simp; omega), if_neg h2]
    by_cases h3 : V.m = 3 ∧ 8 ≤ i ∧ i < 24
    · rw [if_pos (by simp; omega), if_pos h3, g_wrap_i64 (by omega) (by omega), g_quo, g_rem, Int.tdiv_eq_ediv_of_nonneg (by omega), Int.tmod_eq_emod_of_nonneg (by omega), wrap_i64 (by omega) (by omega)]
    · rw [if_neg (by simp; omega), if_neg h3]
theorem findIdx_some {l : List Ent} {p : Ent → Bool} : (decide ((match l.findIdx? p with | some i => (i : Int) | none => -1) ≥ 0)) = (l.find? p).isSome := by
  cases hf : l.findIdx? p with
  | none =>
    rw [List.findIdx?_eq_none_iff] at hf
    have : l.find? p = none := by
      rw [List.find?_eq_none]
      intro e he
      rw [hf e he]; simp
    rw [this]; rfl
  | some i =>
    obtain ⟨hi, hp, _⟩ := List.findIdx?_eq_some_iff_getElem.1 hf
    have : (l.find? p).isSome = true := by rw [List.find?_isSome]; exact ⟨_, List.getElem_mem hi, hp⟩
    rw [this]
    exact decide_eq_true (by dsimp only; omega)
theorem May_R (hE : q196_In E) {n k : Nat} {h : AHeap} {x : Cell} {bs pc : List Cell} {V : MV} (a : RvAt n h k x bs pc V) (f : V.Fit) (hg : V.P.good) (i : Int) :
    R E 196 [.c (.ptr k 37 0), .c (.int .i64 i)] h = some ([.c (.bool (mayI V i))], h) := by
  refine R_intro hE.fn ?_
  have hpc := a.prog.len
  have hl := rv_len (x := x) f hpc a.bl
  have rd : ∀ {α : Type} {F : List Cell → Option α}, rdH h k 37 F = F (rvC pc V bs x) := fun {α F} => rdH_ok a.blk hl
  have p := prog_at a.prog a.hn (Kp.refl n h)
  rw [q196_eq, scK_and]
  by_cases h4 : 0 ≤ i ∧ i < 4
  · obtain ⟨t, rfl⟩ := Int.eq_ofNat_of_zero_le h4.1
    have ht : t < 4 := by omega
    have hr : 0 ≤ (t : Int) ∧ (t : Int) < ((4 : Nat) : Int) := ⟨by omega, by omega⟩
    have hql := MV.l_at (V := V) (t := t) (by rw [f.lc]; exact ht)
    have o := (a.bf t ht).1.at
    rw [if_pos (by simp; omega), rd, if_pos (by rw [hl]; omega), if_pos hr, rd, Int.toNat_natCast, if_pos (by rw [hl]; omega), rv_prog hpc, rv_lcl f hpc hql, refNext_R hE.c81 hg p, qh_ok, c2_ok, asA_ok, asB_ok, if_pos (by exact ⟨rfl, rfl, rfl⟩)]
    simp only [ins_kind, asI_ok, scK_and, rd, if_pos hr, rv_buf f hpc a.bl ht, o.len, scK_or]
    rw [mayI_nat]
    have hT : V.may t = match nextI (V.P.code t) (V.l t) with | none => false | some i => !(i.kind == 3 || i.kind == 4) || (V.b t).length == 0 := by
      unfold MV.may; rw [if_pos ht]; rfl
    rw [hT]
    cases hn : nextI (V.P.code t) (V.l t) with
    | none => rfl
    | some q =>
      dsimp only [Option.getD_some, Option.isSome_some]
      have e : ((((V.b t).length : Nat) : Int) == 0) = ((V.b t).length == 0) := by rw [Bool.eq_iff_iff, beq_iff_eq, beq_iff_eq]; omega
      rw [e, Bool.true_and]
      have : (q.kind != 3 && q.kind != 4) = !(q.kind == 3 || q.kind == 4) := by cases h3 : (q.kind == 3) <;> cases h4 : (q.kind == 4) <;> simp [bne, h3, h4]
      rw [this]
  · rw [if_neg (by simp; omega), refFlush_R hE.c197 a f, c3_ok, asI_ok, asI_ok, asB_ok]
    unfold fluOf
    by_cases h2 : V.m = 2 ∧ 4 ≤ i ∧ i < 8
    · rw [if_pos h2]
      obtain ⟨t, rfl⟩ := Int.eq_ofNat_of_zero_le (show 0 ≤ i by omega)
      dsimp only
      rw [scK_ok, show ((t : Int) - 4) = ((t - 4 : Nat) : Int) by omega, oldest_R' hE.c198 a f (by omega) (-1) (oldP 2 0) (fun e => rfl), c1_ok, asI_ok, findIdx_some, bind_ok]
      dsimp only
      rw [mayI_nat]
      congr 4
      unfold MV.may MV.mayF
      rw [if_neg (by omega), if_pos (by omega), h2.1]
      cases V.b (t - 4) with
      | nil => rfl
      | cons e l => rfl
    · rw [if_neg h2]
      by_cases h3 : V.m = 3 ∧ 8 ≤ i ∧ i < 24
      · rw [if_pos h3]
        obtain ⟨t, rfl⟩ := Int.eq_ofNat_of_zero_le (show 0 ≤ i by omega)
        dsimp only
        rw [scK_ok, show (((t : Int) - 8) / 4) = (((t - 8) / 4 : Nat) : Int) by omega, show (((t : Int) - 8) % 4) = (((t - 8) % 4 : Nat) : Int) by omega, oldest_R' hE.c198 a f (by omega) _ (oldP 3 (((t - 8) % 4 : Nat) : Int)) (fun e => by rw [decide_eq_false (by omega)]; rfl), c1_ok, asI_ok, findIdx_some, bind_ok]
        dsimp only
        rw [mayI_nat]
        congr 4
        unfold MV.may MV.mayL
        rw [if_neg (by omega), if_neg (by omega), if_pos (by omega), h3.1]
        rfl
      · rw [if_neg h3]
        dsimp only
        rw [scK_ft]
        congr 4
        unfold mayI
        by_cases h0 : 0 ≤ i
        · rw [decide_eq_true h0, Bool.true_and]
          have hm := f.m
          unfold MV.may MV.mayF MV.mayL
          rw [if_neg (by omega)]
          by_cases h8 : i.toNat < 8
          · rw [if_pos h8, beq_false_of_ne (by omega)]; rfl
          · rw [if_neg h8]
            by_cases h24 : i.toNat < 24
            · rw [if_pos h24, beq_false_of_ne (by omega)]; rfl
            · rw [if_neg h24]
        · rw [decide_eq_false h0]; rfl
end
end Jq

namespace Jq
open Go
theorem ents_at {l : List Ent} {i : Nat} {e : Ent} (h : l[i]? = some e) : ((entsC l).drop (i * 3)).take 3 = e.cs := by
  unfold entsC
  rw [flat_split h]
  exact seg_get (take_flat_len (f := Ent.cs) (n := 3) (fun _ _ => rfl) (Nat.le_of_lt (getI_lt h))) rfl
theorem rd0G {α : Type} {h : AHeap} {k N : Nat} {l : List Cell} (hb : blk? h k = some ⟨true, 0, l⟩) (hl : l.length = N) {F : List Cell → Option α} : rd0 h k N F = F l := by
  unfold rd0
  rw [hb, Option.bind_some, if_pos rfl]
  exact rdH_ok hb hl
theorem Own.via {n : Nat} {h h' : AHeap} {y : Cell} {esz len : Nat} {cs : List Cell} (o : Own n h y esz cs len) (hf : ∀ j b, isBlk y j → blk? h j = some b → blk? h' j = some b) : Own n h' y esz cs len := by
  refine ⟨o.1, o.2.imp id ?_⟩
  rintro ⟨j, rfl, h1, h2⟩
  exact ⟨j, rfl, h1, hf j _ rfl h2⟩
theorem flu_data {V : MV} {i : Nat} (h4 : ¬ i < 4) (hi : V.may i = true) : ∃ (t : Nat) (loc : Int) (p : Ent → Bool) (e : Ent), t < 4 ∧ (∀ e, (decide (loc < 0) || e.loc == loc) = p e) ∧ fluOf V.m i = ((t : Int), loc, true) ∧ (V.b t).find? p = some e ∧ V.stp i = ⟨i, t, 6, e.loc, 0, e.val, e.id⟩ ∧
    (V.nx i) = { V with bf := V.bf.set t ((V.b t).eraseP p), mem := V.mem.set e.loc.toNat e.val, frm := V.frm.set e.loc.toNat e.id, st := V.st ++ [V.stp i] } := by
  have h24 := MV.may_lt hi
  have key : ∀ (t : Nat) (loc : Int) (e : Ent), (V.b t).find? (oldP (bmod V.m) loc) = some e → V.stp i = { V.fluS t loc with pick := i } → V.nx i = { V.fluM t loc with st := V.st ++ [V.stp i] } →
      V.stp i = ⟨i, t, 6, e.loc, 0, e.val, e.id⟩ ∧ (V.nx i) = { V with bf := V.bf.set t ((V.b t).eraseP (oldP (bmod V.m) loc)), mem := V.mem.set e.loc.toNat e.val, frm := V.frm.set e.loc.toNat e.id, st := V.st ++ [V.stp i] } := by
    intro t loc e he e1 e2
    have hee : V.fluE t loc = e := by unfold MV.fluE; rw [he]; rfl
    refine ⟨?_, ?_⟩
    · rw [e1]; unfold MV.fluS; rw [hee]
    · rw [e2]; unfold MV.fluM; rw [hee]
  by_cases h8 : i < 8
  · have hi' := hi
    unfold MV.may MV.mayF at hi'
    rw [if_neg h4, if_pos h8, Bool.and_eq_true] at hi'
    have hm2 : V.m = 2 := beq_iff_eq.1 hi'.1
    have hne : (V.b (i - 4)).length ≠ 0 := by simpa using hi'.2
    obtain ⟨e, he⟩ : ∃ e, (V.b (i - 4)).find? (oldP (bmod V.m) 0) = some e := by
      rw [hm2]
      cases hbb : V.b (i - 4) with
      | nil => rw [hbb] at hne; exact absurd rfl hne
      | cons e l => exact ⟨e, rfl⟩
    obtain ⟨k1, k2⟩ := key (i - 4) 0 e he (by unfold MV.stp; rw [if_neg h4, if_pos h8]) (by unfold MV.nx; rw [if_neg h4, if_pos h8])
    refine ⟨i - 4, -1, oldP (bmod V.m) 0, e, by omega, fun e => by rw [hm2]; rfl, ?_, he, k1, k2⟩
    unfold fluOf
    rw [if_pos ⟨hm2, by omega, by omega⟩, show ((i : Int) - 4) = ((i - 4 : Nat) : Int) by omega]
  · have hi' := hi
    unfold MV.may MV.mayL at hi'
    rw [if_neg h4, if_neg h8, if_pos h24, Bool.and_eq_true] at hi'
    have hm3 : V.m = 3 := beq_iff_eq.1 hi'.1
    obtain ⟨e, he⟩ := Option.isSome_iff_exists.1 hi'.2
    have he' : (V.b ((i - 8) / 4)).find? (oldP (bmod V.m) (((i - 8) % 4 : Nat) : Int)) = some e := by rw [hm3]; exact he
    obtain ⟨k1, k2⟩ := key ((i - 8) / 4) _ e he' (by unfold MV.stp; rw [if_neg h4, if_neg h8]) (by unfold MV.nx; rw [if_neg h4, if_neg h8])
    refine ⟨(i - 8) / 4, (((i - 8) % 4 : Nat) : Int), _, e, by omega, fun e => ?_, ?_, he', k1, k2⟩
    · rw [decide_eq_false (by omega), hm3]; rfl
    · unfold fluOf
      rw [if_neg (by omega), if_pos ⟨hm3, by omega, by omega⟩, show (((i : Int) - 8) / 4) = (((i - 8) / 4 : Nat) : Int) by omega, show (((i : Int) - 8) % 4) = (((i - 8) % 4 : Nat) : Int) by omega]
theorem eraseP_idx {l : List Ent} {p : Ent → Bool} {e : Ent} (he : l.find? p = some e) : ∃ j, l.findIdx? p = some j ∧ l[j]? = some e ∧ l.eraseP p = l.take j ++ l.drop (j + 1) := by
  obtain ⟨j, hj⟩ : ∃ j, l.findIdx? p = some j := by
    cases hx : l.findIdx? p with
    | some j => exact ⟨j, rfl⟩
    | none =>
      rw [List.findIdx?_eq_none_iff] at hx
      have := hx e (List.mem_of_find?_eq_some he)
      rw [List.find?_some he] at this; cases this
  obtain ⟨h1, h2, h3⟩ := List.findIdx?_eq_some_iff_getElem.1 hj
  have hfi : l.find? p = some l[j] := by
    rw [List.find?_eq_some_iff_getElem]
    exact ⟨h2, j, h1, rfl, fun k hk => by have := h3 k hk; simpa using this⟩
  rw [hfi] at he
  refine ⟨j, hj, by rw [List.getElem?_eq_getElem h1]; exact he, ?_⟩
  rw [List.eraseP_eq_eraseIdx, hj]
  exact List.eraseIdx_eq_take_drop_succ _ _
section
variable {E : Env}
theorem rv_push {n k : Nat} {h : AHeap} {x : Cell} {bs pc : List Cell} {W : MV} (b : blk? h k = some ⟨true, 0, rvC pc W bs x⟩) (f : W.Fit) (hpc : pc.length = 3) (bl : bs.length = 4) (hn : n ≤ h.length) (nk : n ≤ k) (prog : ProgAt (h.take n) pc W.P) (st : Own n h x 7 (stepsC W.st) W.st.length) (sep : ¬ isBlk x k)
    (bf : ∀ t, t < 4 → Own n h (bs.getD t .nils) 3 (entsC (W.b t)) (W.b t).length ∧ ¬ isBlk (bs.getD t .nils) k ∧ ∀ j, isBlk (bs.getD t .nils) j → ¬ isBlk x j) (hst : W.st.length < 100000) (s : Stp) :
    ∃ x' h', (∀ {α : Type} (F : AHeap → Option α), (appK 7 56 x s.cs h fun x_57 h_58 => rdH h_58 k 37 fun l_59 => if (0 + 36) < l_59.length then putH h_58 k (l_59.set (0 + 36) x_57) F else none) = F h') ∧
      RvAt n h' k x' bs pc { W with st := W.st ++ [s] } ∧ Kp n h h' ∧ (∀ j b, blk? h j = some b → j ≠ k → ¬ isBlk x j → blk? h' j = some b ∧ ¬ isBlk x' j) := by
  have hb : maxBytes ≥ 200000 * 56 := by unfold maxBytes; omega
  obtain ⟨x', h', e1, o1, k1, r1⟩ := st.app (bytes := 56) hn (stp_len s) (by omega) (by omega) (by omega)
  obtain ⟨c1, c2⟩ := r1 k _ b sep
  have hl := rv_len (x := x) f hpc bl
  have kp2 : Kp n h (setBlk h' k (some ⟨true, 0, rvC pc W bs x'⟩)) := k1.trans (Kp.set nk _)
  have fr : ∀ j b, blk? h j = some b → j ≠ k → ¬ isBlk x j → blk? (setBlk h' k (some ⟨true, 0, rvC pc W bs x'⟩)) j = some b ∧ ¬ isBlk x' j := fun j b hj hne hnx => by
    obtain ⟨d1, d2⟩ := r1 j b hj hnx
    exact ⟨by rw [blk_set_ne (fun e => hne e.symm)]; exact d1, d2⟩
  refine ⟨x', setBlk h' k (some ⟨true, 0, rvC pc W bs x'⟩), fun F => ?_, ⟨Nat.le_trans hn kp2.1, nk, ?_, blk_set_self (blk_lt' c1) _, ?_, c2, bl, fun t ht => ?_⟩, kp2, fr⟩
  · rw [e1, rdH_ok c1 hl, if_pos (by rw [hl]; omega), rv_setX f hpc bl, putB c1]
  · rw [take_keep kp2]; exact prog
  · show Own n _ x' 7 (stepsC (W.st ++ [s])) (W.st ++ [s]).length
    rw [stepsC_snoc, List.length_append, List.length_singleton]
    exact o1.setO c2 _
  · obtain ⟨b1, b2, b3⟩ := bf t ht
    have hj : ∀ j b, isBlk (bs.getD t .nils) j → blk? h j = some b → blk? (setBlk h' k (some ⟨true, 0, rvC pc W bs x'⟩)) j = some b ∧ ¬ isBlk x' j := fun j b q1 q2 => fr j b q2 (fun e => b2 (e ▸ q1)) (b3 j q1)
    refine ⟨b1.via fun j b q1 q2 => (hj j b q1 q2).1, b2, fun j q => ?_⟩
    obtain ⟨_, hlt⟩ := b1.blkLt' q
    rcases b1.2 with ⟨e, _⟩ | ⟨j', e, _, hbb⟩
    · rw [e] at q; exact absurd q (by simp [isBlk])
    · have : j' = j := by rw [e] at q; exact q
      subst this
      exact (hj j' _ q hbb).2
set_option maxHeartbeats 2000000 in
theorem rFlush (hE : q182_In E) {n k : Nat} {h : AHeap} {x : Cell} {bs pc : List Cell} {V : MV} (a : RvAt n h k x bs pc V) (v : V.Inv) (hst : V.st.length < 100000) {i : Int} {t : Nat} (ht : t < 4) {loc : Int} {p : Ent → Bool} {e : Ent}
    (hp : ∀ e, (decide (loc < 0) || e.loc == loc) = p e) (hf : (V.b t).find? p = some e) (z : List Cell) (hz : z.length = 7) :
    ∃ x' bs' h', (q182_k6 (R E) Lim E.glob) .normal (q182_c5 k 37 0 i V.st.length (t : Int) loc true z (Stp.cs ⟨i, i, 0, 0, 0, 0, -1⟩) h) = some (.ret, q182_c4_0 true (Stp.cs ⟨i, t, 6, e.loc, 0, e.val, e.id⟩) h') ∧
      RvAt n h' k x' bs' pc { V with bf := V.bf.set t ((V.b t).eraseP p), mem := V.mem.set e.loc.toNat e.val, frm := V.frm.set e.loc.toNat e.id, st := V.st ++ [⟨i, t, 6, e.loc, 0, e.val, e.id⟩] } ∧ KpV n k x x' h h' := by
  have f := v.fit
  have hpc := a.prog.len
  have hl := rv_len (x := x) f hpc a.bl
  have hr : 0 ≤ (t : Int) ∧ (t : Int) < ((4 : Nat) : Int) := ⟨by omega, by omega⟩
  have hk : k < h.length := blk_lt' a.blk
  have hbl := v.blen ht
  obtain ⟨j, hj, hje, her⟩ := eraseP_idx hf
  have hjl := getI_lt hje
  have hel := v.mem_b (List.mem_of_getElem? hje)
  have hel' : 0 ≤ e.loc ∧ e.loc < ((4 : Nat) : Int) := ⟨hel.1, by omega⟩
  have he4 : e.loc.toNat < 4 := by omega
  have hM : maxBytes ≥ 1000 * 24 := by unfold maxBytes; omega
  obtain ⟨b1, b2, b3⟩ := a.bf t ht
  have kA : Kp h.length h (h ++ [some ⟨true, 3, ([] : List Cell)⟩]) := Kp.app _ (Nat.le_refl _)
  obtain ⟨⟨xa, ea1, ea2⟩, _⟩ := (b1.keepK kA).slc (by omega) (a := j) (by omega)
  have tk := ents_take (V.b t) j
  rw [Nat.min_eq_left (by omega)] at tk
  rw [tk.1] at ea2
  have lenA : (entsC ((V.b t).take j)).length = j * 3 := by rw [entsC_len, List.length_take, Nat.min_eq_left (by omega)]
  have kB : Kp h.length h (h ++ [some ⟨true, 3, entsC ((V.b t).take j)⟩]) := Kp.app _ (Nat.le_refl _)
  have oB : Own h.length (h ++ [some ⟨true, 3, entsC ((V.b t).take j)⟩]) (.sl h.length (entsC ((V.b t).take j)).length 0 j) 3 (entsC ((V.b t).take j)) j := ⟨lenA, .inr ⟨h.length, rfl, Nat.le_refl _, blk_new _ _⟩⟩
  obtain ⟨_, ⟨xb, eb1, eb2⟩⟩ := (b1.keepK kB).slc (by omega) (a := j + 1) (by omega)
  have tk2 := ents_take (V.b t) (j + 1)
  rw [Nat.min_eq_left (by omega)] at tk2
  rw [tk2.2] at eb2
  have lenB : (entsC ((V.b t).drop (j + 1))).length = ((V.b t).length - (j + 1)) * 3 := by rw [entsC_len, List.length_drop]
  obtain ⟨x3, h3, e3, o3, k3, _⟩ := oB.appN (bytes := 24) (by simp) lenB (by omega) (by omega) (by omega)
  have kC : Kp h.length h h3 := kB.trans k3
  have nl : ((V.b t).eraseP p).length = j + ((V.b t).length - (j + 1)) := by rw [her, List.length_append, List.length_take, List.length_drop, Nat.min_eq_left (by omega)]
  have o3' : Own h.length h3 x3 3 (entsC ((V.b t).eraseP p)) ((V.b t).eraseP p).length := by rw [nl, her, entsC_append]; exact o3
  have bk3 : blk? h3 k = some ⟨true, 0, rvC pc V bs x⟩ := by rw [kC.blk hk]; exact a.blk
  have bl' : (bs.set t x3).length = 4 := by rw [List.length_set]; exact a.bl
  have el24 : ((V.b t).eraseP p).length ≤ 24 := by omega
  have f1 : MV.Fit { V with bf := V.bf.set t ((V.b t).eraseP p) } := ⟨f.m, f.lc, f.mem, f.frm, by rw [List.length_set]; exact f.bf, fun l hl => by
    rcases List.mem_or_eq_of_mem_set hl with hl | rfl
    · exact f.b l hl
    · exact el24⟩
  have f2 : MV.Fit { V with bf := V.bf.set t ((V.b t).eraseP p), mem := V.mem.set e.loc.toNat e.val } := ⟨f1.m, f1.lc, by rw [List.length_set]; exact f1.mem, f1.frm, f1.bf, f1.b⟩
  have f3 : MV.Fit { V with bf := V.bf.set t ((V.b t).eraseP p), mem := V.mem.set e.loc.toNat e.val, frm := V.frm.set e.loc.toNat e.id } := ⟨f2.m, f2.lc, f2.mem, by rw [List.length_set]; exact f2.frm, f2.bf, f2.b⟩
  have hbW : ∀ (t' : Nat), (MV.mk V.P V.m V.lc (V.mem.set e.loc.toNat e.val) (V.frm.set e.loc.toNat e.id) (V.bf.set t ((V.b t).eraseP p)) V.st).b t' = if t' = t then (V.b t).eraseP p else V.b t' := fun t' => by
    show (V.bf.set t _).getD t' [] = _
    rw [getDset (by rw [f.bf]; exact ht)]; rfl
  have k3l : k < h3.length := blk_lt' bk3
  have bw : ∀ l, blk? (setBlk h3 k (some ⟨true, 0, l⟩)) k = some ⟨true, 0, l⟩ := fun l => blk_set_self k3l _
  have kD : ∀ b, Kp n h (setBlk h3 k b) := fun b => (kC.mono a.hn).trans (Kp.set a.nk b)
  have xlt : ∀ j, isBlk x j → j < h.length := fun j q => (a.st.blkLt' q).2
  obtain ⟨x', h', e9, r9, k9, fr9⟩ := rv_push (W := { V with bf := V.bf.set t ((V.b t).eraseP p), mem := V.mem.set e.loc.toNat e.val, frm := V.frm.set e.loc.toNat e.id }) (bs := bs.set t x3) (bw _) f3 hpc bl' (Nat.le_trans a.hn (kD _).1) a.nk (by rw [take_keep (kD _)]; exact a.prog)
    ((a.st.keepK kC).setO a.sep _) a.sep (fun t' ht' => by
      rw [hbW, getDset (by rw [a.bl]; exact ht)]
      by_cases e : t' = t
      · rw [if_pos e, if_pos e]
        have nk3 : ¬ isBlk x3 k := fun q => by have := (o3.blkLt q).2; omega
        exact ⟨(o3'.monoN a.hn).setO nk3 _, nk3, fun j q1 q2 => by have := (o3.blkLt q1).2; have := xlt j q2; omega⟩
      · rw [if_neg e, if_neg e]
        obtain ⟨q1, q2, q3⟩ := a.bf t' ht'
        exact ⟨(q1.keepK kC).setO q2 _, q2, q3⟩) hst ⟨i, t, 6, e.loc, 0, e.val, e.id⟩
  refine ⟨x', bs.set t x3, h', ?_, r9, ⟨(kD _).trans k9, fun j b hj hne hnx => fr9 j b (by rw [blk_set_ne (fun e => hne e.symm), kC.blk (blk_lt' hj)]; exact hj) hne hnx⟩⟩
  have rd : ∀ {α : Type} {F : List Cell → Option α}, rdH h k 37 F = F (rvC pc V bs x) := fun {α F} => rdH_ok a.blk hl
  have bA : blk? (h ++ [some ⟨true, 3, ([] : List Cell)⟩]) k = some ⟨true, 0, rvC pc V bs x⟩ := blk_old a.blk _
  have bB : blk? (h ++ [some ⟨true, 3, entsC ((V.b t).take j)⟩]) k = some ⟨true, 0, rvC pc V bs x⟩ := blk_old a.blk _
  have rdW : ∀ (W : MV) (fW : W.Fit) {α : Type} {F : List Cell → Option α}, rdH (setBlk h3 k (some ⟨true, 0, rvC pc W (bs.set t x3) x⟩)) k 37 F = F (rvC pc W (bs.set t x3) x) := fun W fW {α F} => rdH_ok (bw _) (rv_len (x := x) fW hpc bl')
  obtain ⟨off, cs', g1, g2, g3⟩ := b1.at.elG hjl
  rw [ents_at hje] at g3
  have ca0 : ∀ {α : Type} {g : Cell → Option α}, atK e.cs 0 g = g (.int .i64 e.loc) := rfl
  have ca1 : ∀ {α : Type} {g : Cell → Option α}, atK e.cs 1 g = g (.int .i64 e.val) := rfl
  have ca2 : ∀ {α : Type} {g : Cell → Option α}, atK e.cs 2 g = g (.int .i64 e.id) := rfl
  rw [q182_ec5_n, if_pos rfl, oldest_R' hE.c198 a f ht loc p hp, c1_ok, asI_ok, hj, bind_ok]
  dsimp only
  rw [q182_ec6_n, if_pos hr, rd, Int.toNat_natCast, rv_buf f hpc a.bl ht, g1, if_pos g2, g3, if_pos (by exact ⟨rfl, rfl, rfl⟩), bind_ok]
  dsimp only
  rw [q182_ec7_n, if_pos (by rfl), if_pos hr, Int.toNat_natCast, rd0G bA hl, rv_buf f hpc a.bl ht, ea1, ea2, bind_ok, show ([] : List Cell).length = 0 from rfl, app_emptyG (len := j) (by omega) lenA (by omega) (by omega), if_pos hr, rd0G bB hl, rv_buf f hpc a.bl ht, g_succ (by omega), eb1, eb2, bind_ok, e3, if_pos hr, rdH_ok bk3 hl, if_pos (by rw [hl]; omega), rv_setB f hpc a.bl ht, putB bk3, bind_ok]
  dsimp only
  rw [q182_ec8_n, ca0, asI_ok, ca0, asI_ok, ca1, asI_ok, ca2, asI_ok]
  have e1 : rvC pc V (bs.set t x3) x = rvC pc { V with bf := V.bf.set t ((V.b t).eraseP p) } (bs.set t x3) x := rfl
  rw [e1, if_pos hel', rdW _ f1, if_pos (by rw [rv_len (x := x) f1 hpc bl']; omega), rv_setM f1 hpc he4, putB (bw _), setBlk_set, if_pos hel', rdW _ f2, if_pos (by rw [rv_len (x := x) f2 hpc bl']; omega), rv_setF f2 hpc he4, putB (bw _), setBlk_set, bind_ok]
  dsimp only
  rw [q182_ec9_n, ca0, asI_ok, ca1, asI_ok, ca2, asI_ok, if_pos (by exact (by decide : 1 < 7)), if_pos (by exact (by decide : 2 < 7)), if_pos (by exact (by decide : 3 < 7)), if_pos (by exact (by decide : 5 < 7)), if_pos (by exact (by decide : 6 < 7)), bind_ok]
  dsimp only
  have eS : ((((((Stp.cs ⟨i, i, 0, 0, 0, 0, -1⟩).set 1 (.int .i64 (t : Int))).set 2 (.int .i64 6)).set 3 (.int .i64 e.loc)).set 5 (.int .i64 e.val)).set 6 (.int .i64 e.id)) = Stp.cs ⟨i, t, 6, e.loc, 0, e.val, e.id⟩ := rfl
  have s7' : ∀ s : Stp, splice (List.replicate 7 (Cell.int .i64 0)) 0 s.cs = s.cs := fun _ => rfl
  rw [eS, q182_ec10_n, rdW _ f3, rv_steps f3 hpc bl', if_pos (by exact ⟨rfl, rfl⟩), if_pos (by exact ⟨rfl, by decide⟩), s7', if_pos (by exact rfl), e9, if_pos (by exact ⟨rfl, rfl⟩), if_pos (by exact ⟨rfl, hz, rfl⟩)]
end
end Jq

namespace Jq
open Go
theorem wr_fit {V : MV} (v : V.Inv) {i : Nat} (e : Evt) (hb : (V.b i).length < 24) : (V.wr i e).Fit := by
  have f := v.fit
  unfold MV.wr
  split
  · refine ⟨f.m, f.lc, f.mem, f.frm, by rw [List.length_set]; exact f.bf, fun l hl => ?_⟩
    rcases List.mem_or_eq_of_mem_set hl with hl | rfl
    · exact f.b l hl
    · rw [List.length_append, List.length_singleton]; omega
  · split
    · exact ⟨f.m, f.lc, by rw [List.length_set]; exact f.mem, by rw [List.length_set]; exact f.frm, f.bf, f.b⟩
    · exact f
section
variable {E : Env}
set_option maxHeartbeats 1000000 in
theorem rWrite {n k : Nat} {h : AHeap} {x : Cell} {bs pc : List Cell} {V : MV} (a : RvAt n h k x bs pc V) (v : V.Inv) {i : Nat} (hi : i < 4) (hb : (V.b i).length < 24) (e : Evt) (he : 0 ≤ e.loc ∧ e.loc < 4) (he45 : e.kind = 2 ∨ e.kind = 4 ∨ evWr e = false) (a15 : Int) (z s1 : List Cell) :
    ∃ bs' h', (q182_k25 (R E) Lim E.glob) .normal (q182_c20 k 37 0 (i : Int) V.st.length a15 (e.kind == 4 || (e.kind == 2 && V.m == 1)) z s1 e.cs h) = some (.normal, q182_c19 k 37 0 (i : Int) a15 z s1 h') ∧
      blk? h' k = some ⟨true, 0, rvC pc (V.wr i e) bs' x⟩ ∧ bs'.length = 4 ∧ (∀ t, t < 4 → Own n h' (bs'.getD t .nils) 3 (entsC ((V.wr i e).b t)) ((V.wr i e).b t).length ∧ ¬ isBlk (bs'.getD t .nils) k ∧ ∀ j, isBlk (bs'.getD t .nils) j → ¬ isBlk x j) ∧
      Kp n h h' ∧ (∀ j b, blk? h j = some b → j ≠ k → blk? h' j = some b) := by
  have f := v.fit
  have hpc := a.prog.len
  have hl := rv_len (x := x) f hpc a.bl
  have hr : 0 ≤ (i : Int) ∧ (i : Int) < ((4 : Nat) : Int) := ⟨by omega, by omega⟩
  have hk : k < h.length := blk_lt' a.blk
  have hel' : 0 ≤ e.loc ∧ e.loc < ((4 : Nat) : Int) := ⟨he.1, by omega⟩
  have he4 : e.loc.toNat < 4 := by omega
  have hM : maxBytes ≥ 1000 * 24 := by unfold maxBytes; omega
  have rd : ∀ {α : Type} {F : List Cell → Option α}, rdH h k 37 F = F (rvC pc V bs x) := fun {α F} => rdH_ok a.blk hl
  have bw : ∀ l, blk? (setBlk h k (some ⟨true, 0, l⟩)) k = some ⟨true, 0, l⟩ := fun l => blk_set_self hk _
  have xlt : ∀ j, isBlk x j → j < h.length := fun j q => (a.st.blkLt' q).2
  rw [q182_ec20_n]
  by_cases hmem : e.kind = 4 ∨ (e.kind = 2 ∧ V.m = 1)
  · rw [if_pos (by rw [Bool.or_eq_true, Bool.and_eq_true, beq_iff_eq, beq_iff_eq, beq_iff_eq]; exact hmem)]
    have hw : V.wr i e = { V with mem := V.mem.set e.loc.toNat e.w, frm := V.frm.set e.loc.toNat V.st.length } := by
      unfold MV.wr
      rw [if_neg (by omega), if_pos (by unfold evWr; rw [Bool.or_eq_true, beq_iff_eq, beq_iff_eq]; omega)]
    rw [hw]
    have f1 : MV.Fit { V with mem := V.mem.set e.loc.toNat e.w } := ⟨f.m, f.lc, by rw [List.length_set]; exact f.mem, f.frm, f.bf, f.b⟩
    have rd1 : ∀ {α : Type} {F : List Cell → Option α}, rdH (setBlk h k (some ⟨true, 0, rvC pc { V with mem := V.mem.set e.loc.toNat e.w } bs x⟩)) k 37 F = F (rvC pc { V with mem := V.mem.set e.loc.toNat e.w } bs x) := fun {α F} => rdH_ok (bw _) (rv_len (x := x) f1 hpc a.bl)
    refine ⟨bs, setBlk h k (some ⟨true, 0, rvC pc { V with mem := V.mem.set e.loc.toNat e.w, frm := V.frm.set e.loc.toNat V.st.length } bs x⟩), ?_, bw _, a.bl, fun t ht => ?_, Kp.set a.nk _, fun j b hj hne => by rw [blk_set_ne (fun e => hne e.symm)]; exact hj⟩
    · rw [evt_loc, asI_ok, evt_loc, asI_ok, evt_w, asI_ok, if_pos hel', rd, if_pos (by rw [hl]; omega), rv_setM f hpc he4, putB a.blk, if_pos hel', rd1, if_pos (by rw [rv_len (x := x) f1 hpc a.bl]; omega), rv_setF f1 hpc he4, putB (bw _), setBlk_set]
    · obtain ⟨q1, q2, q3⟩ := a.bf t ht
      exact ⟨q1.setO q2 _, q2, q3⟩
  · rw [if_neg (by rw [Bool.or_eq_true, Bool.and_eq_true, beq_iff_eq, beq_iff_eq, beq_iff_eq]; exact hmem), evt_kind, asI_ok, bind_ok]
    dsimp only
    rw [q182_ec21_n]
    by_cases h2 : e.kind = 2
    · have hm1 : V.m ≠ 1 := fun q => hmem (.inr ⟨h2, q⟩)
      have hw : V.wr i e = { V with bf := V.bf.set i (V.b i ++ [⟨e.loc, e.w, V.st.length⟩]) } := by
        unfold MV.wr
        rw [if_pos ⟨h2, hm1⟩]
      rw [hw]
      obtain ⟨b1, b2, b3⟩ := a.bf i hi
      have kA : Kp h.length h (h ++ [some ⟨true, 3, ([] : List Cell)⟩]) := Kp.app _ (Nat.le_refl _)
      have cl := (b1.keepK kA).at.cellsG
      have lenA : (entsC (V.b i)).length = (V.b i).length * 3 := entsC_len _
      have oB : Own h.length (h ++ [some ⟨true, 3, entsC (V.b i)⟩]) (.sl h.length (entsC (V.b i)).length 0 (V.b i).length) 3 (entsC (V.b i)) (V.b i).length := ⟨lenA, .inr ⟨h.length, rfl, Nat.le_refl _, blk_new _ _⟩⟩
      have kB : Kp h.length h (h ++ [some ⟨true, 3, entsC (V.b i)⟩]) := Kp.app _ (Nat.le_refl _)
      obtain ⟨x3, h3, e3, o3, k3, _⟩ := oB.app (bytes := 24) (xs := Ent.cs ⟨e.loc, e.w, V.st.length⟩) (by simp) rfl (by omega) (by omega) (by omega)
      have kC : Kp h.length h h3 := kB.trans k3
      have o3' : Own h.length h3 x3 3 (entsC (V.b i ++ [⟨e.loc, e.w, V.st.length⟩])) (V.b i ++ [(⟨e.loc, e.w, V.st.length⟩ : Ent)]).length := by
        rw [entsC_append, List.length_append, List.length_singleton]; exact o3
      have bk3 : blk? h3 k = some ⟨true, 0, rvC pc V bs x⟩ := by rw [kC.blk hk]; exact a.blk
      have k3l : k < h3.length := blk_lt' bk3
      have bA : blk? (h ++ [some ⟨true, 3, ([] : List Cell)⟩]) k = some ⟨true, 0, rvC pc V bs x⟩ := blk_old a.blk _
      have nk3 : ¬ isBlk x3 k := fun q => by have := (o3.blkLt q).2; omega
      refine ⟨bs.set i x3, setBlk h3 k (some ⟨true, 0, rvC pc V (bs.set i x3) x⟩), ?_, blk_set_self k3l _, by rw [List.length_set]; exact a.bl, fun t ht => ?_, (kC.mono a.hn).trans (Kp.set a.nk _), fun j b hj hne => by rw [blk_set_ne (fun e => hne e.symm), kC.blk (blk_lt' hj)]; exact hj⟩
      · rw [if_pos (by rw [beq_iff_eq]; exact h2), if_pos (by rfl), if_pos hr, rd0G bA hl, Int.toNat_natCast, rv_buf f hpc a.bl hi, cl, bind_ok, show ([] : List Cell).length = 0 from rfl, app_emptyG (len := (V.b i).length) (by omega) lenA (by omega) (by omega), evt_loc, asI_ok, evt_w, asI_ok, if_pos (by exact ⟨rfl, by decide⟩), if_pos (by rfl)]
        have eE : splice [Cell.int .i64 0, Cell.int .i64 0, Cell.int .i64 0] 0 (splice (splice (splice [Cell.int .i64 0, Cell.int .i64 0, Cell.int .i64 0] 0 ([(.int .i64 e.loc)] : List Cell)) 1 ([(.int .i64 e.w)] : List Cell)) 2 ([(.int .i64 (V.st.length : Int))] : List Cell)) = Ent.cs ⟨e.loc, e.w, V.st.length⟩ := rfl
        rw [eE, e3, if_pos hr, rdH_ok bk3 hl, if_pos (by rw [hl]; omega), rv_setB f hpc a.bl hi, putB bk3]
      · have hbW : (MV.mk V.P V.m V.lc V.mem V.frm (V.bf.set i (V.b i ++ [⟨e.loc, e.w, V.st.length⟩])) V.st).b t = if t = i then V.b i ++ [⟨e.loc, e.w, V.st.length⟩] else V.b t := by
          show (V.bf.set i _).getD t [] = _
          rw [getDset (by rw [f.bf]; exact hi)]; rfl
        rw [hbW, getDset (by rw [a.bl]; exact hi)]
        by_cases q : t = i
        · rw [if_pos q, if_pos q]
          exact ⟨(o3'.monoN a.hn).setO nk3 _, nk3, fun j q1 q2 => by have := (o3.blkLt q1).2; have := xlt j q2; omega⟩
        · rw [if_neg q, if_neg q]
          obtain ⟨q1, q2, q3⟩ := a.bf t ht
          exact ⟨(q1.keepK kC).setO q2 _, q2, q3⟩
    · have hw : V.wr i e = V := by
        unfold MV.wr
        have : evWr e = false := by
          rcases he45 with q | q | q
          · exact absurd q h2
          · exact absurd (.inl q) hmem
          · exact q
        rw [if_neg (fun c => h2 c.1), this]; rfl
      rw [hw]
      exact ⟨bs, h, by rw [if_neg (by rw [beq_iff_eq]; exact h2)], a.blk, a.bl, a.bf, Kp.refl _ _, fun j b hj _ => hj⟩
theorem rRead {n k : Nat} {h : AHeap} {x : Cell} {bs pc : List Cell} {V : MV} (a : RvAt n h k x bs pc V) (f : V.Fit) {i : Nat} (hi : i < 4) {q : Ins} (hq : 0 ≤ q.loc ∧ q.loc < 4) (n6 : Int) (z : List Cell) :
    (q182_k14 (R E) Lim E.glob) .normal (q182_c13 k 37 0 (i : Int) n6 0 (rdI q) z (Stp.cs ⟨i, i, 0, 0, 0, 0, -1⟩) q.cs h) =
      some (.normal, q182_c12 k 37 0 (i : Int) n6 (if rdI q = true then (V.val i q).1 else 0) z (Stp.cs ⟨i, i, 0, 0, 0, 0, if rdI q = true then (V.val i q).2 else -1⟩) q.cs h) := by
  have hpc := a.prog.len
  have hl := rv_len (x := x) f hpc a.bl
  have hr : 0 ≤ (i : Int) ∧ (i : Int) < ((4 : Nat) : Int) := ⟨by omega, by omega⟩
  have rd : ∀ {α : Type} {F : List Cell → Option α}, rdH h k 37 F = F (rvC pc V bs x) := fun {α F} => rdH_ok a.blk hl
  have hql : 0 ≤ q.loc ∧ q.loc < ((4 : Nat) : Int) := ⟨hq.1, by omega⟩
  have hq4 : q.loc.toNat < 4 := by omega
  have hmem : V.mem[q.loc.toNat]? = some (V.mem.getD q.loc.toNat 0) := by
    rw [List.getD_eq_getElem?_getD, List.getElem?_eq_getElem (by rw [f.mem]; exact hq4)]; rfl
  have hfrm : V.frm[q.loc.toNat]? = some (V.frm.getD q.loc.toNat 0) := by
    rw [List.getD_eq_getElem?_getD, List.getElem?_eq_getElem (by rw [f.frm]; exact hq4)]; rfl
  have o := (a.bf i hi).1.at
  have hbl : (V.b i).length ≤ 24 := f.b _ (List.mem_of_getElem? (MV.b_at (by rw [f.bf]; exact hi)))
  rw [q182_ec13_n]
  cases hrd : rdI q with
  | false => rfl
  | true =>
    rw [if_pos rfl, if_pos rfl, if_pos rfl]
    generalize hg : (fun l : List Ent => match newE q.loc l with | some e => (e.val, e.id) | none => (V.mem.getD q.loc.toNat 0, V.frm.getD q.loc.toNat 0)) = g
    have g0 : g [] = (V.mem.getD q.loc.toNat 0, V.frm.getD q.loc.toNat 0) := by rw [← hg]; rfl
    have gs : ∀ (l : List Ent) (e : Ent), g (l ++ [e]) = if e.loc = q.loc then (e.val, e.id) else g l := fun l e => by
      rw [← hg]
      dsimp only
      rw [newE_snoc]
      by_cases c : e.loc = q.loc
      · rw [if_pos c, if_pos c]
      · rw [if_neg c, if_neg c]
    have gv : V.val i q = g (V.b i) := by rw [← hg]; rfl
    have lp : Lim (q182_F1 (R E) Lim E.glob) (q182_s1 k 37 0 (i : Int) n6 (g []).1 ((0 : Nat) : Int) z (Stp.cs ⟨i, i, 0, 0, 0, 0, (g []).2⟩) q.cs h) = some (.exit 0, q182_x1_1 k 37 0 (i : Int) n6 (g (V.b i)).1 z (Stp.cs ⟨i, i, 0, 0, 0, 0, (g (V.b i)).2⟩) q.cs h) := by
      have lc := Lim_count (F := q182_F1 (R E) Lim E.glob) (fun j => q182_s1 k 37 0 (i : Int) n6 (g ((V.b i).take j)).1 (j : Int) z (Stp.cs ⟨i, i, 0, 0, 0, 0, (g ((V.b i).take j)).2⟩) q.cs h) 0 (V.b i).length (by omega) (fun j _ hj => by
        have he : (V.b i)[j]? = some (V.b i)[j] := List.getElem?_eq_getElem hj
        generalize (V.b i)[j] = e at he
        rw [takeI_succ he, gs]
        rw [q182_r1, if_pos hr, rd, Int.toNat_natCast, rv_buf f hpc a.bl hi, o.len, if_pos (by simp; omega), bind_ok]
        dsimp only
        rw [q182_ec15_n, if_pos hr, rd, Int.toNat_natCast, rv_buf f hpc a.bl hi, ent_loc o he, asI_ok, ins_loc, asI_ok, bind_ok]
        dsimp only
        rw [q182_ec16_n, g_succ (by omega)]
        by_cases c : e.loc = q.loc
        · rw [if_pos (by rw [beq_iff_eq]; exact c), if_pos c, if_pos hr, rd, Int.toNat_natCast, rv_buf f hpc a.bl hi, ent_val o he, asI_ok, if_pos hr, rd, rv_buf f hpc a.bl hi, ent_id o he, asI_ok, if_pos (by exact (by decide : 6 < 7))]
          rfl
        · rw [if_neg (by rw [beq_iff_eq]; exact c), if_neg c]) (p := (.exit 0, q182_x1_1 k 37 0 (i : Int) n6 (g (V.b i)).1 z (Stp.cs ⟨i, i, 0, 0, 0, 0, (g (V.b i)).2⟩) q.cs h)) (Lim_exit (by
        rw [q182_r1, if_pos hr, rd, Int.toNat_natCast, rv_buf f hpc a.bl hi, o.len, if_neg (by simp), bind_ok, List.take_of_length_le (Nat.le_refl _)]
        dsimp only
        rw [q182_ec15_1]))
      rw [List.take_zero] at lc
      exact lc
    rw [show ((0 : Nat) : Int) = 0 from rfl, g0] at lp
    rw [ins_loc, asI_ok, if_pos hql, rd, rv_mem f hpc hmem, asI_ok, ins_loc, asI_ok, if_pos hql, rd, rv_frm f hpc hfrm, asI_ok, if_pos (by exact (by decide : 6 < 7)), bind_ok]
    dsimp only
    rw [show (Stp.cs ⟨i, i, 0, 0, 0, 0, -1⟩).set 6 (.int .i64 (V.frm.getD q.loc.toNat 0)) = Stp.cs ⟨i, i, 0, 0, 0, 0, V.frm.getD q.loc.toNat 0⟩ from rfl, q182_ec14_n, lp, bind_ok]
    dsimp only
    rw [q182_e1_1, gv]
set_option maxHeartbeats 2000000 in
theorem rThread (hE : q182_In E) {n k : Nat} {h : AHeap} {x : Cell} {bs pc : List Cell} {V : MV} (a : RvAt n h k x bs pc V) (v : V.Inv) (hg : V.P.good) (hst : V.st.length < 100000) {i : Nat} (h4 : i < 4) (hi : V.may i = true) (h0 : AHeap) (z : List Cell) (hz : z.length = 7) :
    ∃ x' bs' h', (q182_k5 (R E) Lim E.glob h0) .normal (q182_c4 k 37 0 (i : Int) V.st.length z (Stp.cs ⟨i, i, 0, 0, 0, 0, -1⟩) h) = some ([.agg (V.stp i).cs, .c (.bool true)], h') ∧ RvAt n h' k x' bs' pc (V.nx i) ∧ KpV n k x x' h h' := by
  have f := v.fit
  have hpc := a.prog.len
  have hl := rv_len (x := x) f hpc a.bl
  have hr : 0 ≤ (i : Int) ∧ (i : Int) < ((4 : Nat) : Int) := ⟨by omega, by omega⟩
  have hk : k < h.length := blk_lt' a.blk
  have rd : ∀ {α : Type} {F : List Cell → Option α}, rdH h k 37 F = F (rvC pc V bs x) := fun {α F} => rdH_ok a.blk hl
  have p := prog_at a.prog a.hn (Kp.refl n h)
  have hql := MV.l_at (V := V) (t := i) (by rw [f.lc]; exact h4)
  have hq := MV.may_thr h4 hi
  have hS : V.stp i = { V.thrS i (V.thrI i) with pick := i } := by unfold MV.stp; rw [if_pos h4]
  have hN : V.nx i = { V.thrM i (V.thrI i) with st := V.st ++ [V.stp i] } := by unfold MV.nx; rw [if_pos h4]
  generalize V.thrI i = q at hq hS hN
  obtain ⟨q1, q2, q3, q4, q5⟩ := v.nxt hq
  have hbl : (V.b i).length < 24 := by have := v.pcs i h4; omega
  have hrd : (q.kind == 2 || q.kind == 4) = rdI q := by unfold rdI; rw [Bool.eq_iff_iff]; simp
  generalize ha15 : (if rdI q = true then (V.val i q).1 else 0) = a15
  have hev : evOf q (V.l i) a15 = evOf q (V.l i) (V.val i q).1 := by
    cases c : rdI q with
    | true => rw [← ha15, c, if_pos rfl]
    | false => exact evOf_novalue c _ _ _
  have haf : afterL (V.P.code i) (V.l i) a15 = afterL (V.P.code i) (V.l i) (V.val i q).1 := by
    cases c : rdI q with
    | true => rw [← ha15, c, if_pos rfl]
    | false => exact afterL_novalue hq c _ _
  have rR := rRead (E := E) a f h4 q1 V.st.length z
  rw [ha15] at rR
  generalize hfr : (if rdI q = true then (V.val i q).2 else -1) = fr at rR
  generalize hee : evOf q (V.l i) (V.val i q).1 = e at *
  have he : 0 ≤ e.loc ∧ e.loc < 4 := by rw [← hee]; exact evOf_loc q1
  have he45 : e.kind = 2 ∨ e.kind = 4 ∨ evWr e = false := by
    by_cases c2 : e.kind = 2
    · exact .inl c2
    · by_cases c4 : e.kind = 4
      · exact .inr (.inl c4)
      · refine .inr (.inr ?_)
        unfold evWr
        rw [beq_false_of_ne c2, beq_false_of_ne c4]; rfl
  have eS : V.stp i = ⟨i, i, e.kind, e.loc, e.r, e.w, fr⟩ := by
    rw [hS]; unfold MV.thrS; rw [hee, hfr]
  obtain ⟨bs', h', w1, w2, w3, w4, w5, w6⟩ := rWrite (E := E) a v h4 hbl e he he45 a15 z (V.stp i).cs
  have fW := wr_fit v e hbl
  obtain ⟨wl, wP, wm⟩ := V.wr_lc i e
  have hl' := rv_len (x := x) fW hpc w3
  have hk' : k < h'.length := blk_lt' w2
  have p' := prog_at a.prog a.hn w5
  have fN : MV.Fit { V.wr i e with lc := V.lc.set i (afterL (V.P.code i) (V.l i) (V.val i q).1) } := ⟨fW.m, by rw [List.length_set]; exact f.lc, fW.mem, fW.frm, fW.bf, fW.b⟩
  have hsetL : splice (rvC pc (V.wr i e) bs' x) ((0 + 12) + i * 5) (afterL (V.P.code i) (V.l i) a15).cs = rvC pc { V.wr i e with lc := V.lc.set i (afterL (V.P.code i) (V.l i) (V.val i q).1) } bs' x := by
    rw [haf, rv_setL fW hpc h4, wl]
  have k5 : Kp n h' (setBlk h' k (some ⟨true, 0, rvC pc { V.wr i e with lc := V.lc.set i (afterL (V.P.code i) (V.l i) (V.val i q).1) } bs' x⟩)) := Kp.set a.nk _
  have kk : Kp n h (setBlk h' k (some ⟨true, 0, rvC pc { V.wr i e with lc := V.lc.set i (afterL (V.P.code i) (V.l i) (V.val i q).1) } bs' x⟩)) := w5.trans k5
  have hstW : (V.wr i e).st = V.st := by unfold MV.wr; split <;> (try split) <;> rfl
  obtain ⟨x', h9, e9, r9, k9, fr9⟩ := rv_push (W := { V.wr i e with lc := V.lc.set i (afterL (V.P.code i) (V.l i) (V.val i q).1) }) (bs := bs') (x := x) (blk_set_self hk' _) fN hpc w3 (Nat.le_trans a.hn kk.1) a.nk (by rw [take_keep kk]; show ProgAt _ _ (V.wr i e).P; rw [wP]; exact a.prog)
    (by
      show Own n _ x 7 (stepsC (V.wr i e).st) (V.wr i e).st.length
      rw [hstW]
      exact a.st.via fun j b s1 s2 => by
        have hne : j ≠ k := fun c => a.sep (c ▸ s1)
        rw [blk_set_ne (fun c => hne c.symm)]; exact w6 j b s2 hne) a.sep
    (fun t ht => by
      obtain ⟨s1, s2, s3⟩ := w4 t ht
      exact ⟨s1.setO s2 _, s2, s3⟩) (by show (V.wr i e).st.length < 100000; rw [hstW]; exact hst) (V.stp i)
  have hNX : V.nx i = { V.wr i e with lc := V.lc.set i (afterL (V.P.code i) (V.l i) (V.val i q).1), st := (V.wr i e).st ++ [V.stp i] } := by
    rw [hN, hstW]; unfold MV.thrM; rw [hee]
  refine ⟨x', bs', h9, ?_, by rw [hNX]; exact r9, ⟨kk.trans k9, fun j b hj hne hnx => fr9 j b (by rw [blk_set_ne (fun c => hne c.symm)]; exact w6 j b hj hne) hne hnx⟩⟩
  have sets : ((((Stp.cs ⟨i, i, 0, 0, 0, 0, fr⟩).set 2 (.int .i64 e.kind)).set 3 (.int .i64 e.loc)).set 4 (.int .i64 e.r)).set 5 (.int .i64 e.w) = (V.stp i).cs := by rw [eS]; rfl
  have s7' : ∀ s : Stp, splice (List.replicate 7 (Cell.int .i64 0)) 0 s.cs = s.cs := fun _ => rfl
  have hqn : nextI (V.P.code i) (V.l i) = some q := hq
  rw [q182_ec4_n, rd, if_pos (by rw [hl]; omega), if_pos hr, rd, Int.toNat_natCast, if_pos (by rw [hl]; omega), rv_prog hpc, rv_lcl f hpc hql, refNext_R hE.c81 hg p, hqn, qh_ok, c2_ok, asA_ok, asB_ok, if_pos (by exact ⟨rfl, rfl, rfl⟩), bind_ok]
  dsimp only [Option.getD_some]
  rw [q182_ec11_n, ins_kind, asI_ok, ins_kind, asI_ok, scK_or, bind_ok, hrd]
  dsimp only
  rw [rR, bind_ok]
  dsimp only
  rw [q182_ec12_n, if_pos (by exact ⟨rfl, rfl⟩), if_pos hr, rd, Int.toNat_natCast, if_pos (by rw [hl]; omega), rv_lcl f hpc hql, evOf_ref hE.c111, hev, qh_ok, c1_ok, asA_ok, if_pos (by exact ⟨rfl, rfl, rfl⟩), bind_ok]
  dsimp only
  rw [q182_ec17_n, evt_kind, asI_ok, evt_loc, asI_ok, evt_r, asI_ok, evt_w, asI_ok, if_pos (by exact (by decide : 2 < 7)), if_pos (by exact (by decide : 3 < 7)), if_pos (by exact (by decide : 4 < 7)), if_pos (by exact (by decide : 5 < 7)), bind_ok]
  dsimp only
  rw [sets, q182_ec18_n]
  simp only [evt_kind, asI_ok, rd, rv_m hpc, scK_and, scK_or, bind_ok]
  rw [w1, bind_ok]
  dsimp only
  rw [q182_ec19_n, rdH_ok w2 hl', if_pos (by rw [hl']; omega), if_pos hr, rdH_ok w2 hl', Int.toNat_natCast, if_pos (by rw [hl']; omega), rv_prog hpc, rv_lcl fW hpc (by rw [wl]; exact hql), refAfter_R hE.c107 hg p', qh_ok, c1_ok, asA_ok, if_pos hr, rdH_ok w2 hl', if_pos (by exact ⟨by rw [hl']; omega, rfl⟩), hsetL, putB w2, bind_ok]
  dsimp only
  rw [q182_ec22_n, rdH_ok (blk_set_self hk' _) (rv_len (x := x) fN hpc w3), rv_steps fN hpc w3, if_pos (by exact ⟨rfl, rfl⟩), if_pos (by exact ⟨rfl, by decide⟩), s7', if_pos (by exact rfl), e9, if_pos (by exact ⟨rfl, rfl⟩), if_pos (by exact ⟨rfl, hz, rfl⟩), if_pos (by exact ⟨rfl, rfl⟩)]
theorem rPick_no (hE : q182_In E) {n k : Nat} {h : AHeap} {x : Cell} {bs pc : List Cell} {V : MV} (a : RvAt n h k x bs pc V) (f : V.Fit) (hg : V.P.good) {i : Int} (hi : mayI V i = false) :
    R E 182 [.c (.ptr k 37 0), .c (.int .i64 i)] h = some ([.agg (Stp.cs ⟨0, 0, 0, 0, 0, 0, 0⟩), .c (.bool false)], h) := by
  refine R_intro hE.fn ?_
  rw [q182_eq, May_R hE.c196 a f hg, c1_ok, asB_ok, hi, if_pos (by simp), if_pos (by exact ⟨rfl, rfl, rfl⟩), bind_ok]
  dsimp only
  rw [q182_ec1_0, if_pos (by exact ⟨rfl, rfl⟩)]
  rfl
theorem rPick_R (hE : q182_In E) {n k : Nat} {h : AHeap} {x : Cell} {bs pc : List Cell} {V : MV} (a : RvAt n h k x bs pc V) (v : V.Inv) (hg : V.P.good) (hst : V.st.length < 100000) {i : Nat} (hi : V.may i = true) :
    ∃ x' bs' h', R E 182 [.c (.ptr k 37 0), .c (.int .i64 (i : Int))] h = some ([.agg (V.stp i).cs, .c (.bool true)], h') ∧ RvAt n h' k x' bs' pc (V.nx i) ∧ KpV n k x x' h h' := by
  have f := v.fit
  have hpc := a.prog.len
  have hl := rv_len (x := x) f hpc a.bl
  have rd : ∀ {α : Type} {F : List Cell → Option α}, rdH h k 37 F = F (rvC pc V bs x) := fun {α F} => rdH_ok a.blk hl
  have e1 : splice (splice (splice (List.replicate 7 (Cell.int .i64 0)) 0 ([(.int .i64 (i : Int))] : List Cell)) 1 ([(.int .i64 (i : Int))] : List Cell)) 6 ([(.int .i64 (-1))] : List Cell) = Stp.cs ⟨i, i, 0, 0, 0, 0, -1⟩ := rfl
  by_cases h4 : i < 4
  · obtain ⟨x', bs', h', r1, r2, r3⟩ := rThread hE a v hg hst h4 hi h (List.replicate 7 (Cell.int .i64 0)) rfl
    refine ⟨x', bs', h', R_intro hE.fn ?_, r2, r3⟩
    have hno : fluOf V.m (i : Int) = (0, 0, false) := by unfold fluOf; rw [if_neg (by omega), if_neg (by omega)]
    rw [q182_eq, May_R hE.c196 a f hg, c1_ok, asB_ok, mayI_nat, hi, if_neg (by simp), bind_ok]
    dsimp only
    rw [q182_ec1_n, rd, rv_steps f hpc a.bl, a.st.at.len, bind_ok]
    dsimp only
    rw [q182_ec2_n, e1, if_pos (by exact ⟨rfl, rfl, rfl⟩), bind_ok]
    dsimp only
    rw [q182_ec3_n, refFlush_R hE.c197 a f, hno, c3_ok, asI_ok, asI_ok, asB_ok, bind_ok]
    dsimp only
    rw [q182_ec5_n, if_neg (by simp), bind_ok]
    exact r1
  · obtain ⟨t, loc, p, e, ht, hp, hfl, hf, hs, hnx⟩ := flu_data h4 hi
    obtain ⟨x', bs', h', r1, r2, r3⟩ := rFlush hE a v hst (i := (i : Int)) ht hp hf (List.replicate 7 (Cell.int .i64 0)) rfl
    refine ⟨x', bs', h', R_intro hE.fn ?_, by rw [hnx, hs]; exact r2, r3⟩
    rw [q182_eq, May_R hE.c196 a f hg, c1_ok, asB_ok, mayI_nat, hi, if_neg (by simp), bind_ok]
    dsimp only
    rw [q182_ec1_n, rd, rv_steps f hpc a.bl, a.st.at.len, bind_ok]
    dsimp only
    rw [q182_ec2_n, e1, if_pos (by exact ⟨rfl, rfl, rfl⟩), bind_ok]
    dsimp only
    rw [q182_ec3_n, refFlush_R hE.c197 a f, hfl, c3_ok, asI_ok, asI_ok, asB_ok, bind_ok]
    dsimp only
    rw [r1, bind_ok]
    dsimp only
    rw [q182_ec4_0, if_pos (by exact ⟨rfl, rfl⟩), hs]
end
end Jq

namespace Jq
open Go
theorem RvAt.keep {n : Nat} {h h' : AHeap} {k : Nat} {x : Cell} {bs pc : List Cell} {V : MV} (a : RvAt n h k x bs pc V) (hk : Kp h.length h h') : RvAt n h' k x bs pc V :=
  ⟨Nat.le_trans a.hn hk.1, a.nk, by rw [take_keep (hk.mono a.hn)]; exact a.prog, by rw [hk.blk (blk_lt' a.blk)]; exact a.blk, a.st.keepK hk, a.sep, a.bl, fun t ht => by
    obtain ⟨q1, q2, q3⟩ := a.bf t ht
    exact ⟨q1.keepK hk, q2, q3⟩⟩
theorem RvAt.other {n : Nat} {h h' : AHeap} {k : Nat} {x : Cell} {bs pc : List Cell} {V : MV} (a : RvAt n h k x bs pc V) (hl : h.length ≤ h'.length) (hn : Kp n h h') (hk : ∀ j b, blk? h j = some b → j = k ∨ isBlk x j ∨ (∃ t, t < 4 ∧ isBlk (bs.getD t .nils) j) → blk? h' j = some b) : RvAt n h' k x bs pc V :=
  ⟨Nat.le_trans a.hn hl, a.nk, by rw [take_keep hn]; exact a.prog, hk k _ a.blk (.inl rfl), a.st.via fun j b q1 q2 => hk j b q2 (.inr (.inl q1)), a.sep, a.bl, fun t ht => by
    obtain ⟨q1, q2, q3⟩ := a.bf t ht
    exact ⟨q1.via fun j b s1 s2 => hk j b s2 (.inr (.inr ⟨t, ht, s1⟩)), q2, q3⟩⟩
theorem may_bits (V : MV) : (List.range 24).filter V.may = bitsL V.word := by
  unfold bitsL
  rw [show (fun i => V.word.testBit i) = V.may from funext fun i => V.word_bit i]
  have e : List.range 64 = List.range 24 ++ List.range' 24 40 := by decide
  rw [e, List.filter_append]
  have : (List.range' 24 40).filter V.may = [] := by
    rw [List.filter_eq_nil_iff]
    intro a ha
    rw [List.mem_range'_1] at ha
    rw [MV.may_out (by omega)]; simp
  rw [this, List.append_nil]
theorem startL_out {P : PProg} {t : Nat} (h : P.thr.length ≤ t) : startL P (t : Int) = Lcl.zero := by
  have : P.code (t : Int) = [] := code_out (by omega)
  unfold startL normL
  rw [this]; rfl
def lcU (P : PProg) (t : Nat) : List Lcl := [if 0 < t then startL P 0 else Lcl.zero, if 1 < t then startL P 1 else Lcl.zero, if 2 < t then startL P 2 else Lcl.zero, if 3 < t then startL P 3 else Lcl.zero]
theorem lcU_next (P : PProg) : ∀ t, t < 4 → (lcU P t).set t (startL P (t : Int)) = lcU P (t + 1)
  | 0, _ => rfl
  | 1, _ => rfl
  | 2, _ => rfl
  | 3, _ => rfl
  | t + 4, h => by omega
theorem lcU_end (P : PProg) : lcU P P.thr.length = [startL P 0, startL P 1, startL P 2, startL P 3] := by
  have key : ∀ t : Nat, (if t < P.thr.length then startL P (t : Int) else Lcl.zero) = startL P (t : Int) := fun t => by
    split
    · rfl
    · exact (startL_out (by omega)).symm
  unfold lcU
  have e0 := key 0; have e1 := key 1; have e2 := key 2; have e3 := key 3
  rw [show ((0 : Nat) : Int) = 0 from rfl] at e0
  rw [show ((1 : Nat) : Int) = 1 from rfl] at e1
  rw [show ((2 : Nat) : Int) = 2 from rfl] at e2
  rw [show ((3 : Nat) : Int) = 3 from rfl] at e3
  rw [e0, e1, e2, e3]
def MV.raw (P : PProg) (m : Int) (lc : List Lcl) (mem : List Int) : MV := ⟨P, m, lc, mem, [-1, -1, -1, -1], [[], [], [], []], []⟩
theorem MV.raw_fit {P : PProg} {m : Int} {lc : List Lcl} {mem : List Int} (hm : 1 ≤ m ∧ m ≤ 3) (h1 : lc.length = 4) (h2 : mem.length = 4) : (MV.raw P m lc mem).Fit :=
  ⟨hm, h1, h2, rfl, rfl, fun l hl => by simp [MV.raw] at hl; subst hl; simp⟩
set_option maxRecDepth 100000 in
theorem raw_0 (a b c : Cell) (P : PProg) (m : Int) : splice (splice (splice ([Cell.nils, Cell.nils, Cell.nils] ++ List.replicate 29 (Cell.int .i64 0) ++ List.replicate 5 (Cell.nils)) 0 [a, b, c]) 3 ([(.int .i64 m)] : List Cell)) 8 (splice (splice (splice (splice [Cell.int .i64 0, Cell.int .i64 0, Cell.int .i64 0, Cell.int .i64 0] 0 ([(.int .i64 (-1))] : List Cell)) 1 ([(.int .i64 (-1))] : List Cell)) 2 ([(.int .i64 (-1))] : List Cell)) 3 ([(.int .i64 (-1))] : List Cell)) =
    rvC [a, b, c] (MV.raw P m (lcU P 0) [0, 0, 0, 0]) [.nils, .nils, .nils, .nils] .nils := by kernel_rfl
theorem init_take_set {l : List Int} (h4 : l.length ≤ 4) {i : Nat} {v : Int} (hv : l[i]? = some v) : (l.take i ++ List.replicate (4 - i) 0).set i v = l.take (i + 1) ++ List.replicate (4 - (i + 1)) 0 := by
  have hi := getI_lt hv
  have hl : (l.take i).length = i := by rw [List.length_take]; omega
  rw [takeI_succ hv, List.set_append_right _ _ (by omega), hl, Nat.sub_self, show 4 - i = (4 - (i + 1)) + 1 by omega, List.replicate_succ, List.set_cons_zero, List.append_assoc]
  rfl
section
variable {E : Env}
theorem rNew_R (hE : q180_In E) {h : AHeap} {pc : List Cell} {P : PProg} (p : ProgAt h pc P) (hg : P.good) (h4 : P.thr.length ≤ 4) (hil : P.init.length ≤ 4) {m : Int} (hm : 1 ≤ m ∧ m ≤ 3) :
    ∃ h', R E 180 [.agg pc, .c (.int .i64 m)] h = some ([.c (.ptr h.length 37 0)], h') ∧ RvAt h.length h' h.length .nils [.nils, .nils, .nils, .nils] pc (MV.new P m) ∧ Kp h.length h h' := by
  obtain ⟨a, b, c, ts, he, _⟩ := id p
  subst he
  have hpc : ([a, b, c] : List Cell).length = 3 := rfl
  have hbs : ([.nils, .nils, .nils, .nils] : List Cell).length = 4 := rfl
  have b8 : ∀ l : List Cell, blk? (h ++ [some ⟨true, 0, l⟩]) h.length = some ⟨true, 0, l⟩ := fun l => blk_new _ _
  have p9 : ∀ q, ProgAt (h ++ [some q]) [a, b, c] P := fun q => p.keep (Kp.app _ (Nat.le_refl _))
  have put : ∀ (l cs : List Cell) {α : Type} {F : AHeap → Option α}, putH (h ++ [some ⟨true, 0, l⟩]) h.length cs F = F (h ++ [some ⟨true, 0, cs⟩]) := fun l cs α F => by rw [putB (b8 l), setBlk_last]
  obtain ⟨bi, hbi, hbl, hbg⟩ := p.initG
  have q1 : ∀ {α : Type} (f : Cell → Option α), atK [a, b, c] 1 f = f b := fun _ => rfl
  have ebi : bi = b := by
    have := hbg (α := Cell) (fun c => some c)
    rw [q1] at this
    exact (Option.some.inj this).symm
  subst ebi
  have lens : ∀ lc mem, lc.length = 4 → mem.length = 4 → (rvC [a, bi, c] (MV.raw P m lc mem) [.nils, .nils, .nils, .nils] .nils).length = 37 := fun lc mem h1 h2 => rv_len (MV.raw_fit hm h1 h2) hpc hbs
  have rd : ∀ (lc : List Lcl) (mem : List Int) {α : Type} {F : List Cell → Option α}, lc.length = 4 → mem.length = 4 → rdH (h ++ [some ⟨true, 0, rvC [a, bi, c] (MV.raw P m lc mem) [.nils, .nils, .nils, .nils] .nils⟩]) h.length 37 F = F (rvC [a, bi, c] (MV.raw P m lc mem) [.nils, .nils, .nils, .nils] .nils) := fun lc mem α F h1 h2 => rdH_ok (b8 _) (lens lc mem h1 h2)
  have hbi' : ∀ q, SlAt (h ++ [some q]) bi 1 (intC .i64 P.init) P.init.length := fun q => hbi.keep hbl (Kp.app _ (Nat.le_refl _))
  have ml : ∀ i, i ≤ P.init.length → (P.init.take i ++ List.replicate (4 - i) 0).length = 4 := fun i hi => by rw [List.length_append, List.length_take, List.length_replicate]; omega
  have l1 : Lim (q180_F1 (R E) Lim E.glob) (q180_s1 h.length 37 0 ((0 : Nat) : Int) [a, bi, c] (h ++ [some ⟨true, 0, rvC [a, bi, c] (MV.raw P m (lcU P 0) (P.init.take 0 ++ List.replicate (4 - 0) 0)) [.nils, .nils, .nils, .nils] .nils⟩])) = some (.exit 0, q180_x1_1 h.length 37 0 [a, bi, c] (h ++ [some ⟨true, 0, rvC [a, bi, c] (MV.raw P m (lcU P 0) (MV.new P m).mem) [.nils, .nils, .nils, .nils] .nils⟩])) := by
    refine Lim_count (F := q180_F1 (R E) Lim E.glob) (fun i => q180_s1 h.length 37 0 (i : Int) [a, bi, c] (h ++ [some ⟨true, 0, rvC [a, bi, c] (MV.raw P m (lcU P 0) (P.init.take i ++ List.replicate (4 - i) 0)) [.nils, .nils, .nils, .nils] .nils⟩])) 0 P.init.length (by omega) (fun i _ hi => ?_) (Lim_exit ?_)
    · have hv : P.init[i]? = some P.init[i] := List.getElem?_eq_getElem hi
      generalize P.init[i] = v at hv
      have hr : 0 ≤ (i : Int) ∧ (i : Int) < ((4 : Nat) : Int) := ⟨by omega, by omega⟩
      have hset := rv_setM (bs := [.nils, .nils, .nils, .nils]) (x := .nils) (MV.raw_fit (P := P) (lc := lcU P 0) hm rfl (ml i (by omega))) hpc (i := i) (by omega) v
      rw [q180_r1, q1, hbi.len, if_pos (by simp; omega), q1, (hbi' _).get1 hi (intC_get hv), asI_ok, if_pos hr, rd _ _ rfl (ml i (by omega)), Int.toNat_natCast, if_pos (by rw [lens _ _ rfl (ml i (by omega))]; omega), hset, put, g_succ (by omega)]
      rw [show ({ MV.raw P m (lcU P 0) (P.init.take i ++ List.replicate (4 - i) 0) with mem := (MV.raw P m (lcU P 0) (P.init.take i ++ List.replicate (4 - i) 0)).mem.set i v } : MV) = MV.raw P m (lcU P 0) ((P.init.take i ++ List.replicate (4 - i) 0).set i v) from rfl, init_take_set hil hv]
    · rw [q180_r1, q1, hbi.len, if_neg (by simp), List.take_of_length_le (Nat.le_refl _)]
      rfl
  have nm : (MV.new P m).mem.length = 4 := (MV.new_fit hm hil).mem
  have n3 : ∀ {α : Type} {h' : AHeap} {F : Int → Option α}, ProgAt h' [a, bi, c] P → (atK [a, bi, c] 2 fun q => lenK q F) = F P.thr.length := fun pp => pp.nthr
  have l2 : Lim (q180_F2 (R E) Lim E.glob) (q180_s2 h.length 37 0 ((0 : Nat) : Int) [a, bi, c] (h ++ [some ⟨true, 0, rvC [a, bi, c] (MV.raw P m (lcU P 0) (MV.new P m).mem) [.nils, .nils, .nils, .nils] .nils⟩])) = some (.exit 2, q180_x2_3 h.length 37 0 (h ++ [some ⟨true, 0, rvC [a, bi, c] (MV.raw P m (lcU P P.thr.length) (MV.new P m).mem) [.nils, .nils, .nils, .nils] .nils⟩])) := by
    refine Lim_count (F := q180_F2 (R E) Lim E.glob) (fun i => q180_s2 h.length 37 0 (i : Int) [a, bi, c] (h ++ [some ⟨true, 0, rvC [a, bi, c] (MV.raw P m (lcU P i) (MV.new P m).mem) [.nils, .nils, .nils, .nils] .nils⟩])) 0 P.thr.length (by omega) (fun i _ hi => ?_) (Lim_exit ?_)
    · have hr : 0 ≤ (i : Int) ∧ (i : Int) < ((4 : Nat) : Int) := ⟨by omega, by omega⟩
      have hset := rv_setL (bs := [.nils, .nils, .nils, .nils]) (x := .nils) (MV.raw_fit (P := P) (lc := lcU P i) hm rfl nm) hpc (t := i) (by omega) (startL P (i : Int))
      rw [q180_r2, n3 p, if_pos (by simp; omega), if_pos (by exact ⟨rfl, rfl⟩), refStart_R hE.c104 hg (p9 _), qh_ok, c1_ok, asA_ok, if_pos hr, rd _ _ rfl nm, Int.toNat_natCast, if_pos (by exact ⟨by rw [lens _ _ rfl nm]; omega, rfl⟩), hset, put, g_succ (by omega)]
      rw [show ({ MV.raw P m (lcU P i) (MV.new P m).mem with lc := (MV.raw P m (lcU P i) (MV.new P m).mem).lc.set i (startL P (i : Int)) } : MV) = MV.raw P m ((lcU P i).set i (startL P (i : Int))) (MV.new P m).mem from rfl, lcU_next P i (by omega)]
    · rw [q180_r2, n3 p, if_neg (by simp)]
  rw [show ((0 : Nat) : Int) = 0 from rfl] at l1 l2
  have efin : MV.raw P m (lcU P P.thr.length) (MV.new P m).mem = MV.new P m := by rw [lcU_end P]; rfl
  rw [efin] at l2
  refine ⟨h ++ [some ⟨true, 0, rvC [a, bi, c] (MV.new P m) [.nils, .nils, .nils, .nils] .nils⟩], R_intro hE.fn ?_, ⟨by simp, Nat.le_refl _, ?_, b8 _, Own.nil _ _ _, fun q => q, hbs, fun t ht => ?_⟩, Kp.app _ (Nat.le_refl _)⟩
  · have hz : ([Cell.nils, Cell.nils, Cell.nils] ++ List.replicate 29 (Cell.int .i64 0) ++ List.replicate 5 (Cell.nils)).length = 37 := by kernel_rfl
    have ec : ∀ z : List Cell, AV.cells (.agg z) = z := fun _ => rfl
    rw [q180_eq, if_pos (by exact ⟨rfl, rfl⟩), if_pos (by exact ⟨rfl, by rw [hz]; omega⟩), if_pos (by exact ⟨rfl, by rw [splice_len (by rw [hz]; simp), hz]; omega⟩), if_pos (by exact ⟨rfl, by rw [splice_len (by rw [splice_len (by rw [hz]; simp), hz]; simp), splice_len (by rw [hz]; simp), hz]; omega⟩), ec, raw_0 a bi c P m, lens _ _ rfl rfl]
    have e0 : P.init.take 0 ++ List.replicate (4 - 0) 0 = [0, 0, 0, 0] := rfl
    rw [e0] at l1
    rw [l1, bind_ok]
    dsimp only
    rw [q180_e1_1, l2, bind_ok]
    dsimp only
    rw [q180_e2_3]
  · rw [List.take_append_of_le_length (Nat.le_refl _), List.take_length]; exact p
  · have : (([.nils, .nils, .nils, .nils] : List Cell).getD t .nils) = .nils := by
      match t with
      | 0 => rfl
      | 1 => rfl
      | 2 => rfl
      | 3 => rfl
      | t + 4 => rfl
    rw [this, new_b]
    exact ⟨Own.nil _ _ _, fun q => q, fun j q => absurd q (by simp [isBlk])⟩
theorem rEnabled_R (hE : q181_In E) {n k : Nat} {h : AHeap} {x : Cell} {bs pc : List Cell} {V : MV} (a : RvAt n h k x bs pc V) (f : V.Fit) (hg : V.P.good) :
    ∃ y h', R E 181 [.c (.ptr k 37 0)] h = some ([.c y], h') ∧ Own h.length h' y 1 (natC (bitsL V.word)) (bitsL V.word).length ∧ Kp h.length h h' := by
  have hM : maxBytes ≥ 1000 * 8 := by unfold maxBytes; omega
  obtain ⟨st, ⟨y, h', rfl, o, kk⟩, hL⟩ := Lim_inv (F := q181_F1 (R E) Lim E.glob) (fun i st => ∃ y h', st = q181_s1 k 37 0 y (i : Int) h' ∧ Own h.length h' y 1 (natC ((List.range i).filter V.may)) ((List.range i).filter V.may).length ∧ Kp h.length h h') 0 24 (by omega)
    (fun i st _ hi => by
      rintro ⟨y, h', rfl, o, kk⟩
      have hlen : ((List.range i).filter V.may).length ≤ i := Nat.le_trans (List.length_filter_le _ _) (by simp)
      have my := May_R hE.c196 (a.keep kk) f hg (i : Int)
      rw [mayI_nat] at my
      cases hm : V.may i with
      | false =>
        refine ⟨q181_s1 k 37 0 y ((i + 1 : Nat) : Int) h', ?_, y, h', rfl, ?_, kk⟩
        · rw [q181_r1, if_pos (by simp; omega), my, c1_ok, asB_ok, hm, if_neg (by simp), g_succ (by omega)]
        · rw [List.range_succ, List.filter_append, List.filter_cons, hm]
          simpa using o
      | true =>
        obtain ⟨y2, h2, e2, o2, k2, _⟩ := o.app (bytes := 8) (xs := [.int .i64 (i : Int)]) kk.1 rfl (by omega) (by omega) (by omega)
        refine ⟨q181_s1 k 37 0 y2 ((i + 1 : Nat) : Int) h2, ?_, y2, h2, rfl, ?_, kk.trans k2⟩
        · rw [q181_r1, if_pos (by simp; omega), my, c1_ok, asB_ok, hm, if_pos rfl, if_pos (by rfl), show splice [Cell.int .i64 0] 0 ([(.int .i64 (i : Int))] : List Cell) = [.int .i64 (i : Int)] from rfl, e2, g_succ (by omega)]
        · rw [List.range_succ, List.filter_append, List.filter_cons, hm, if_pos rfl, List.filter_nil, natC_snoc, List.length_append, List.length_singleton]
          exact o2) (st := q181_s1 k 37 0 .nils ((0 : Nat) : Int) h) ⟨.nils, h, rfl, Own.nil _ _ _, Kp.refl _ _⟩
  rw [may_bits] at o
  have hr := hL _ (Lim_exit (show q181_F1 (R E) Lim E.glob (q181_s1 k 37 0 y ((24 : Nat) : Int) h') = some (.exit 0, q181_x1_1 y h') by rw [q181_r1, if_neg (by simp)]))
  rw [show ((0 : Nat) : Int) = 0 from rfl] at hr
  refine ⟨y, h', R_intro hE.fn ?_, o, kk⟩
  rw [q181_eq, hr, bind_ok]
  dsimp only
  rw [q181_e1_1]
def finU (V : MV) (t : Nat) : List Cell := (V.lc.take t).flatMap regsC ++ (List.replicate (16 - t * 4) (.int .i64 0) ++ intC .i64 V.mem)
theorem rFinal_R (hE : q199_In E) {n k : Nat} {h : AHeap} {x : Cell} {bs pc : List Cell} {V : MV} (a : RvAt n h k x bs pc V) (f : V.Fit) :
    R E 199 [.c (.ptr k 37 0)] h = some ([.agg (finC V)], h) := by
  refine R_intro hE.fn ?_
  have hpc := a.prog.len
  have hl := rv_len (x := x) f hpc a.bl
  have rd : ∀ {α : Type} {F : List Cell → Option α}, rdH h k 37 F = F (rvC pc V bs x) := fun {α F} => rdH_ok a.blk hl
  have hm : (intC .i64 V.mem).length = 4 := by rw [intC_len, f.mem]
  have ul : ∀ t, t ≤ 4 → (finU V t).length = 20 := fun t ht => by
    unfold finU
    rw [List.length_append, take_flat_len (n := 4) (fun l _ => regsC_len l) (by rw [f.lc]; exact ht), List.length_append, List.length_replicate, hm]; omega
  have un : ∀ t, t < 4 → splice (finU V t) (0 + t * 4) (regsC (V.l t)) = finU V (t + 1) := fun t ht => by
    have hq := MV.l_at (V := V) (t := t) (by rw [f.lc]; exact ht)
    have e : finU V t = (V.lc.take t).flatMap regsC ++ (List.replicate 4 (.int .i64 0) ++ (List.replicate (16 - (t + 1) * 4) (.int .i64 0) ++ intC .i64 V.mem)) := by
      unfold finU
      rw [← List.append_assoc (List.replicate 4 _), List.replicate_append_replicate, show 4 + (16 - (t + 1) * 4) = 16 - t * 4 by omega]
    rw [e, seg_set (by rw [take_flat_len (n := 4) (fun l _ => regsC_len l) (by rw [f.lc]; omega)]; omega) (by rw [regsC_len, List.length_replicate])]
    unfold finU
    rw [takeI_succ hq, List.flatMap_append]
    simp
  have u0 : splice (List.replicate 20 (Cell.int .i64 0)) 16 (intC .i64 V.mem) = finU V 0 := by
    have : List.replicate 20 (Cell.int .i64 0) = List.replicate 16 (.int .i64 0) ++ (List.replicate 4 (.int .i64 0) ++ []) := rfl
    rw [this, seg_set (by simp) (by rw [hm]; simp), List.append_nil]
    unfold finU
    simp
  have u4 : finU V 4 = finC V := by
    unfold finU finC
    rw [List.take_of_length_le (by rw [f.lc]; exact Nat.le_refl _)]; rfl
  have lp : Lim (q199_F1 (R E) Lim E.glob) (q199_s1 k 37 0 ((0 : Nat) : Int) (List.replicate 20 (.int .i64 0)) (finU V 0) h) = some (.exit 0, q199_x1_1 (List.replicate 20 (.int .i64 0)) (finU V 4) h) := by
    refine Lim_count (F := q199_F1 (R E) Lim E.glob) (fun t => q199_s1 k 37 0 (t : Int) (List.replicate 20 (.int .i64 0)) (finU V t) h) 0 4 (by omega) (fun t _ ht => ?_) (Lim_exit ?_)
    · have hr : 0 ≤ (t : Int) ∧ (t : Int) < ((4 : Nat) : Int) := ⟨by omega, by omega⟩
      have hq := MV.l_at (V := V) (t := t) (by rw [f.lc]; exact ht)
      have hrg := rv_regs (bs := bs) (x := x) f hpc hq
      rw [q199_r1, if_pos (by simp; omega), if_pos hr, rd, Int.toNat_natCast, if_pos (by rw [hl]; omega), hrg, if_pos hr, if_pos ⟨by rw [ul t (by omega)]; omega, regsC_len _⟩, un t ht, g_succ (by omega)]
    · rw [q199_r1, if_neg (by simp)]
  rw [u4, show ((0 : Nat) : Int) = 0 from rfl] at lp
  have hfl : (finC V).length = 20 := by rw [← u4]; exact ul 4 (Nat.le_refl _)
  rw [q199_eq, rd, if_pos (by rw [hl]; omega), rv_mems f hpc, if_pos (by exact ⟨hm, by decide⟩), u0, if_pos (by exact ⟨rfl, rfl, ul 0 (by omega)⟩), lp, bind_ok]
  dsimp only
  rw [q199_e1_1, if_pos ⟨rfl, hfl⟩, if_pos ⟨rfl, rfl, hfl⟩, if_pos ⟨rfl, hfl⟩]
end
end Jq

namespace Jq
open Go
theorem g_rem3 {E : Env} (a : Int) : 0 ≤ E.glob.rem .i64 (E.glob.band .i64 a 255) 3 ∧ E.glob.rem .i64 (E.glob.band .i64 a 255) 3 < 3 := by
  refine rem_rng ?_ (by omega)
  rw [g_band255]; omega
theorem bits_none {V : MV} : (bitsL V.word).length = 0 ↔ V.word = 0 := by
  rw [List.length_eq_zero_iff]
  exact bitsL_nil V.word_lt
section
variable {E : Env}
end
end Jq

namespace Jq
open Go
theorem Own.has {n : Nat} {h : AHeap} {y : Cell} {esz len : Nat} {cs : List Cell} (o : Own n h y esz cs len) {j : Nat} (hj : isBlk y j) : blk? h j = some ⟨true, esz, cs⟩ := by
  rcases o.2 with ⟨e, _⟩ | ⟨j', e, _, hb⟩
  · rw [e] at hj; exact absurd hj (by simp [isBlk])
  · have : j' = j := by rw [e] at hj; exact hj
    subst this; exact hb
structure Both (n : Nat) (h : AHeap) (k : Nat) (x : Cell) (pc : List Cell) (V : MV) (n' k' : Nat) (x' : Cell) (bs pc' : List Cell) (W : MV) : Prop where
  a : VmAt n h k x pc V
  b : RvAt n' h k' x' bs pc' W
  nn : n ≤ n'
  d : ∀ j, isBlk x j → ¬ isBlk x' j
  fV : V.Fit
  fW : W.Fit
section both
variable {n : Nat} {h : AHeap} {k : Nat} {x : Cell} {pc : List Cell} {V : MV} {n' k' : Nat} {x' : Cell} {bs pc' : List Cell} {W : MV} (B : Both n h k x pc V n' k' x' bs pc' W)
include B
theorem Both.kk : k' ≠ k := fun e => by
  have h1 := B.a.blk
  have h2 := B.b.blk
  rw [e, h1] at h2
  have h3 := Blk.mk.inj (Option.some.inj h2)
  have l1 := vm_len (x := x) B.fV B.a.prog.len
  have l2 := rv_len (x := x') B.fW B.b.prog.len B.b.bl
  rw [h3.2.2, l2] at l1
  omega
theorem Both.xk : ¬ isBlk x k' := fun q => by
  have h1 := B.a.st.has q
  rw [B.b.blk] at h1
  have := (Blk.mk.inj (Option.some.inj h1)).2.1
  omega
theorem Both.x'k : ¬ isBlk x' k := fun q => by
  have h1 := B.b.st.has q
  rw [B.a.blk] at h1
  have := (Blk.mk.inj (Option.some.inj h1)).2.1
  omega
theorem Both.bk {t : Nat} (ht : t < 4) : ¬ isBlk (bs.getD t .nils) k := fun q => by
  have h1 := (B.b.bf t ht).1.has q
  rw [B.a.blk] at h1
  have := (Blk.mk.inj (Option.some.inj h1)).2.1
  omega
theorem Both.bx {t : Nat} (ht : t < 4) {j : Nat} (q : isBlk (bs.getD t .nils) j) : ¬ isBlk x j := fun q2 => by
  have h1 := (B.b.bf t ht).1.has q
  rw [B.a.st.has q2] at h1
  have := (Blk.mk.inj (Option.some.inj h1)).2.1
  omega
theorem Both.keep {h' : AHeap} (hk : Kp h.length h h') : Both n h' k x pc V n' k' x' bs pc' W := ⟨B.a.keep hk, B.b.keep hk, B.nn, B.d, B.fV, B.fW⟩
end both
theorem alike_ints : ∀ (l : List Cell) (n : Nat), l.length = n → (∀ c ∈ l, ∃ v, c = .int .i64 v) → alike l (List.replicate n (Cell.int .i64 0)) = true
  | [], 0, _, _ => rfl
  | c :: l, n + 1, hl, hc => by
    obtain ⟨v, rfl⟩ := hc c List.mem_cons_self
    rw [List.replicate_succ]
    show (alike1 (.int .i64 v) (.int .i64 0) && alike l (List.replicate n (Cell.int .i64 0))) = true
    rw [Bool.and_eq_true]
    exact ⟨rfl, alike_ints l n (by simpa using hl) (fun c h => hc c (List.mem_cons_of_mem _ h))⟩
theorem finC_ints (V : MV) : ∀ c ∈ finC V, ∃ v, c = .int .i64 v := by
  intro c hc
  unfold finC at hc
  rcases List.mem_append.1 hc with hc | hc
  · obtain ⟨l, _, hl⟩ := List.mem_flatMap.1 hc
    unfold regsC at hl
    simp at hl
    rcases hl with rfl | rfl | rfl | rfl <;> exact ⟨_, rfl⟩
  · unfold intC at hc
    obtain ⟨v, _, rfl⟩ := List.mem_map.1 hc
    exact ⟨v, rfl⟩
theorem finC_len {V : MV} (f : V.Fit) : (finC V).length = 20 := by
  unfold finC
  rw [List.length_append, flat_len (n := 4) fun l _ => regsC_len l, intC_len, f.lc, f.mem]
theorem alike_fin {V : MV} (f : V.Fit) : alike (finC V) (List.replicate 20 (Cell.int .i64 0)) = true := alike_ints _ _ (finC_len f) (finC_ints V)
theorem alike_stp (s : Stp) : alike s.cs (List.replicate 7 (Cell.int .i64 0)) = true := rfl
section
variable {E : Env}
theorem VSame_R (hE : q183_In E) (ht : TabOk E) {n : Nat} {h : AHeap} {k : Nat} {x : Cell} {pc : List Cell} {V : MV} {n' k' : Nat} {x' : Cell} {bs pc' : List Cell} (B : Both n h k x pc V n' k' x' bs pc' V) (hg : V.P.good) (hst : V.st.length ≤ 100000) :
    ∃ h', R E 183 [.c (.ptr k 329 0), .c (.ptr k' 37 0)] h = some ([.c (.bool true)], h') ∧ Kp h.length h h' := by
  have f := B.fV
  obtain ⟨y1, h1, r1, o1, k1⟩ := rEnabled_R hE.c181 B.b f hg
  have B1 := B.keep k1
  obtain ⟨y2, h2, r2, o2, k2⟩ := List_R hE.c32 ht V.word_lt h1
  have B2 := B1.keep k2
  have o1' := o1.keepK k2
  have kk2 : Kp h.length h h2 := k1.trans (k2.mono k1.1)
  have en := Enabled_R hE.c172 B1.a.blk f (prog_at B1.a.prog B1.a.hn (Kp.refl n h1))
  have dn := Done_R hE.c174 B2.a.blk f (prog_at B2.a.prog B2.a.hn (Kp.refl n h2))
  have fn1 := Final_R hE.c179 B2.a.blk f B2.a.prog.len
  have fn2 := rFinal_R hE.c199 B2.b f
  have hd : (V.word == 0) = (((bitsL V.word).length : Int) == 0) := by
    rw [Bool.eq_iff_iff, beq_iff_eq, beq_iff_eq, ← bits_none]; omega
  have lp1 : Lim (q183_F1 (R E) Lim E.glob) (q183_s1 k 329 0 k' 37 0 y1 y2 ((0 : Nat) : Int) h2) = some (.exit 0, q183_x1_1 k 329 0 k' 37 0 h2) := by
    refine Lim_count (F := q183_F1 (R E) Lim E.glob) (fun i => q183_s1 k 329 0 k' 37 0 y1 y2 (i : Int) h2) 0 (bitsL V.word).length (by omega) (fun i _ hi => ?_) (Lim_exit ?_)
    · have hq := List.getElem?_eq_getElem hi
      have hbl := bits_len V.word
      rw [q183_r1, o1'.at.len, if_pos (by simp; omega), o2.at.get1 hi (natC_get hq), asI_ok, o1'.at.get1 hi (natC_get hq), asI_ok, if_neg (by simp), g_succ (by omega)]
    · rw [q183_r1, o1'.at.len, if_neg (by simp)]
  obtain ⟨y3, h3, r3, o3, k3⟩ := Steps_R hE.c175 B2.a f hst
  have B3 := B2.keep k3
  have kk3 : Kp h.length h h3 := kk2.trans (k3.mono kk2.1)
  have hl' := rv_len (x := x') f B3.b.prog.len B3.b.bl
  have lp2 : Lim (q183_F2 (R E) Lim E.glob) (q183_s2 k' 37 0 y3 ((0 : Nat) : Int) h3) = some (.exit 2, q183_x2_3 h3) := by
    refine Lim_count (F := q183_F2 (R E) Lim E.glob) (fun i => q183_s2 k' 37 0 y3 (i : Int) h3) 0 V.st.length (by omega) (fun i _ hi => ?_) (Lim_exit ?_)
    · have hq : V.st[i]? = some V.st[i] := List.getElem?_eq_getElem hi
      generalize V.st[i] = s at hq
      obtain ⟨off, cs1, g1, g2, g3⟩ := o3.at.elG hi
      obtain ⟨off2, cs2, g4, g5, g6⟩ := B3.b.st.at.elG hi
      rw [stepsC_at _ _ _ hq] at g3 g6
      rw [q183_r2, o3.at.len, if_pos (by simp; omega), g1, if_pos g2, rdH_ok B3.b.blk hl', rv_steps f B3.b.prog.len B3.b.bl, g4, if_pos g5, g3, g6, if_pos ⟨alike_stp s, alike_stp s⟩, if_neg (by simp), g_succ (by omega)]
    · rw [q183_r2, o3.at.len, if_neg (by simp)]
  rw [show ((0 : Nat) : Int) = 0 from rfl] at lp1 lp2
  refine ⟨h3, R_intro hE.fn ?_, kk3⟩
  rw [q183_eq, r1, c1_ok, asC_ok, en, c1_ok, asI_ok, r2, c1_ok, asC_ok, o2.at.len, o1'.at.len, bne_self_eq_false, scK_ok, dn, c1_ok, asB_ok, o1'.at.len, hd, beq_self_eq_true, bind_ok]
  dsimp only
  rw [show (!true) = false from rfl, scK_ok, fn1, c1_ok, asA_ok, fn2, c1_ok, asA_ok, if_pos ⟨alike_fin f, alike_fin f⟩, bind_ok]
  dsimp only
  rw [if_neg (by simp), lp1, bind_ok]
  dsimp only
  rw [q183_e1_1, r3, c1_ok, asC_ok, o3.at.len, rdH_ok B3.b.blk hl', rv_steps f B3.b.prog.len B3.b.bl, B3.b.st.at.len, bne_self_eq_false, if_neg (by simp), lp2, bind_ok]
  dsimp only
  rw [q183_e2_3]
end
end Jq

namespace Jq
open Go
def MV.runG (V : MV) : List Int → MV × Nat
  | [] => (V, 0)
  | p :: ps => if mayI V p = true then (((V.nx p.toNat).runG ps).1, ((V.nx p.toNat).runG ps).2 + 1) else (V, 0)
theorem mayI_at {V : MV} {p : Int} (h : mayI V p = true) : ∃ j : Nat, p = (j : Int) ∧ V.may j = true ∧ p.toNat = j := by
  unfold mayI at h
  rw [Bool.and_eq_true] at h
  obtain ⟨j, rfl⟩ := Int.eq_ofNat_of_zero_le (of_decide_eq_true h.1)
  exact ⟨j, rfl, h.2, rfl⟩
theorem MV.runG_snoc : ∀ (l : List Int) (V : MV) (j : Nat), (V.runG l).2 = l.length → (V.runG l).1.may j = true → V.runG (l ++ [(j : Int)]) = ((V.runG l).1.nx j, l.length + 1)
  | [], V, j, _, hj => by
    show V.runG [(j : Int)] = _
    unfold MV.runG
    rw [if_pos (by rw [mayI_nat]; exact hj)]
    rfl
  | p :: ps, V, j, hl, hj => by
    rw [List.cons_append]
    unfold MV.runG at hl hj ⊢
    by_cases h : mayI V p = true
    · rw [if_pos h] at hl hj ⊢
      have := MV.runG_snoc ps (V.nx p.toNat) j (by simp only [List.length_cons] at hl; omega) hj
      rw [this, if_pos h]
      rfl
    · rw [if_neg h] at hl
      simp at hl
def ptr37 (k : Nat) : Cell := .ptr k 37 0
section
variable {E : Env}
theorem rRun_R (hE : q186_In E) {h : AHeap} {pc : List Cell} {P : PProg} (p : ProgAt h pc P) (hg : P.good) (h4 : P.thr.length ≤ 4) (hil : P.init.length ≤ 4) {m : Int} (hm : 1 ≤ m ∧ m ≤ 3) (inv : (MV.new P m).Inv) {y : Cell} {l : List Int} (hy : SlAt h y 1 (intC .i64 l) l.length) (hlow : Low h.length y) (hlen : l.length < 90000) :
    ∃ x' bs h', R E 186 [.agg pc, .c (.int .i64 m), .c y] h = some ([.c (.ptr h.length 37 0), .c (.int .i64 (((MV.new P m).runG l).2 : Int))], h') ∧ RvAt h.length h' h.length x' bs pc ((MV.new P m).runG l).1 ∧ Kp h.length h h' := by
  obtain ⟨h1, r1, a1, k1⟩ := rNew_R hE.c180 p hg h4 hil hm
  have key : ∀ (t : List Int) (j : Nat) (V : MV) (x : Cell) (bs : List Cell) (h2 : AHeap), l.drop j = t → j ≤ l.length → V.st.length = j → V.Inv → V.P = P → RvAt h.length h2 h.length x bs pc V → Kp h.length h h2 →
      ∃ x' bs' h3, (Lim (q186_F1 (R E) Lim E.glob) (q186_s1 y (.ptr h.length 37 0) (j : Int) h2)).bind (fun p_17 => (q186_k3 (R E) Lim E.glob h) p_17.1 p_17.2) = some ([.c (.ptr h.length 37 0), .c (.int .i64 ((j + (V.runG t).2 : Nat) : Int))], h3) ∧ RvAt h.length h3 h.length x' bs' pc (V.runG t).1 ∧ Kp h.length h h3 := by
    intro t
    induction t with
    | nil =>
      intro j V x bs h2 hd hj hst v vP a kk
      have hjl : j = l.length := by
        have := congrArg List.length hd
        rw [List.length_drop, List.length_nil] at this; omega
      subst hjl
      have hy2 := hy.keep hlow kk
      have e1 : q186_F1 (R E) Lim E.glob (q186_s1 y (.ptr h.length 37 0) (l.length : Int) h2) = some (.exit 0, q186_x1_1 y (.ptr h.length 37 0) h2) := by
        rw [q186_r1, hy2.len, if_neg (by simp)]
      refine ⟨x, bs, h2, ?_, a, kk⟩
      rw [Lim_exit e1, bind_ok]
      dsimp only
      rw [q186_e1_1, hy2.len]
      rfl
    | cons q t ih =>
      intro j V x bs h2 hd hj hst v vP a kk
      have hjl : j < l.length := by
        rcases Nat.lt_or_ge j l.length with c | c
        · exact c
        · rw [List.drop_of_length_le c] at hd; cases hd
      have hq : l[j]? = some q := by
        have := congrArg (fun z => z[0]?) hd
        simp only [List.getElem?_drop, List.getElem?_cons_zero, Nat.add_zero] at this
        exact this
      have hd2 : l.drop (j + 1) = t := by
        have := congrArg (List.drop 1) hd
        rw [List.drop_drop] at this
        simpa using this
      have hy2 := hy.keep hlow kk
      unfold MV.runG
      by_cases hm : mayI V q = true
      · obtain ⟨i, rfl, hi, hn⟩ := mayI_at hm
        rw [if_pos hm, hn]
        obtain ⟨x3, bs3, h3, r3, a3, k3⟩ := rPick_R hE.c182 a v (by rw [vP]; exact hg) (by omega) hi
        have e1 : q186_F1 (R E) Lim E.glob (q186_s1 y (.ptr h.length 37 0) (j : Int) h2) = some (.normal, q186_s1 y (.ptr h.length 37 0) ((j + 1 : Nat) : Int) h3) := by
          rw [q186_r1, hy2.len, if_pos (by simp; omega), hy2.get1 hjl (intC_get hq), asI_ok, r3, c2_ok, asA_ok, asB_ok, if_pos (by exact ⟨rfl, rfl, rfl⟩), if_neg (by simp), g_succ (by omega)]
        obtain ⟨x4, bs4, h4, r4, a4, k4⟩ := ih (j + 1) (V.nx i) x3 bs3 h3 hd2 (by omega) (by rw [V.nx_st, List.length_append, List.length_singleton, hst]) (v.nx hi) (by rw [(V.nx_P i).1, vP]) a3 (kk.trans k3.kp)
        refine ⟨x4, bs4, h4, ?_, a4, k4⟩
        have hL : ∀ r, Lim (q186_F1 (R E) Lim E.glob) (q186_s1 y (.ptr h.length 37 0) ((j + 1 : Nat) : Int) h3) = some r → Lim (q186_F1 (R E) Lim E.glob) (q186_s1 y (.ptr h.length 37 0) (j : Int) h2) = some r := fun r hr => Lim_next e1 hr
        cases hl : Lim (q186_F1 (R E) Lim E.glob) (q186_s1 y (.ptr h.length 37 0) ((j + 1 : Nat) : Int) h3) with
        | none => rw [hl] at r4; cases r4
        | some r =>
          rw [hl] at r4
          rw [hL r hl, r4, show j + 1 + ((V.nx i).runG t).2 = j + (((V.nx i).runG t).2 + 1) by omega]
      · rw [if_neg hm]
        have hm' : mayI V q = false := by simpa using hm
        have r3 := rPick_no hE.c182 a v.fit (by rw [vP]; exact hg) hm'
        have e1 : q186_F1 (R E) Lim E.glob (q186_s1 y (.ptr h.length 37 0) (j : Int) h2) = some (.ret, q186_x1_0 (.ptr h.length 37 0) (j : Int) h2) := by
          rw [q186_r1, hy2.len, if_pos (by simp; omega), hy2.get1 hjl (intC_get hq), asI_ok, r3, c2_ok, asA_ok, asB_ok, if_pos (by exact ⟨rfl, rfl, rfl⟩), if_pos (by simp)]
        refine ⟨x, bs, h2, ?_, a, kk⟩
        rw [Lim_ret e1, bind_ok]
        dsimp only
        rw [q186_e1_0]
        rfl
  obtain ⟨x', bs', h3, e1, e2, e3⟩ := key l 0 (MV.new P m) .nils _ h1 rfl (by omega) rfl inv rfl a1 k1
  refine ⟨x', bs', h3, R_intro hE.fn ?_, e2, e3⟩
  rw [q186_eq, if_pos (by exact ⟨rfl, p.len⟩), r1, c1_ok, asC_ok]
  rw [Nat.zero_add, show ((0 : Nat) : Int) = 0 from rfl] at e1
  exact e1
theorem told_R (hE : q185_In E) {n k : Nat} {h : AHeap} {x : Cell} {pc : List Cell} {V : MV} (a : VmAt n h k x pc V) (f : V.Fit) (hst : V.st.length < 90000) :
    ∃ y h', R E 185 [.c (.ptr k 329 0)] h = some ([.c y], h') ∧ Own h.length h' y 1 (intC .i64 (V.st.map Stp.pick)) V.st.length ∧ Kp h.length h h' := by
  have hM : maxBytes ≥ 100000 * 8 := by unfold maxBytes; omega
  obtain ⟨y1, h1, r1, o1, k1⟩ := Steps_R hE.c175 a f (by omega)
  obtain ⟨st, ⟨y, h', rfl, o, kk⟩, hL⟩ := Lim_inv (F := q185_F1 (R E) Lim E.glob) (fun i st => ∃ y h', st = q185_s1 y y1 (i : Int) h' ∧ Own h1.length h' y 1 (intC .i64 ((V.st.map Stp.pick).take i)) i ∧ Kp h1.length h1 h') 0 V.st.length (by omega)
    (fun i st _ hi => by
      rintro ⟨y, h', rfl, o, kk⟩
      have hq : V.st[i]? = some V.st[i] := List.getElem?_eq_getElem hi
      generalize V.st[i] = s at hq
      have o1' := o1.at.keep o1.low kk
      obtain ⟨y2, h2, e2, o2, k2, _⟩ := o.app (bytes := 8) (xs := [.int .i64 s.pick]) kk.1 rfl (by omega) (by omega) (by omega)
      refine ⟨q185_s1 y2 y1 ((i + 1 : Nat) : Int) h2, ?_, y2, h2, rfl, ?_, kk.trans k2⟩
      · rw [q185_r1, o1'.len, if_pos (by simp; omega), o1'.get hi (by omega) (stepsC_cell hq (by omega) (c := .int .i64 s.pick) rfl), asI_ok, if_pos (by rfl), show splice [Cell.int .i64 0] 0 ([(.int .i64 s.pick)] : List Cell) = [.int .i64 s.pick] from rfl, e2, g_succ (by omega)]
      · rw [takeI_succ (p := s.pick) (by rw [List.getElem?_map, hq]; rfl), intC_snoc]
        exact o2) (st := q185_s1 .nils y1 ((0 : Nat) : Int) h1) ⟨.nils, h1, rfl, Own.nil _ _ _, Kp.refl _ _⟩
  have hr := hL _ (Lim_exit (show q185_F1 (R E) Lim E.glob (q185_s1 y y1 (V.st.length : Int) h') = some (.exit 0, q185_x1_1 y h') by rw [q185_r1, (o1.at.keep o1.low kk).len, if_neg (by simp)]))
  rw [show ((0 : Nat) : Int) = 0 from rfl] at hr
  rw [List.take_of_length_le (by rw [List.length_map]; exact Nat.le_refl _)] at o
  refine ⟨y, h', R_intro hE.fn ?_, o.monoN k1.1, k1.trans (kk.mono k1.1)⟩
  rw [q185_eq, r1, c1_ok, asC_ok, hr, bind_ok]
  dsimp only
  rw [q185_e1_1]
end
section both
variable {n : Nat} {h : AHeap} {k : Nat} {x : Cell} {pc : List Cell} {V : MV} {n' k' : Nat} {x' : Cell} {bs pc' : List Cell} {W : MV}
theorem Both.third (B : Both n h k x pc V n' k' x' bs pc' W) {kv : Nat} {xv xv1 : Cell} {pv : List Cell} {U : MV} {h' : AHeap} (a : VmAt n h kv xv pv U) (fU : U.Fit) (hk : k ≠ kv) (d1 : ∀ j, isBlk xv j → ¬ isBlk x j) (d2 : ∀ j, isBlk xv j → ¬ isBlk x' j) (kp : KpV n kv xv xv1 h h') (hp : ProgAt (h'.take n') pc' W.P) :
    Both n h' k x pc V n' k' x' bs pc' W ∧ (∀ j, isBlk xv1 j → ¬ isBlk x j) ∧ (∀ j, isBlk xv1 j → ¬ isBlk x' j) := by
  have B2 : Both n h kv xv pv U n' k' x' bs pc' W := ⟨a, B.b, B.nn, d2, fU, B.fW⟩
  have xkv : ¬ isBlk x kv := fun q => by
    have h1 := B.a.st.has q
    rw [a.blk] at h1
    have := (Blk.mk.inj (Option.some.inj h1)).2.1
    omega
  have xvk : ¬ isBlk xv k := fun q => by
    have h1 := a.st.has q
    rw [B.a.blk] at h1
    have := (Blk.mk.inj (Option.some.inj h1)).2.1
    omega
  have b := B.b
  refine ⟨⟨⟨Nat.le_trans B.a.hn kp.kp.1, B.a.nk, by rw [take_keep kp.kp]; exact B.a.prog, (kp.old _ _ B.a.blk hk xvk).1, B.a.st.via fun j c q1 q2 => (kp.old j c q2 (fun e => xkv (e ▸ q1)) (fun q => d1 j q q1)).1, B.a.sep⟩,
    ⟨Nat.le_trans b.hn kp.kp.1, b.nk, hp, (kp.old _ _ b.blk B2.kk B2.xk).1, b.st.via fun j c q1 q2 => (kp.old j c q2 (fun e => B2.x'k (e ▸ q1)) (fun q => d2 j q q1)).1, b.sep, b.bl, fun t ht => ?_⟩, B.nn, B.d, B.fV, B.fW⟩, fun j q1 q2 => ?_, fun j q1 q2 => ?_⟩
  · obtain ⟨q1, q2, q3⟩ := b.bf t ht
    exact ⟨q1.via fun j c s1 s2 => (kp.old j c s2 (fun e => B2.bk ht (e ▸ s1)) (B2.bx ht s1)).1, q2, q3⟩
  · exact (kp.old j _ (B.a.st.has q2) (fun e => xkv (e ▸ q2)) (fun q => d1 j q q2)).2 q1
  · exact (kp.old j _ (b.st.has q2) (fun e => B2.x'k (e ▸ q2)) (fun q => d2 j q q2)).2 q1
end both
section
variable {E : Env}
def CopyOk (n : Nat) (h : AHeap) (k : Nat) (x : Cell) (P : PProg) (cs : List Cell) (pc : List Cell) (x12 x13 : Cell) : Prop :=
  x12 = .nilp ∨ ∃ (kc : Nat) (xc : Cell) (W : MV) (n' k' : Nat) (x' : Cell) (bs : List Cell), x12 = .ptr kc 329 0 ∧ x13 = .ptr k' 37 0 ∧ Both n h kc xc pc W n' k' x' bs cs W ∧ kc ≠ k ∧ (∀ j, isBlk x j → ¬ isBlk xc j) ∧ (∀ j, isBlk x j → ¬ isBlk x' j) ∧ W.P = P ∧ W.st.length ≤ 100
theorem prog_take {h1 h2 : AHeap} {cs : List Cell} {P : PProg} {n' : Nat} (p : ProgAt h1 cs P) (hk : Kp h1.length h1 h2) (hn : h1.length ≤ n') : ProgAt (h2.take n') cs P := by
  refine p.keep ⟨by rw [List.length_take]; have := hk.1; omega, fun q hq => ?_⟩
  rw [List.getElem?_take, if_pos (by omega)]
  exact hk.2 q hq
set_option maxHeartbeats 2000000 in
theorem VmCopies_law (ht : TabOk E) (hE : q223_In E) {h : AHeap} {c0 c1' c2' c3' : List Cell} (o0 : okC h (.sl (.i .i64)) c0) (o1 : okC h (.i .i64) c1') (o2 : okC h (.sl (.i .i64)) c2') (o3 : okC h (.i .i64) c3') :
    ∃ h', R E 223 [av1 (.sl (.i .i64)) c0, av1 (.i .i64) c1', av1 (.sl (.i .i64)) c2', av1 (.i .i64) c3'] h = some ([.c (.bool true)], h') := by
  obtain ⟨x, l, ha0, hx, hlow, _, hml⟩ := arg_ints o0
  obtain ⟨m0, ha1, _⟩ := arg_int o1
  obtain ⟨y, ps, ha2, hy, hylow, _, hpl⟩ := arg_ints o2
  obtain ⟨nn0, ha3, _⟩ := arg_int o3
  obtain ⟨cs, h1, P, r1, p1, g1, g2, k1, mk⟩ := Vstart hE.c76 hE.c171 hx hlow (by unfold maxLen at hml; omega) (most := 10) (by omega)
  have hb1 := g_rem3 (E := E) m0
  have hm1 : E.glob.wrap .i64 (E.glob.rem .i64 (E.glob.band .i64 m0 255) 3 + 1) = E.glob.rem .i64 (E.glob.band .i64 m0 255) 3 + 1 := g_wrap_i64 (by omega) (by omega)
  generalize hmm : E.glob.rem .i64 (E.glob.band .i64 m0 255) 3 + 1 = m at hm1
  generalize hnn : E.glob.band .i64 nn0 31 = a3
  obtain ⟨n, k, pc, h2, r2, a2, n2, k2⟩ := mk h1 m (Kp.refl _ _) (by omega) (by omega)
  obtain ⟨h4, r4, b4, k4⟩ := rNew_R hE.c180 (p1.keep k2) g1.good (by have := g1.n; omega) (by have := g1.init; omega) (m := m) (by omega)
  have inv := g1.inv g2 (m := m) (by omega)
  have k14 : Kp h1.length h1 h4 := k2.trans (k4.mono k2.1)
  obtain ⟨p, hp, hQ⟩ := Lim_fallN (F := q223_F1 (R E) Lim E.glob)
    (fun q st => ∃ (i : Nat) (V : MV) (z : Cell) (x12 x13 : Cell) (h' : AHeap), q = 50 - i ∧ i ≤ 50 ∧ st = q223_s1 m y a3 (.ptr k 329 0) x12 x13 (i : Int) cs h' ∧ VmAt n h' k z pc V ∧ V.Inv ∧ V.P = P ∧ V.st.length ≤ i ∧ (MV.new P m).runG (V.st.map Stp.pick) = (V, V.st.length) ∧ CopyOk n h' k z P cs pc x12 x13 ∧ Kp h1.length h1 h')
    (fun p => ∃ (V : MV) (z x12 x13 : Cell) (h' : AHeap), p = (.exit 0, q223_x1_1 x12 x13 h') ∧ CopyOk n h' k z P cs pc x12 x13)
    (fun q st hI => by
      obtain ⟨i, V, z, x12, x13, h', rfl, hi50, rfl, a, v, vP, vl, vr, ck, kk⟩ := hI
      have hk0 : Kp h.length h h' := k1.trans (kk.mono k1.1)
      have hy' := hy.keep hylow hk0
      have ckeep : ∀ {ha hb : AHeap} {x12 x13 : Cell}, CopyOk n ha k z P cs pc x12 x13 → Kp ha.length ha hb → CopyOk n hb k z P cs pc x12 x13 := fun ck hk => by
        rcases ck with e | ⟨kc, xc, W, n', k', x', bs, e1, e2, B, e3, e4, e5, e6, e7⟩
        · exact .inl e
        · exact .inr ⟨kc, xc, W, n', k', x', bs, e1, e2, B.keep hk, e3, e4, e5, e6, e7⟩
      by_cases hc : i < ps.length ∧ i < 50
      · have en := Enabled_R hE.c172 a.blk v.fit (prog_at a.prog a.hn (Kp.refl n h'))
        obtain ⟨w, h5, r5, o5, k5⟩ := List_R hE.c32 ht V.word_lt h'
        have a5 := a.keep k5
        have kk5 : Kp h1.length h1 h5 := kk.trans (k5.mono kk.1)
        have hk5 : Kp h.length h h5 := k1.trans (kk5.mono k1.1)
        have ck5 := ckeep ck k5
        by_cases h0 : (bitsL V.word).length = 0
        · refine .inr ⟨_, ?_, (by simp : Ex.exit 0 ≠ .normal), V, z, x12, x13, h5, rfl, ck5⟩
          rw [q223_r1, hy'.len, scK_and, if_pos (by simp; omega), en, c1_ok, asI_ok, r5, c1_ok, asC_ok, o5.at.len, if_pos (by rw [h0]; rfl)]
        · refine .inl ?_
          have hq : ps[i]? = some ps[i] := List.getElem?_eq_getElem hc.1
          generalize ps[i] = pk at hq
          have hrng := rem_rng (E := E) (x := E.glob.band .i64 pk 255) (m := ((bitsL V.word).length : Int)) (by rw [g_band255]; omega) (by omega)
          have pick : ∀ (h6 : AHeap) (y12 y13 : Cell), VmAt n h6 k z pc V → Kp h5.length h5 h6 → Kp h1.length h1 h6 → CopyOk n h6 k z P cs pc y12 y13 → ∃ (j : Nat) (h7 : AHeap), (∀ {α : Type} (f : Cell → Option α), (idxSK 1 w (E.glob.rem .i64 (E.glob.band .i64 pk 255) ((bitsL V.word).length : Int)) fun k N o => rdH h6 k N fun l => atK l o f) = f (.int .i64 (j : Int))) ∧
              R E 173 [.c (.ptr k 329 0), .c (.int .i64 (j : Int))] h6 = some ([.agg (V.stp j).cs, .c (.bool true)], h7) ∧
              ∃ (st' : St) (k'' : Nat), st' = q223_s1 m y a3 (.ptr k 329 0) y12 y13 (E.glob.wrap .i64 ((i : Int) + 1)) cs h7 ∧ (∃ (i : Nat) (V : MV) (z : Cell) (x12 x13 : Cell) (h' : AHeap), k'' = 50 - i ∧ i ≤ 50 ∧ st' = q223_s1 m y a3 (.ptr k 329 0) x12 x13 (i : Int) cs h' ∧ VmAt n h' k z pc V ∧ V.Inv ∧ V.P = P ∧ V.st.length ≤ i ∧ (MV.new P m).runG (V.st.map Stp.pick) = (V, V.st.length) ∧ CopyOk n h' k z P cs pc x12 x13 ∧ Kp h1.length h1 h') ∧ k'' < 50 - i := by
            intro h6 y12 y13 a6 k56 kk6 ck6
            obtain ⟨j, hj, hch⟩ := choose (o5.keepK k56) hrng.1 hrng.2
            obtain ⟨z', h7, r7, a7, k7⟩ := Pick_R hE.c173 a6 v (by omega) hj
            have v7 := v.nx hj
            have kk7 : Kp h1.length h1 h7 := kk6.trans (k7.kp.mono n2)
            have hsp : (V.stp j).pick = (j : Int) := rfl
            have hrun : (MV.new P m).runG ((V.nx j).st.map Stp.pick) = (V.nx j, (V.nx j).st.length) := by
              have hl : (V.st.map Stp.pick).length = V.st.length := List.length_map _
              have := MV.runG_snoc (V.st.map Stp.pick) (MV.new P m) j (by rw [vr, hl]) (by rw [vr]; exact hj)
              rw [V.nx_st, List.map_append, List.map_singleton, hsp, this, vr, hl, List.length_append, List.length_singleton]
            refine ⟨j, h7, hch, r7, _, 50 - (i + 1), rfl, ⟨i + 1, V.nx j, z', y12, y13, h7, rfl, by omega, by rw [g_succ (by omega)], a7, v7, by rw [(V.nx_P j).1, vP], by rw [V.nx_st, List.length_append, List.length_singleton]; omega, hrun, ?_, kk7⟩, by omega⟩
            rcases ck6 with e | ⟨kc, xc, W, n', k', x', bs, e1, e2, B, e3, e4, e5, e6, e7⟩
            · exact .inl e
            · obtain ⟨B7, d1, d2⟩ := B.third a6 v.fit e3 e4 e5 k7 (by rw [e6]; exact prog_take p1 kk7 (Nat.le_trans n2 B.nn))
              exact .inr ⟨kc, xc, W, n', k', x', bs, e1, e2, B7, e3, d1, d2, e6, e7⟩
          by_cases hi3 : (i : Int) = a3
          · obtain ⟨xc, h6, r6, a6, k6, d6⟩ := Copy_R hE.c184 a5 v.fit (by omega)
            have a5' := a5.keep k6
            obtain ⟨y7, h7, r7, o7, k7⟩ := told_R hE.c185 a5' v.fit (by omega)
            have kk6 : Kp h1.length h1 h6 := kk5.trans (k6.mono kk5.1)
            have kk7 : Kp h1.length h1 h7 := kk6.trans (k7.mono kk6.1)
            have hl : (V.st.map Stp.pick).length = V.st.length := List.length_map _
            obtain ⟨x', bs, h8, r8, b8, k8⟩ := rRun_R hE.c186 (p1.keep kk7) g1.good (by have := g1.n; omega) (by have := g1.init; omega) (m := m) (by omega) inv (y := y7) (l := V.st.map Stp.pick) (by rw [hl]; exact o7.at) o7.low (by omega)
            rw [vr] at b8
            have a8 := (a6.keep k7).keep k8
            have kk8 : Kp h1.length h1 h8 := kk7.trans (k8.mono kk7.1)
            have k58 : Kp h5.length h5 h8 := (k6.trans (k7.mono k6.1)).trans (k8.mono (Nat.le_trans k6.1 k7.1))
            have av8 := a5.keep k58
            have hkh : k < h5.length := blk_lt' a5.blk
            have xlt : ∀ j, isBlk z j → j < h5.length := fun j q => (a5.st.blkLt' q).2
            have l57 : h5.length ≤ h7.length := Nat.le_trans k6.1 k7.1
            have B8 : Both n h8 h5.length xc pc V h7.length h7.length x' bs cs V := ⟨a8, b8, Nat.le_trans a5.hn l57, fun j q1 q2 => by
              have := (b8.st.blkLt' q2).1
              have := ((a6.keep k7).st.blkLt' q1).2
              omega, v.fit, v.fit⟩
            obtain ⟨j, h9, g9, r9, st', k'', e1, e2, e3⟩ := pick h8 (.ptr h5.length 329 0) (.ptr h7.length 37 0) av8 k58 kk8 (.inr ⟨h5.length, xc, V, h7.length, h7.length, x', bs, rfl, rfl, B8, by omega, fun j q1 q2 => by have := d6 j q2; have := xlt j q1; omega, fun j q1 q2 => by have := (b8.st.blkLt' q2).1; have := xlt j q1; omega, vP, by omega⟩)
            refine ⟨st', k'', ?_, e2, e3⟩
            have hy8 := hy.keep hylow (k1.trans (kk8.mono k1.1))
            rw [q223_r1, hy'.len, scK_and, if_pos (by simp; omega), en, c1_ok, asI_ok, r5, c1_ok, asC_ok, o5.at.len, if_neg (by rw [beq_iff_eq]; omega), if_pos (by rw [beq_iff_eq]; exact hi3), r6, c1_ok, asC_ok, if_pos (by exact ⟨rfl, p1.len⟩), r7, c1_ok, asC_ok, r8, c2_ok, asC_ok, asI_ok, hy8.get1 hc.1 (intC_get hq), asI_ok, o5.at.len, if_neg (by omega), g9, asI_ok, r9, c2_ok, asA_ok, asB_ok, e1]
          · obtain ⟨j, h9, g9, r9, st', k'', e1, e2, e3⟩ := pick h5 x12 x13 a5 (Kp.refl _ _) kk5 ck5
            refine ⟨st', k'', ?_, e2, e3⟩
            rw [q223_r1, hy'.len, scK_and, if_pos (by simp; omega), en, c1_ok, asI_ok, r5, c1_ok, asC_ok, o5.at.len, if_neg (by rw [beq_iff_eq]; omega), if_neg (by rw [beq_iff_eq]; exact hi3), (hy.keep hylow hk5).get1 hc.1 (intC_get hq), asI_ok, o5.at.len, if_neg (by omega), g9, asI_ok, r9, c2_ok, asA_ok, asB_ok, e1]
      · refine .inr ⟨_, ?_, (by simp : Ex.exit 0 ≠ .normal), V, z, x12, x13, h', rfl, ck⟩
        rw [q223_r1, hy'.len, scK_and, if_neg (by simp; omega)]) (k := 50) (st := q223_s1 m y a3 (.ptr k 329 0) .nilp (.ptr h2.length 37 0) 0 cs h4) ⟨0, MV.new P m, .nils, .nilp, _, h4, rfl, by omega, rfl, a2.keep k4, inv, rfl, by show 0 ≤ 0; omega, rfl, .inl rfl, k14⟩
  obtain ⟨V, z, x12, x13, h9, rfl, ck⟩ := hQ
  have tail : ∃ hz, (q223_k3 (R E) Lim E.glob h) (.exit 0) (q223_x1_1 x12 x13 h9) = some ([.c (.bool true)], hz) := by
    rcases ck with e | ⟨kc, xc, W, n', k', x', bs, e1, e2, B, e3, e4, e5, e6, e7⟩
    · obtain ⟨hz, rz, _⟩ := awake16_R hE.c170 h9
      refine ⟨hz, ?_⟩
      rw [q223_e1_1, e, show ∀ {α : Type} (f : Bool → Option α), eqNilK false .nilp .nilp f = f true from fun _ => rfl, scK_tf, scK_ok, rz, c1_ok, asB_ok, bind_ok]
    · have hgw : W.P.good := by rw [e6]; exact g1.good
      obtain ⟨ha, ra, ka⟩ := VSame_R hE.c183 ht B hgw (by omega)
      have Ba := B.keep ka
      obtain ⟨xd, hb, rb, ab, kb, db⟩ := Copy_R hE.c184 Ba.a Ba.fV (by omega)
      have Bb : Both n hb ha.length xd pc W n' k' x' bs cs W := ⟨ab, Ba.b.keep kb, Ba.nn, fun j q1 q2 => by have := db j q1; have := (Ba.b.st.blkLt' q2).2; omega, Ba.fV, Ba.fW⟩
      obtain ⟨hd, rd, kd⟩ := VSame_R hE.c183 ht Bb hgw (by omega)
      obtain ⟨hz, rz, _⟩ := awake16_R hE.c170 hd
      refine ⟨hz, ?_⟩
      rw [q223_e1_1, e1, e2, ptr_nil, scK_ok, ra, c1_ok, asB_ok, scK_ok, rb, c1_ok, asC_ok, rd, c1_ok, asB_ok, bind_ok, bind_ok]
      dsimp only
      rw [scK_ok, rz, c1_ok, asB_ok, bind_ok]
  obtain ⟨hz, rz⟩ := tail
  refine ⟨hz, R_intro hE.fn ?_⟩
  rw [ha0, ha1, ha2, ha3, q223_eq, show (10 : Int) = ((10 : Nat) : Int) from rfl, r1, c1_ok, asA_ok, if_pos (by exact ⟨rfl, rfl, p1.len⟩)]
  dsimp only
  rw [if_pos (by exact ⟨rfl, p1.len⟩), hmm, hm1, r2, c2_ok, asC_ok, asI_ok, ptr_nil, scK_or, show (false || ((0 : Int) != 0)) = false from rfl, if_neg (by simp), if_pos (by exact ⟨rfl, p1.len⟩), r4, c1_ok, asC_ok, hnn, hp, bind_ok]
  exact rz
end
end Jq

namespace Go.Proofs.YtnjjcoobhpldcaaDoor.LVmCopies
open Go Jq Go.ChangeShapes Go.WideShapes Go.ChangeAt Go.RowKit
set_option linter.unusedVariables false
theorem own : ownKnob Tryd.prog.godebug = none := by kernel_rfl
theorem laidOut : laidOutB Tryd.prog = true := by kernel_rfl
theorem gN : Tryd.prog.globalNamed "math/bits.deBruijn64tab" = some 0 := by kernel_rfl
theorem met (os : Os) (args : Array Value) : laidMetH Tryd.prog Rows.vmCopiesRow.laid ((World.doorLaid Tryd.prog 400 os).forCall (fun _ _ => 0) ⟨#[], args, []⟩).memory :=
  laidMetH_of_parts3 (fuel := 8) (laidMet_of_run' 8 (by kernel_rfl) (by kernel_rfl)) (by kernel_rfl) (by kernel_rfl)
theorem of_laid {W : World} (h : laidMetH Tryd.prog Rows.vmCopiesRow.laid W) : ∀ i, i < deB.length → W.cell? ⟨0, i, none⟩ = some (.int .u8 (deB.getD i 0)) := by
  rw [MakeChecks.laidMetH_plain _ _ _ (by kernel_rfl)] at h
  have h := laidMet.tail h
  have hT := Lib.tabIs_of_head (zs := deB) (n := 64) gN (t := 154) (by kernel_rfl) (e := 5) (by kernel_rfl) (by kernel_rfl) (by kernel_rfl) (by kernel_rfl) h
  exact fun i hi => hT.cell gN i hi
set_option maxRecDepth 100000 in
theorem lifted (os : Os) (started : os.Started) (H : Type) (enc : TypeId × Value → H) :
    ReturnsInHanded {} Tryd.checked os 11 .any (fun w args => (Rows.vmCopiesSpec.pre enc Tryd.prog Tryd.f11 [] false w args ∧ laidMetH Tryd.prog Rows.vmCopiesRow.laid w) ∧ sizedMet enc Tryd.prog Tryd.f11 (OpenSpec.ofChange Rows.vmCopiesSpec) false w args) (Rows.vmCopiesSpec.post enc Tryd.prog Tryd.f11 false true false false) := by
  refine returnsInHanded_of_change_and (C := Tryd.checked) (X := fun w _ => laidMetH Tryd.prog Rows.vmCopiesRow.laid w) (fun _ _ _ hh h => h.of_heap hh) own started (by kernel_rfl) Tryd.func11
    (ChangeSpec.witness_shaped (enc := enc) (C := Tryd.checked) (os := os) (X := fun w _ => laidMetH Tryd.prog Rows.vmCopiesRow.laid w) false (World.doorLaid Tryd.prog 400 os) #[.slice none 0 0, .int .i64 0, .slice none 0 0, .int .i64 0] 8 rfl (World.shaped_of_RefB (by kernel_rfl) (by kernel_rfl)) (by kernel_rfl) (by kernel_rfl) (by kernel_rfl) (met os _)) ?_
  intro W base args ds gs before hval0 hW _ _ hL _
  have hval : ∀ (j : Nat) t v, Tryd.f11.params[j]? = some t → args[j]? = some v → Value.okWide Tryd.prog W .any base t v := hval0
  have hW' := hW
  obtain ⟨p, q, hA0, hV, rfl, hfz, hnd⟩ := hW
  have hA : DataW.TrodAll enc Tryd.prog W 0 (fun _ => true) true Tryd.f11.params.toList args.toList ds p := hA0
  rw [Tryd.params11] at hA hval
  obtain ⟨v0, vs0, d0, ds0, p0, q0, hargs, rfl, rfl, h0, r0⟩ := trodAll_cons hA
  obtain ⟨v1, vs1, d1, ds1, p1, q1, rfl, rfl, rfl, h1, r1⟩ := trodAll_cons r0
  obtain ⟨v2, vs2, d2, ds2, p2, q2, rfl, rfl, rfl, h2, r2⟩ := trodAll_cons r1
  obtain ⟨v3, vs3, d3, ds3, p3, q3, rfl, rfl, rfl, h3, r3⟩ := trodAll_cons r2
  obtain ⟨rfl, rfl, rfl⟩ := trodAll_nil r3
  obtain rfl : args = #[v0, v1, v2, v3] := by cases args; simp_all
  obtain ⟨rfl, rfl⟩ := trodVars_none hV
  have lt0 : ∀ x ∈ p0, x.block < W.heap.size := by obtain ⟨m, hm⟩ := h0; exact DataW.trod_lt m _ _ _ hm
  have lt1 : ∀ x ∈ p1, x.block < W.heap.size := by obtain ⟨m, hm⟩ := h1; exact DataW.trod_lt m _ _ _ hm
  have lt2 : ∀ x ∈ p2, x.block < W.heap.size := by obtain ⟨m, hm⟩ := h2; exact DataW.trod_lt m _ _ _ hm
  have lt3 : ∀ x ∈ p3, x.block < W.heap.size := by obtain ⟨m, hm⟩ := h3; exact DataW.trod_lt m _ _ _ hm
  have c := Come.tab1 (S := seat) (W := W) deB (fun _ => rfl) (of_laid hL)
  have k0 : ((.sl (.i .i64)) : Sh).chk seat.P 25 = true := by kernel_rfl
  obtain ⟨b0, ρ0, cs0, c0, e0, x0, a0, o0⟩ := opens_arg (S := seat) (W := W) (sh := (.sl (.i .i64))) k0 h0 (wide_of k0 (hval 0 25 v0 rfl rfl)) ⟨nofun, nofun⟩ c
  have k1 : ((.i .i64) : Sh).chk seat.P 3 = true := by kernel_rfl
  obtain ⟨b1, ρ1, cs1, c1, e1, x1, a1, o1⟩ := opens_arg (S := seat) (W := W) (sh := (.i .i64)) k1 h1 (wide_of k1 (hval 1 3 v1 rfl rfl)) ⟨nofun, nofun⟩ c0
  have k2 : ((.sl (.i .i64)) : Sh).chk seat.P 25 = true := by kernel_rfl
  obtain ⟨b2, ρ2, cs2, c2, e2, x2, a2, o2⟩ := opens_arg (S := seat) (W := W) (sh := (.sl (.i .i64))) k2 h2 (wide_of k2 (hval 2 25 v2 rfl rfl)) ⟨nofun, nofun⟩ c1
  have k3 : ((.i .i64) : Sh).chk seat.P 3 = true := by kernel_rfl
  obtain ⟨b3, ρ3, cs3, c3, e3, x3, a3, o3⟩ := opens_arg (S := seat) (W := W) (sh := (.i .i64)) k3 h3 (wide_of k3 (hval 3 3 v3 rfl rfl)) ⟨nofun, nofun⟩ c2
  obtain ⟨h', hR⟩ := VmCopies_law (E := env) tabOk in_223 (okC_mono x3 _ _ (okC_mono x2 _ _ (okC_mono x1 _ _ o0))) (okC_mono x3 _ _ (okC_mono x2 _ _ o1)) (okC_mono x3 _ _ o2) o3
  refine (law_call (S := seat) (R_sound (S := seat) (E := env) rfl allOk) c3 (vals := #[v0, v1, v2, v3]) (L2.cons (relA.mono e3 (relA.mono e2 (relA.mono e1 a0))) (L2.cons (relA.mono e3 (relA.mono e2 a1)) (L2.cons (relA.mono e3 a2) (L2.cons a3 L2.nil)))) hR).mono fun e W' ⟨he, bel⟩ => ?_
  subst he
  exact ⟨_, rfl, _, _, _, [], _, [], hW', trodAll_mk1 (shut_bool Tryd.underlying4 _), (trodAll_cons_mk (Below.trod laidOut (by kernel_rfl) (of_decide_eq_true (by kernel_rfl)) h0 bel lt0) (trodAll_cons_mk (Below.trod laidOut (by kernel_rfl) (of_decide_eq_true (by kernel_rfl)) h1 bel lt1) (trodAll_cons_mk (Below.trod laidOut (by kernel_rfl) (of_decide_eq_true (by kernel_rfl)) h2 bel lt2) (trodAll_cons_mk (Below.trod laidOut (by kernel_rfl) (of_decide_eq_true (by kernel_rfl)) h3 bel lt3) trodAll_mk0)))), rfl, bel.frame _, fun h => by cases h⟩
theorem over : Rows.vmCopiesRow.holds Tryd.pinned (OpenSpec.ofChange Rows.vmCopiesSpec) :=
  OpenClaim.holds_of_wide 11 Tryd.f11 rfl rfl rfl rfl rfl rfl rfl ⟨rfl, rfl, rfl, rfl, rfl⟩ rfl rfl rfl rfl rfl (by kernel_rfl) Tryd.func11 (by kernel_rfl)
    (of_decide_eq_true (by kernel_rfl)) (by unfold Func.isWrapper; first | (rw [if_pos (by decide +kernel)]; kernel_rfl) | (rw [if_neg (by decide +kernel)]; exact ⟨rfl, rfl⟩))
    (fun os started H enc _ => lifted os started H enc)
theorem proved : Rows.VmCopiesCardSaid :=
  Claim7.holds_tied_plain_at .later [] [.data, .data, .data] true (true, "fbcc807f78fdf03f3d1dccb6a06178810c141046c856c49e25ab327e98756d6a") false
    over (fun _ h => by cases h) (by kernel_rfl) (fun _ h => by cases h) vmCopies_row_tie rfl ⟨rfl, rfl⟩ (by kernel_rfl) rfl
    (fun f fn hf hfn => by
      obtain rfl : f = 11 := Option.some.inj ((show Tryd.prog.funcNamed "jacquard/jacquardlaw16.VmCopies" = some 11 by kernel_rfl).symm.trans hf) |>.symm
      obtain rfl : fn = Tryd.f11 := (Option.some.inj (Tryd.func11.symm.trans hfn)).symm
      exact ⟨by kernel_rfl, fun j t ht => by
        rw [Tryd.params11] at ht
        have hm : t ∈ [25, 3, 25, 3] := by simpa using Array.mem_of_getElem? ht
        have hall : ([25, 3, 25, 3].all fun u => !Tryd.prog.wantsStandIn u) = true := by kernel_rfl
        exact (show Tryd.prog.wantsStandIn t = false by simpa using List.all_eq_true.1 hall t hm)⟩)
    (by kernel_rfl)
#print axioms proved
end Go.Proofs.YtnjjcoobhpldcaaDoor.LVmCopies

