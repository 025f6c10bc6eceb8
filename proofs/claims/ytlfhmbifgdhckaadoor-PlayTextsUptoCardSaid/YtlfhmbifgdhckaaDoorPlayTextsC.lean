/- YtlfhmbifgdhckaaDoorPlayTextsC: a part of the proof; no conditions of its own. -/
import Derived.KernelRfl
import Derived.Lib.Join
import Derived.Below
import Derived.Laws.AppendOwn
import Derived.RangeFuncNested
import Derived.RangeFuncBound
import Derived.RangeFuncCalls
import Derived.RangeFuncLeaves
import Derived.Shelf.Abstract
import Derived.Shelf.RegionOpen
import Derived.WalkKit
import Derived.OwnWalkIn
import Derived.TacticsInMore
import Derived.LoopNIn
import Derived.LoopIn
import Derived.Lib.Strings
import Derived.Lib.Slices
import Derived.Lib.Walk
import Derived.Lib.Bytealg
import Derived.Maps.AppendAt
import Derived.Shelf.Strings.OnBuilder
import Derived.Test.YtlfhmbifgdhckaaDoorProg
import Derived.Test.YtlfhmbifgdhckaaDoorRows
import Derived.ProofKit
import Derived.OpenShut
import Derived.ShutString
import Derived.ChangeOld
import Derived.Carry
import Derived.Test.YtlfhmbifgdhckaaDoorCards
import Derived.Test.YtlfhmbifgdhckaaDoorTie
import Derived.SevenTiedAt
import Derived.LaidMore
import Derived.Stop.Joined
import Derived.Lib.LaidTab
import Derived.MakeChecks
import Derived.LaidHandle
import Derived.Stop.LaidErr
import Derived.Lay
import Derived.LaidOnce
import Derived.Deep.DeepHandedRow
import Derived.JoinedCond
import Derived.Test.YtlfhmbifgdhckaaDoorPlayTextsB
set_option linter.unusedVariables false
set_option linter.unusedSimpArgs false

/- Machines: at the beginning. -/
namespace Jq
open Go

/-- The block while threads are laid in it. -/
def nwC (a b c : Cell) (m bm : Int) (l : Nat → Lcl) (t : Nat) : List Cell :=
  [a, b, c, .int .i64 m] ++ (((if 0 < t then (l 0).cs else Lcl.zero.cs) ++ ((if 1 < t then (l 1).cs else Lcl.zero.cs) ++ ((if 2 < t then (l 2).cs else Lcl.zero.cs) ++ (if 3 < t then (l 3).cs else Lcl.zero.cs)))) ++
    (List.replicate 4 (.int .i64 0) ++ (([if 0 < t then .int .i64 (-1) else .int .i64 0, if 1 < t then .int .i64 (-1) else .int .i64 0, if 2 < t then .int .i64 (-1) else .int .i64 0, if 3 < t then .int .i64 (-1) else .int .i64 0] : List Cell) ++
      (((if 0 < t then bufC bm [] else bufC 0 []) ++ ((if 1 < t then bufC bm [] else bufC 0 []) ++ ((if 2 < t then bufC bm [] else bufC 0 []) ++ (if 3 < t then bufC bm [] else bufC 0 [])))) ++ [.nils]))))

set_option maxRecDepth 100000 in
theorem nw_0 (a b c : Cell) (m bm : Int) (l : Nat → Lcl) : splice (splice ([Cell.nils, Cell.nils, Cell.nils] ++ List.replicate 325 (Cell.int .i64 0) ++ [Cell.nils]) 0 [a, b, c]) 3 ([(.int .i64 m)] : List Cell) = nwC a b c m bm l 0 := by kernel_rfl
set_option maxRecDepth 100000 in
theorem nw_next (a b c : Cell) (m bm : Int) (l : Nat → Lcl) : ∀ t, t < 4 → (splice (splice (nwC a b c m bm l t) ((0 + 4) + t * 5) (l t).cs) ((0 + 32) + t * 74) (bufC bm [])).set ((0 + 28) + t * 1) (.int .i64 (-1)) = nwC a b c m bm l (t + 1)
  | 0, _ => by kernel_rfl
  | 1, _ => by kernel_rfl
  | 2, _ => by kernel_rfl
  | 3, _ => by kernel_rfl
  | t + 4, h => by omega
theorem nw_len (a b c : Cell) (m bm : Int) (l : Nat → Lcl) : ∀ t, t ≤ 4 → (nwC a b c m bm l t).length = 329
  | 0, _ => by kernel_rfl
  | 1, _ => by kernel_rfl
  | 2, _ => by kernel_rfl
  | 3, _ => by kernel_rfl
  | 4, _ => by kernel_rfl
  | t + 5, h => by omega

theorem nw_pc (a b c : Cell) (m bm : Int) (l : Nat → Lcl) (t : Nat) : ((nwC a b c m bm l t).drop (0 + 0)).take 3 = [a, b, c] := by
  rw [Nat.add_zero, List.drop_zero]; rfl
set_option maxRecDepth 100000 in
theorem nw_z : ([Cell.nils, Cell.nils, Cell.nils] ++ List.replicate 325 (Cell.int .i64 0) ++ [Cell.nils]).length = 329 := by kernel_rfl

theorem splice_len {l xs : List Cell} {n : Nat} (h : n + xs.length ≤ l.length) : (splice l n xs).length = l.length := by
  unfold splice
  rw [List.length_append, List.length_append, List.length_take, List.length_drop]; omega

/-- A machine at the beginning. -/
def MV.new (P : PProg) (m : Int) : MV :=
  ⟨P, m, [startL P 0, startL P 1, startL P 2, startL P 3], P.init ++ List.replicate (4 - P.init.length) 0, [-1, -1, -1, -1], [[], [], [], []], []⟩

set_option maxRecDepth 100000 in
theorem nw_end (a b c : Cell) (P : PProg) (m : Int) : nwC a b c m (bmod m) (fun t => startL P t) 4 = vmC [a, b, c] { MV.new P m with mem := [0, 0, 0, 0] } .nils := by kernel_rfl

theorem MV.new_fit {P : PProg} {m : Int} (hm : 1 ≤ m ∧ m ≤ 3) (hi : P.init.length ≤ 4) : (MV.new P m).Fit :=
  ⟨hm, rfl, by show (P.init ++ List.replicate (4 - P.init.length) 0).length = 4; rw [List.length_append, List.length_replicate]; omega, rfl, rfl, fun l hl => by
    simp [MV.new] at hl; subst hl; simp⟩

attribute [local irreducible] nwC vmC bufC

section
variable {E : Env}

theorem new_cnt (hE : vm_New_In E) {h8 : AHeap} {a b c : Cell} {pc : List Cell} {P : PProg} (p8 : ProgAt h8 [a, b, c] P) (hfits : P.fits) {m : Int} :
    Lim (vm_New_F1 (R E) Lim E.glob) (vm_New_s1 m h8.length 329 0 ((0 : Nat) : Int) pc (h8 ++ [some ⟨true, 0, nwC a b c m (bmod m) (fun t => startL P t) 0⟩])) = some (.exit 0, vm_New_x1_1 h8.length 329 0 pc (h8 ++ [some ⟨true, 0, nwC a b c m (bmod m) (fun t => startL P t) 4⟩])) := by
  have b8 : ∀ l : List Cell, blk? (h8 ++ [some ⟨true, 0, l⟩]) h8.length = some ⟨true, 0, l⟩ := fun l => blk_new _ _
  have p9 : ∀ q, ProgAt (h8 ++ [some q]) [a, b, c] P := fun q => p8.keep (Kp.app _ (Nat.le_refl _))
  have rd : ∀ (l : List Cell) {α : Type} {F : List Cell → Option α}, l.length = 329 → rdH (h8 ++ [some ⟨true, 0, l⟩]) h8.length 329 F = F l := fun l α F hl => rdH_ok (b8 l) hl
  have put : ∀ (l cs : List Cell) {α : Type} {F : AHeap → Option α}, putH (h8 ++ [some ⟨true, 0, l⟩]) h8.length cs F = F (h8 ++ [some ⟨true, 0, cs⟩]) := fun l cs α F => by rw [putB (b8 l), setBlk_last]
  refine Lim_count (F := vm_New_F1 (R E) Lim E.glob) (fun t => vm_New_s1 m h8.length 329 0 (t : Int) pc (h8 ++ [some ⟨true, 0, nwC a b c m (bmod m) (fun t => startL P t) t⟩])) 0 4 (by omega) (fun t _ ht => ?_) (Lim_exit ?_)
  · have hl := nw_len a b c m (bmod m) (fun t => startL P t) t (by omega)
    have hnx := nw_next a b c m (bmod m) (fun t => startL P t) t ht
    have hr : 0 ≤ (t : Int) ∧ (t : Int) < ((4 : Nat) : Int) := ⟨by omega, by omega⟩
    have hpcs := nw_pc a b c m (bmod m) (fun t => startL P t) t
    have hb0 : (bufC (bmod m) []).length = 74 := bufC_len _ (by simp)
    generalize nwC a b c m (bmod m) (fun t => startL P t) t = l0 at *
    generalize nwC a b c m (bmod m) (fun t => startL P t) (t + 1) = l9 at *
    have hl1 : (splice l0 ((0 + 4) + t * 5) (startL P t).cs).length = 329 := by
      rw [splice_len (by rw [hl, Lcl.len]; omega), hl]
    have hl2 : (splice (splice l0 ((0 + 4) + t * 5) (startL P t).cs) ((0 + 32) + t * 74) (bufC (bmod m) [])).length = 329 := by
      rw [splice_len (by rw [hl1, hb0]; omega), hl1]
    rw [vm_New_r1, if_pos (by simp; omega), rd _ hl, if_pos (by rw [hl]; omega), hpcs, PStart_R hE.c94 hfits (p9 _), qh_ok, c1_ok, asA_ok, if_pos hr, rd _ hl, Int.toNat_natCast, if_pos ⟨by rw [hl]; omega, rfl⟩, put, bufNew_R hE.c190, qh_ok, c1_ok, asA_ok, if_pos hr]
    rw [show (if m = 2 ∨ m = 3 then m else 0) = bmod m from rfl, rd _ hl1, if_pos ⟨by rw [hl1]; omega, hb0⟩, put, if_pos hr, rd _ hl2, if_pos (by rw [hl2]; omega), put, g_succ (by omega), hnx]
  · rw [vm_New_r1, if_neg (by simp)]

theorem new_mem {a b c : Cell} {P : PProg} {m : Int} (f0 : MV.Fit { MV.new P m with mem := [0, 0, 0, 0] }) (hil : P.init.length ≤ 4) :
    splice (vmC [a, b, c] { MV.new P m with mem := [0, 0, 0, 0] } .nils) 24 (intC .i64 P.init) = vmC [a, b, c] (MV.new P m) .nils := by
  obtain ⟨A, B, eA, hA, eM⟩ := vm_lensM (pc := [a, b, c]) (x := .nils) f0 rfl
  have e1 : vmC [a, b, c] (MV.new P m) .nils = A ++ (intC .i64 (MV.new P m).mem ++ B) := eM (MV.new P m).mem
  rw [eA, e1, show 24 = A.length + 0 by omega, splice_app]
  congr 1
  unfold splice
  rw [List.take_zero, List.nil_append, Nat.zero_add, intC_len]
  show intC .i64 P.init ++ _ = intC .i64 (P.init ++ List.replicate (4 - P.init.length) 0) ++ B
  rw [show intC .i64 (P.init ++ List.replicate (4 - P.init.length) 0) = intC .i64 P.init ++ List.replicate (4 - P.init.length) (.int .i64 0) by simp [intC], List.append_assoc]
  congr 1
  rw [List.drop_append_of_le_length (by rw [intC_len]; exact hil)]
  congr 1
  show (List.replicate 4 (Cell.int .i64 0)).drop _ = _
  rw [List.drop_replicate]

theorem new_loop (hE : vm_New_In E) {h8 : AHeap} {a b c : Cell} {pc : List Cell} {P : PProg} (p8 : ProgAt h8 [a, b, c] P) (hfits : P.fits) {m : Int} (z : List Cell) (hz : z = nwC a b c m (bmod m) (fun t => startL P t) 0) :
    Lim (vm_New_F1 (R E) Lim E.glob) (vm_New_s1 m h8.length (AV.cells (.agg z)).length 0 0 pc (h8 ++ [some (Blk.mk true 0 (AV.cells (.agg z)))])) = some (.exit 0, vm_New_x1_1 h8.length 329 0 pc (h8 ++ [some ⟨true, 0, vmC [a, b, c] { MV.new P m with mem := [0, 0, 0, 0] } .nils⟩])) := by
  have h1 : AV.cells (.agg z) = z := rfl
  rw [h1, hz, nw_len _ _ _ _ _ _ _ (by omega), ← nw_end]
  exact new_cnt hE p8 hfits

theorem VNew_S (hE : vm_New_In E) {h : AHeap} {pc : List Cell} {P : PProg} (p : ProgAt h pc P) (hsm : P.small) (hu : ∀ x ∈ P.locs, 0 ≤ x ∧ x < 256) (hll : P.locs.length ≤ 1000) (hil : P.init.length ≤ 4) {m : Int} (hm : 1 ≤ m ∧ m ≤ 3) (hpok : pokB P = true) :
    ∃ n k pc' h', R E 171 [.agg pc, .c (.int .i64 m)] h = some ([.c (.ptr k 329 0), .c (.int .i64 0)], h') ∧ VmAt n h' k .nils pc' (MV.new P m) ∧ h.length ≤ n ∧ Kp h.length h h' ∧ ProgO h.length (h'.take n) pc' P ∧ k < h'.length := by
  obtain ⟨pc', h8, r8, po8, k8⟩ := copied_S hE.c189 p hsm hll (by omega)
  have p8 := po8.at
  obtain ⟨a, b, c, ts, he, _⟩ := id p8
  subst he
  have hfits := hsm.fits
  have f0 : MV.Fit { MV.new P m with mem := [0, 0, 0, 0] } := ⟨hm, rfl, rfl, rfl, rfl, fun l hl => by simp [MV.new] at hl; subst hl; simp⟩
  have hpc : ([a, b, c] : List Cell).length = 3 := rfl
  have b8 : ∀ l : List Cell, blk? (h8 ++ [some ⟨true, 0, l⟩]) h8.length = some ⟨true, 0, l⟩ := fun l => blk_new _ _
  have cnt := new_loop hE (pc := pc) p8 hfits _ (nw_0 a b c m (bmod m) (fun t => startL P t))
  obtain ⟨bi, hbi, hbl, hbg⟩ := p.initG
  have hl0 := vm_len (x := .nils) f0 hpc
  have hsp := new_mem (a := a) (b := b) (c := c) f0 hil
  generalize vmC [a, b, c] { MV.new P m with mem := [0, 0, 0, 0] } .nils = l0 at *
  have hci := cells1 (hbi.keep hbl (k8.trans (Kp.app [some ⟨true, 0, l0⟩] k8.1)))
  refine ⟨h8.length, h8.length, [a, b, c], h8 ++ [some ⟨true, 0, vmC [a, b, c] (MV.new P m) .nils⟩], R_intro hE.fn ?_, ⟨by simp, Nat.le_refl _, ?_, b8 _, Own.nil _ _ _, fun h => h⟩, k8.1, k8.trans (Kp.app _ k8.1), by rw [List.take_append_of_le_length (Nat.le_refl _), List.take_length]; exact po8, by simp⟩
  · rw [vm_New_eq, scK_or, show (decide (m < 1) || decide (m > 3)) = false by simp; omega, scK_ok, if_pos (by exact ⟨rfl, p.len⟩), progOk_R hE.c188 p hsm hu hll, c1_ok, asB_ok, hpok, bind_ok]
    dsimp only
    rw [if_neg (by simp), if_pos (by exact ⟨rfl, p.len⟩), r8, c1_ok, asA_ok, if_pos (by exact ⟨rfl, by rw [nw_z]; omega⟩), if_pos (by exact ⟨rfl, by rw [splice_len (by rw [nw_z]; simp), nw_z]; omega⟩), cnt, bind_ok]
    dsimp only
    rw [vm_New_e1_1]
    have hsl : ∀ {α : Type} (F : Cell → Option α), sliceAK (h8 ++ [some ⟨true, 0, l0⟩]) 4 1 false false (.ptr h8.length 329 (0 + 24)) [] F = F (.sl h8.length 329 24 4) := fun F => by
      unfold sliceAK okSl boundsK
      simp only
      rw [b8]
      simp only
      rw [if_pos (by rw [hl0]; simp)]
    rw [hsl, hbg]
    unfold copyK
    rw [hci, bind_ok]
    dsimp only
    rw [b8, bind_ok]
    dsimp only
    rw [if_pos ⟨rfl, hl0, by omega⟩, intC_len, Nat.div_one, Nat.min_eq_left hil, Nat.mul_one, List.take_of_length_le (by rw [intC_len]; exact Nat.le_refl _), hsp, setBlk_last]
  · rw [List.take_append_of_le_length (Nat.le_refl _), List.take_length]; exact p8
theorem VNew_R (hE : vm_New_In E) {h : AHeap} {pc : List Cell} {P : PProg} (p : ProgAt h pc P) (hsm : P.small) (hu : ∀ x ∈ P.locs, 0 ≤ x ∧ x < 256) (hll : P.locs.length ≤ 1000) (hil : P.init.length ≤ 4) {m : Int} (hm : 1 ≤ m ∧ m ≤ 3) (hpok : pokB P = true) :
    ∃ n k pc' h', R E 171 [.agg pc, .c (.int .i64 m)] h = some ([.c (.ptr k 329 0), .c (.int .i64 0)], h') ∧ VmAt n h' k .nils pc' (MV.new P m) ∧ h.length ≤ n ∧ Kp h.length h h' := by
  obtain ⟨n, k, pc', h', r1, r2, r3, r4, _⟩ := VNew_S hE p hsm hu hll hil hm hpok
  exact ⟨n, k, pc', h', r1, r2, r3, r4⟩

end
end Jq

/- Machines: what stays so. -/
namespace Jq
open Go

theorem getDset {α : Type} {l : List α} {i : Nat} (hi : i < l.length) (y d : α) (j : Nat) : (l.set i y).getD j d = if j = i then y else l.getD j d := by
  rw [List.getD_eq_getElem?_getD, List.getD_eq_getElem?_getD, List.getElem?_set]
  by_cases h : i = j
  · subst h; rw [if_pos rfl, if_pos hi, if_pos rfl]; rfl
  · rw [if_neg h, if_neg (fun e => h e.symm)]

theorem startL_pc (P : PProg) (t : Int) : 0 ≤ (startL P t).pc := by
  unfold startL normL
  exact nrm_pc (code := P.code t) _ Lcl.zero

theorem MV.new_inv {P : PProg} {m : Int} (hm : 1 ≤ m ∧ m ≤ 3) (hs : P.small) (hf : ∀ c ∈ P.thr, ∀ i ∈ c, fldB (hasB P) i = true) (hl : P.locs.length ≤ 4) (hi : P.init.length ≤ 4) (hc : ∀ c ∈ P.thr, c.length ≤ 10) : (MV.new P m).Inv := by
  refine ⟨MV.new_fit hm hi, hs, hf, hl, hc, fun b hb e he => ?_, fun t ht => ?_⟩
  · simp [MV.new] at hb; subst hb; simp at he
  · match t with
    | 0 => exact startL_pc P 0
    | 1 => exact startL_pc P 1
    | 2 => exact startL_pc P 2
    | 3 => exact startL_pc P 3
    | t + 4 => omega

theorem MV.wr_lc (V : MV) (t : Nat) (e : Evt) : (V.wr t e).lc = V.lc ∧ (V.wr t e).P = V.P ∧ (V.wr t e).m = V.m := by
  unfold MV.wr; split <;> (try split) <;> exact ⟨rfl, rfl, rfl⟩

theorem MV.wr_bf (V : MV) (t : Nat) (e : Evt) : (V.wr t e).bf = if e.kind = 2 ∧ V.m ≠ 1 then V.bf.set t (V.b t ++ [⟨e.loc, e.w, V.st.length⟩]) else V.bf := by
  unfold MV.wr; split
  · rfl
  · split <;> rfl

/-- Facts of all four rows are facts of all rows. -/
theorem MV.rows_of {W : MV} (h4 : W.bf.length = 4) {p : List Ent → Prop} (h : ∀ t, t < 4 → p (W.b t)) : ∀ b ∈ W.bf, p b := by
  intro b hb
  obtain ⟨t, ht, rfl⟩ := List.mem_iff_getElem.1 hb
  have := h t (by omega)
  unfold MV.b at this
  rw [List.getD_eq_getElem?_getD, List.getElem?_eq_getElem ht] at this
  exact this

/-- A thread that may go on has an instruction. -/
theorem MV.may_thr {V : MV} {i : Nat} (hi : i < 4) (h : V.may i = true) : V.nxt i = some (V.thrI i) := by
  unfold MV.may at h
  rw [if_pos hi] at h
  unfold MV.mayT at h
  unfold MV.thrI
  cases hq : V.nxt i with
  | none => rw [hq] at h; cases h
  | some q => rfl

section nx
variable {V : MV} (v : V.Inv)
include v

theorem MV.Inv.thrL {i : Nat} (hi : i < 4) (q : Ins) (t : Nat) : (V.thrM i q).l t = if t = i then afterL (V.P.code i) (V.l i) (V.val i q).1 else V.l t := by
  show (V.lc.set i _).getD t Lcl.zero = _
  rw [getDset (by rw [v.fit.lc]; exact hi)]
  rfl
theorem MV.Inv.thrB {i : Nat} (hi : i < 4) (q : Ins) (t : Nat) : (V.thrM i q).b t = if t = i ∧ (evOf q (V.l i) (V.val i q).1).kind = 2 ∧ V.m ≠ 1 then V.b i ++ [⟨(evOf q (V.l i) (V.val i q).1).loc, (evOf q (V.l i) (V.val i q).1).w, V.st.length⟩] else V.b t := by
  show (V.wr i _).bf.getD t [] = _
  rw [V.wr_bf]
  split
  · rename_i h
    rw [getDset (by rw [v.fit.bf]; exact hi)]
    by_cases ht : t = i
    · rw [if_pos ht, if_pos ⟨ht, h⟩]
    · rw [if_neg ht, if_neg (fun q => ht q.1)]; rfl
  · rename_i h
    rw [if_neg (fun q => h q.2)]; rfl
theorem MV.Inv.fluB {i : Nat} (hi : i < 4) (loc : Int) (t : Nat) : (V.fluM i loc).b t = if t = i then (V.b i).eraseP (oldP (bmod V.m) loc) else V.b t := by
  show (V.bf.set i _).getD t [] = _
  rw [getDset (by rw [v.fit.bf]; exact hi)]
  rfl

theorem MV.Inv.mem_b {t : Nat} {e : Ent} (he : e ∈ V.b t) : 0 ≤ e.loc ∧ e.loc < 4 := by
  by_cases ht : t < V.bf.length
  · exact v.ents _ (List.mem_of_getElem? (MV.b_at ht)) e he
  · unfold MV.b at he
    rw [List.getD_eq_getElem?_getD, List.getElem?_eq_none (by omega)] at he
    simp at he

theorem MV.Inv.thr {i : Nat} (hi : i < 4) {q : Ins} (hq : V.nxt i = some q) : (V.thrM i q).Inv := by
  obtain ⟨q1, q2, q3, q4, q5⟩ := v.nxt hq
  have hb := v.thrB hi q
  have hl := v.thrL hi q
  have hpc : (V.l i).pc + 1 ≤ (afterL (V.P.code i) (V.l i) (V.val i q).1).pc := afterL_pc hq _
  have hev := evOf_loc (l := V.l i) (v := (V.val i q).1) q1
  obtain ⟨w1, w2, w3⟩ := V.wr_lc i (evOf q (V.l i) (V.val i q).1)
  have f := v.fit
  have e0 : (V.thrM i q).bf.length = 4 := by
    show (V.wr i _).bf.length = 4
    rw [V.wr_bf]; split
    · rw [List.length_set]; exact f.bf
    · exact f.bf
  have blen : ∀ t, t < 4 → ((V.thrM i q).b t).length ≤ 24 := fun t ht => by
    rw [hb]
    split
    · have := v.pcs i hi
      rw [List.length_append, List.length_singleton]; omega
    · exact v.blen ht
  have hmm : (V.thrM i q).m = V.m := w3
  have hPP : (V.thrM i q).P = V.P := w2
  refine ⟨⟨by rw [hmm]; exact f.m, by show (V.lc.set _ _).length = 4; rw [List.length_set]; exact f.lc, ?_, ?_, e0, MV.rows_of e0 blen⟩, by rw [hPP]; exact v.small, by rw [hPP]; exact v.fld, by rw [hPP]; exact v.locs, by rw [hPP]; exact v.c10, MV.rows_of e0 fun t ht e he => ?_, fun t ht => ?_⟩
  · show (V.wr i _).mem.length = 4
    unfold MV.wr; split
    · exact f.mem
    · split
      · rw [List.length_set]; exact f.mem
      · exact f.mem
  · show (V.wr i _).frm.length = 4
    unfold MV.wr; split
    · exact f.frm
    · split
      · rw [List.length_set]; exact f.frm
      · exact f.frm
  · rw [hb] at he
    split at he
    · rcases List.mem_append.1 he with he | he
      · exact v.mem_b he
      · rw [List.mem_singleton] at he; subst he; exact hev
    · exact v.mem_b he
  · rw [hb, hl]
    by_cases h : t = i
    · subst h
      rw [if_pos rfl]
      have := v.pcs t ht
      split
      · rw [List.length_append, List.length_singleton]; omega
      · omega
    · rw [if_neg h, if_neg (fun q => h q.1)]
      exact v.pcs t ht

theorem MV.Inv.flu {i : Nat} (hi : i < 4) (loc : Int) : (V.fluM i loc).Inv := by
  have hb := v.fluB hi loc
  have f := v.fit
  have e0 : (V.fluM i loc).bf.length = 4 := by show (V.bf.set _ _).length = 4; rw [List.length_set]; exact f.bf
  refine ⟨⟨f.m, f.lc, by show (V.mem.set _ _).length = 4; rw [List.length_set]; exact f.mem, by show (V.frm.set _ _).length = 4; rw [List.length_set]; exact f.frm, e0, MV.rows_of e0 fun t ht => ?_⟩, v.small, v.fld, v.locs, v.c10, MV.rows_of e0 fun t ht e he => ?_, fun t ht => ?_⟩
  · rw [hb]; split
    · exact Nat.le_trans List.length_eraseP_le (v.blen hi)
    · exact v.blen ht
  · rw [hb] at he
    split at he
    · exact v.mem_b (List.mem_of_mem_eraseP he)
    · exact v.mem_b he
  · rw [hb]
    show _ ≤ (V.l t).pc
    split
    · rename_i h
      subst h
      have := v.pcs t ht
      have h2 := List.length_eraseP_le (p := oldP (bmod V.m) loc) (l := V.b t)
      omega
    · exact v.pcs t ht

theorem MV.Inv.st {s : List Stp} : MV.Inv { V with st := s } := ⟨⟨v.fit.m, v.fit.lc, v.fit.mem, v.fit.frm, v.fit.bf, v.fit.b⟩, v.small, v.fld, v.locs, v.c10, v.ents, v.pcs⟩

theorem MV.Inv.nx {i : Nat} (h : V.may i = true) : (V.nx i).Inv := by
  have hi := MV.may_lt h
  unfold MV.nx
  split
  · rename_i h4
    exact (v.thr h4 (MV.may_thr h4 h)).st
  · split
    · exact (v.flu (by omega) _).st
    · exact (v.flu (by omega) _).st
end nx

theorem MV.nx_st (V : MV) (i : Nat) : (V.nx i).st = V.st ++ [V.stp i] := rfl
theorem MV.nx_P (V : MV) (i : Nat) : (V.nx i).P = V.P ∧ (V.nx i).m = V.m := by
  unfold MV.nx
  split
  · exact ⟨(V.wr_lc _ _).2.1, (V.wr_lc _ _).2.2⟩
  · split <;> exact ⟨rfl, rfl⟩
end Jq

namespace Jq
open Go


end Jq

namespace Jq
open Go


end Jq

/- What a function needs of an environment. -/
namespace Jq
open Go


end Jq

/- What a function needs of an environment. -/
namespace Jq
open Go


end Jq

namespace Jq
open Go


end Jq

namespace Jq
open Go


end Jq

namespace Jq
open Go

/- strconv.Itoa: 45 -/
set_option maxRecDepth 100000 in
theorem strconv_Itoa_eq (C : CallF) (L : LoopF) (G : Glo) (a0 : Int) (h0 : AHeap) :
    strconv_Itoa.body C L G [(.c (.int .i64 a0))] h0 =
    c1 (C 46 [(.c (.int .i64 a0))] h0) fun y_2 h_1 => asS y_2 fun z_3 => some ([(.c (.str z_3))], h_1) := by kernel_rfl


end Jq

namespace Jq
open Go

/- internal/strconv.Itoa: 46 -/
set_option maxRecDepth 100000 in
theorem istrconv_Itoa_eq (C : CallF) (L : LoopF) (G : Glo) (a0 : Int) (h0 : AHeap) :
    istrconv_Itoa.body C L G [(.c (.int .i64 a0))] h0 =
    c1 (C 47 [(.c (.int .i64 a0)), (.c (.int .i64 10))] h0) fun y_2 h_1 => asS y_2 fun z_3 => some ([(.c (.str z_3))], h_1) := by kernel_rfl

/- internal/strconv.FormatInt: 47 -/
set_option maxRecDepth 100000 in
theorem istrconv_FormatInt_eq (C : CallF) (L : LoopF) (G : Glo) (a0 : Int) (a1 : Int) (h0 : AHeap) :
    istrconv_FormatInt.body C L G [(.c (.int .i64 a0)), (.c (.int .i64 a1))] h0 =
    if (a1 == 10) = true then scK (decide (0 ≤ a0)) true (some ((decide (a0 < 100)), h0)) false h0 fun b_1 h_2 => if b_1 = true then c1 (C 48 [(.c (.int .i64 a0))] h_2) fun y_4 h_3 => asS y_4 fun z_5 => finish true h0 [(.c (.str z_5))] h_3 else if (decide (a0 < 0)) = true then c1 (C 49 [(.c (.int .u64 (G.wrap .u64 (0 - (G.wrap .u64 a0)))))] (h_2 ++ [some (Blk.mk true 0 (List.replicate 24 (Cell.int .u8 0)))])) fun y_7 h_6 => asI .i64 y_7 fun n_8 => sliceAK h_6 24 1 true true (.ptr h_2.length ((List.replicate 24 (Cell.int .u8 0)).length) 0) [.v (.c (.int .i64 1)), .v (.c (.int .i64 (G.wrap .i64 (1 + n_8))))] fun x_9 => c0 (C 50 [(.c x_9), (.c (.int .u64 (G.wrap .u64 (0 - (G.wrap .u64 a0)))))] h_6) fun h_10 => if (decide (a0 < 0)) = true then rdH h_10 h_2.length ((List.replicate 24 (Cell.int .u8 0)).length) fun l_11 => if 0 < l_11.length then putH h_10 h_2.length (l_11.set 0 (.int .u8 45)) fun h_12 => sliceAK h_12 24 1 false true (.ptr h_2.length ((List.replicate 24 (Cell.int .u8 0)).length) 0) [.v (.c (.int .i64 (G.wrap .i64 (1 + n_8))))] fun x_13 => (slCells h_12 1 x_13).bind fun l_14 => (bytesOf l_14).bind fun l_15 => finish true h0 [(.c (.str (ByteArray.mk l_15.toArray)))] h_12 else none else sliceAK h_10 24 1 true true (.ptr h_2.length ((List.replicate 24 (Cell.int .u8 0)).length) 0) [.v (.c (.int .i64 1)), .v (.c (.int .i64 (G.wrap .i64 (1 + n_8))))] fun x_16 => (slCells h_10 1 x_16).bind fun l_17 => (bytesOf l_17).bind fun l_18 => finish true h0 [(.c (.str (ByteArray.mk l_18.toArray)))] h_10 else c1 (C 49 [(.c (.int .u64 (G.wrap .u64 a0)))] (h_2 ++ [some (Blk.mk true 0 (List.replicate 24 (Cell.int .u8 0)))])) fun y_20 h_19 => asI .i64 y_20 fun n_21 => sliceAK h_19 24 1 true true (.ptr h_2.length ((List.replicate 24 (Cell.int .u8 0)).length) 0) [.v (.c (.int .i64 1)), .v (.c (.int .i64 (G.wrap .i64 (1 + n_21))))] fun x_22 => c0 (C 50 [(.c x_22), (.c (.int .u64 (G.wrap .u64 a0)))] h_19) fun h_23 => if (decide (a0 < 0)) = true then rdH h_23 h_2.length ((List.replicate 24 (Cell.int .u8 0)).length) fun l_24 => if 0 < l_24.length then putH h_23 h_2.length (l_24.set 0 (.int .u8 45)) fun h_25 => sliceAK h_25 24 1 false true (.ptr h_2.length ((List.replicate 24 (Cell.int .u8 0)).length) 0) [.v (.c (.int .i64 (G.wrap .i64 (1 + n_21))))] fun x_26 => (slCells h_25 1 x_26).bind fun l_27 => (bytesOf l_27).bind fun l_28 => finish true h0 [(.c (.str (ByteArray.mk l_28.toArray)))] h_25 else none else sliceAK h_23 24 1 true true (.ptr h_2.length ((List.replicate 24 (Cell.int .u8 0)).length) 0) [.v (.c (.int .i64 1)), .v (.c (.int .i64 (G.wrap .i64 (1 + n_21))))] fun x_29 => (slCells h_23 1 x_29).bind fun l_30 => (bytesOf l_30).bind fun l_31 => finish true h0 [(.c (.str (ByteArray.mk l_31.toArray)))] h_23 else c2 (C 51 [(.c .nils), (.c (.int .u64 (G.wrap .u64 a0))), (.c (.int .i64 a1)), (.c (.bool (decide (a0 < 0)))), (.c (.bool false))] h0) fun y_33 y_34 h_32 => asC y_33 fun x_35 => asS y_34 fun z_36 => finish true h0 [(.c (.str z_36))] h_32 := by kernel_rfl

/- internal/strconv.small: 48 -/
set_option maxRecDepth 100000 in
theorem istrconv_small_eq (C : CallF) (L : LoopF) (G : Glo) (a0 : Int) (h0 : AHeap) :
    istrconv_small.body C L G [(.c (.int .i64 a0))] h0 =
    if (decide (a0 < 10)) = true then sliceStrK true true (.str (ByteArray.mk #[48, 49, 50, 51, 52, 53, 54, 55, 56, 57, 97, 98, 99, 100, 101, 102, 103, 104, 105, 106, 107, 108, 109, 110, 111, 112, 113, 114, 115, 116, 117, 118, 119, 120, 121, 122])) [.v (.c (.int .i64 a0)), .v (.c (.int .i64 (G.wrap .i64 (a0 + 1))))] fun x_1 => some ([(.c (.str x_1))], h0) else let v_2 : Int := (G.wrap .i64 ((G.wrap .i64 (a0 * 2)) + 2)); sliceStrK true true (.str (ByteArray.mk #[48, 48, 48, 49, 48, 50, 48, 51, 48, 52, 48, 53, 48, 54, 48, 55, 48, 56, 48, 57, 49, 48, 49, 49, 49, 50, 49, 51, 49, 52, 49, 53, 49, 54, 49, 55, 49, 56, 49, 57, 50, 48, 50, 49, 50, 50, 50, 51, 50, 52, 50, 53, 50, 54, 50, 55, 50, 56, 50, 57, 51, 48, 51, 49, 51, 50, 51, 51, 51, 52, 51, 53, 51, 54, 51, 55, 51, 56, 51, 57, 52, 48, 52, 49, 52, 50, 52, 51, 52, 52, 52, 53, 52, 54, 52, 55, 52, 56, 52, 57, 53, 48, 53, 49, 53, 50, 53, 51, 53, 52, 53, 53, 53, 54, 53, 55, 53, 56, 53, 57, 54, 48, 54, 49, 54, 50, 54, 51, 54, 52, 54, 53, 54, 54, 54, 55, 54, 56, 54, 57, 55, 48, 55, 49, 55, 50, 55, 51, 55, 52, 55, 53, 55, 54, 55, 55, 55, 56, 55, 57, 56, 48, 56, 49, 56, 50, 56, 51, 56, 52, 56, 53, 56, 54, 56, 55, 56, 56, 56, 57, 57, 48, 57, 49, 57, 50, 57, 51, 57, 52, 57, 53, 57, 54, 57, 55, 57, 56, 57, 57])) [.v (.c (.int .i64 (G.wrap .i64 (a0 * 2)))), .v (.c (.int .i64 v_2))] fun x_3 => some ([(.c (.str x_3))], h0) := by kernel_rfl


end Jq

/- NamesNumbers: every number is the document's. -/
namespace Jq
open Go

variable {E : Env}

theorem Itoa_of (hE : strconv_Itoa_In E) {a : Int} {z : ByteArray} (ha : 0 ≤ a ∧ a < 100) {h : AHeap} (small : R E 48 [.c (.int .i64 a)] h = some ([.c (.str z)], h)) : R E 45 [.c (.int .i64 a)] h = some ([.c (.str z)], h) := by
  refine R_intro hE.fn ?_
  have fmt : R E 47 [.c (.int .i64 a), .c (.int .i64 10)] h = some ([.c (.str z)], h) := by
    refine R_intro hE.c46.c47.fn ?_
    rw [istrconv_FormatInt_eq, if_pos (by rfl), scK_and, if_pos (by simp; omega), small, c1_ok, asS_ok]
    exact finish_gc (Kp.refl _ _) (by simp [avOk, AV.cells, idOk])
  have it : R E 46 [.c (.int .i64 a)] h = some ([.c (.str z)], h) := by
    refine R_intro hE.c46.fn ?_
    rw [istrconv_Itoa_eq, fmt, c1_ok, asS_ok]
  rw [strconv_Itoa_eq, it, c1_ok, asS_ok]

/-- The numbers. -/
def nums : List (Int × Int) := [(0, 0), (1, 1), (2, 2), (4, 4), (5, 5), (6, 6), (7, 7), (8, 8), (9, 9), (10, 10), (4000, 4000), (4, 4), (10, 10), (24, 24), (4, 4), (1, 1), (2, 2), (3, 3), (4, 4), (5, 5), (6, 6), (7, 7), (8, 8), (9, 9), (10, 10), (11, 11), (1, 1), (2, 2), (3, 3), (4, 4), (1, 1), (2, 2), (3, 3), (4, 4), (5, 5), (6, 6), (1, 1), (2, 2), (1, 1), (2, 2), (3, 3), (4, 4), (5, 5), (6, 6), (1, 1), (2, 2), (3, 3), (0, 0), (1, 1), (2, 2), (1, 1), (2, 2), (3, 3), (4, 4), (5, 5), (6, 6), (7, 7), (8, 8), (9, 9), (10, 10), (11, 11), (12, 12), (13, 13)]

end Jq

namespace Jq
open Go

/- jacquard/jacquardlaw12.SB: 187 -/
set_option maxRecDepth 100000 in
theorem jacquardlaw12_SB_eq (C : CallF) (L : LoopF) (G : Glo)  (h0 : AHeap) :
    jacquardlaw12_SB.body C L G [] h0 =
    if 0 = 0 ∧ [Cell.int .i64 0, Cell.int .i64 0].length = 2 ∧ (splice (splice [Cell.int .i64 0, Cell.int .i64 0] 0 ([(.int .i64 (-1))] : List Cell)) 1 ([(.int .i64 1)] : List Cell)).length = 2 then if (splice (splice [Cell.int .u8 0, Cell.int .u8 0] 0 ([(.int .u8 120)] : List Cell)) 1 ([(.int .u8 121)] : List Cell)).length = 2 * 1 then markK (.sl h0.length ((splice (splice [Cell.int .u8 0, Cell.int .u8 0] 0 ([(.int .u8 120)] : List Cell)) 1 ([(.int .u8 121)] : List Cell)).length) 0 2) (h0 ++ [some (Blk.mk true 1 (splice (splice [Cell.int .u8 0, Cell.int .u8 0] 0 ([(.int .u8 120)] : List Cell)) 1 ([(.int .u8 121)] : List Cell)))]) fun x_1 h_2 => if (splice (splice [Cell.int .i64 0, Cell.int .i64 0] 0 ([(.int .i64 0)] : List Cell)) 1 ([(.int .i64 0)] : List Cell)).length = 2 * 1 then if 0 = 0 ∧ (splice (splice [Cell.int .i64 0, Cell.int .i64 0] 0 ([(.int .i64 (-1))] : List Cell)) 1 ([(.int .i64 1)] : List Cell)).length = 2 then if (splice (splice [Cell.int .i64 0, Cell.int .i64 0] 0 ([(.int .i64 (-1))] : List Cell)) 1 ([(.int .i64 1)] : List Cell)).length = 2 ∧ 3 + 2 ≤ (splice (splice (List.replicate 9 (Cell.int .i64 0)) 0 ([(.int .i64 1)] : List Cell)) 2 ([(.int .i64 0)] : List Cell)).length then if (splice (splice (splice (List.replicate 9 (Cell.int .i64 0)) 0 ([(.int .i64 1)] : List Cell)) 2 ([(.int .i64 0)] : List Cell)) 3 (splice (splice [Cell.int .i64 0, Cell.int .i64 0] 0 ([(.int .i64 (-1))] : List Cell)) 1 ([(.int .i64 1)] : List Cell))).length = 9 ∧ 0 + 9 ≤ (List.replicate 18 (Cell.int .i64 0)).length then if (splice (splice (List.replicate 9 (Cell.int .i64 0)) 0 ([(.int .i64 2)] : List Cell)) 2 ([(.int .i64 1)] : List Cell)).length = 9 ∧ 9 + 9 ≤ (splice (List.replicate 18 (Cell.int .i64 0)) 0 (splice (splice (splice (List.replicate 9 (Cell.int .i64 0)) 0 ([(.int .i64 1)] : List Cell)) 2 ([(.int .i64 0)] : List Cell)) 3 (splice (splice [Cell.int .i64 0, Cell.int .i64 0] 0 ([(.int .i64 (-1))] : List Cell)) 1 ([(.int .i64 1)] : List Cell)))).length then if (splice (splice (List.replicate 18 (Cell.int .i64 0)) 0 (splice (splice (splice (List.replicate 9 (Cell.int .i64 0)) 0 ([(.int .i64 1)] : List Cell)) 2 ([(.int .i64 0)] : List Cell)) 3 (splice (splice [Cell.int .i64 0, Cell.int .i64 0] 0 ([(.int .i64 (-1))] : List Cell)) 1 ([(.int .i64 1)] : List Cell)))) 9 (splice (splice (List.replicate 9 (Cell.int .i64 0)) 0 ([(.int .i64 2)] : List Cell)) 2 ([(.int .i64 1)] : List Cell))).length = 2 * 9 then if 0 = 0 ∧ (splice (splice [Cell.int .i64 0, Cell.int .i64 0] 0 ([(.int .i64 (-1))] : List Cell)) 1 ([(.int .i64 1)] : List Cell)).length = 2 then if (splice (splice [Cell.int .i64 0, Cell.int .i64 0] 0 ([(.int .i64 (-1))] : List Cell)) 1 ([(.int .i64 1)] : List Cell)).length = 2 ∧ 3 + 2 ≤ (splice (splice (List.replicate 9 (Cell.int .i64 0)) 0 ([(.int .i64 1)] : List Cell)) 2 ([(.int .i64 1)] : List Cell)).length then if (splice (splice (splice (List.replicate 9 (Cell.int .i64 0)) 0 ([(.int .i64 1)] : List Cell)) 2 ([(.int .i64 1)] : List Cell)) 3 (splice (splice [Cell.int .i64 0, Cell.int .i64 0] 0 ([(.int .i64 (-1))] : List Cell)) 1 ([(.int .i64 1)] : List Cell))).length = 9 ∧ 0 + 9 ≤ (List.replicate 18 (Cell.int .i64 0)).length then if (splice (splice (List.replicate 9 (Cell.int .i64 0)) 0 ([(.int .i64 2)] : List Cell)) 2 ([(.int .i64 0)] : List Cell)).length = 9 ∧ 9 + 9 ≤ (splice (List.replicate 18 (Cell.int .i64 0)) 0 (splice (splice (splice (List.replicate 9 (Cell.int .i64 0)) 0 ([(.int .i64 1)] : List Cell)) 2 ([(.int .i64 1)] : List Cell)) 3 (splice (splice [Cell.int .i64 0, Cell.int .i64 0] 0 ([(.int .i64 (-1))] : List Cell)) 1 ([(.int .i64 1)] : List Cell)))).length then if (splice (splice (List.replicate 18 (Cell.int .i64 0)) 0 (splice (splice (splice (List.replicate 9 (Cell.int .i64 0)) 0 ([(.int .i64 1)] : List Cell)) 2 ([(.int .i64 1)] : List Cell)) 3 (splice (splice [Cell.int .i64 0, Cell.int .i64 0] 0 ([(.int .i64 (-1))] : List Cell)) 1 ([(.int .i64 1)] : List Cell)))) 9 (splice (splice (List.replicate 9 (Cell.int .i64 0)) 0 ([(.int .i64 2)] : List Cell)) 2 ([(.int .i64 0)] : List Cell))).length = 2 * 9 then if (splice (splice [Cell.nils, Cell.nils] 0 ([(.sl ((h_2 ++ [some (Blk.mk true 1 (splice (splice [Cell.int .i64 0, Cell.int .i64 0] 0 ([(.int .i64 0)] : List Cell)) 1 ([(.int .i64 0)] : List Cell)))]).length) ((splice (splice (List.replicate 18 (Cell.int .i64 0)) 0 (splice (splice (splice (List.replicate 9 (Cell.int .i64 0)) 0 ([(.int .i64 1)] : List Cell)) 2 ([(.int .i64 0)] : List Cell)) 3 (splice (splice [Cell.int .i64 0, Cell.int .i64 0] 0 ([(.int .i64 (-1))] : List Cell)) 1 ([(.int .i64 1)] : List Cell)))) 9 (splice (splice (List.replicate 9 (Cell.int .i64 0)) 0 ([(.int .i64 2)] : List Cell)) 2 ([(.int .i64 1)] : List Cell))).length) 0 2)] : List Cell)) 1 ([(.sl (((h_2 ++ [some (Blk.mk true 1 (splice (splice [Cell.int .i64 0, Cell.int .i64 0] 0 ([(.int .i64 0)] : List Cell)) 1 ([(.int .i64 0)] : List Cell)))]) ++ [some (Blk.mk true 9 (splice (splice (List.replicate 18 (Cell.int .i64 0)) 0 (splice (splice (splice (List.replicate 9 (Cell.int .i64 0)) 0 ([(.int .i64 1)] : List Cell)) 2 ([(.int .i64 0)] : List Cell)) 3 (splice (splice [Cell.int .i64 0, Cell.int .i64 0] 0 ([(.int .i64 (-1))] : List Cell)) 1 ([(.int .i64 1)] : List Cell)))) 9 (splice (splice (List.replicate 9 (Cell.int .i64 0)) 0 ([(.int .i64 2)] : List Cell)) 2 ([(.int .i64 1)] : List Cell))))]).length) ((splice (splice (List.replicate 18 (Cell.int .i64 0)) 0 (splice (splice (splice (List.replicate 9 (Cell.int .i64 0)) 0 ([(.int .i64 1)] : List Cell)) 2 ([(.int .i64 1)] : List Cell)) 3 (splice (splice [Cell.int .i64 0, Cell.int .i64 0] 0 ([(.int .i64 (-1))] : List Cell)) 1 ([(.int .i64 1)] : List Cell)))) 9 (splice (splice (List.replicate 9 (Cell.int .i64 0)) 0 ([(.int .i64 2)] : List Cell)) 2 ([(.int .i64 0)] : List Cell))).length) 0 2)] : List Cell)).length = 2 * 1 then if 0 = 0 ∧ [Cell.nils, Cell.nils, Cell.nils].length = 3 ∧ (splice (splice (splice [Cell.nils, Cell.nils, Cell.nils] 0 ([x_1] : List Cell)) 1 ([(.sl h_2.length ((splice (splice [Cell.int .i64 0, Cell.int .i64 0] 0 ([(.int .i64 0)] : List Cell)) 1 ([(.int .i64 0)] : List Cell)).length) 0 2)] : List Cell)) 2 ([(.sl ((((h_2 ++ [some (Blk.mk true 1 (splice (splice [Cell.int .i64 0, Cell.int .i64 0] 0 ([(.int .i64 0)] : List Cell)) 1 ([(.int .i64 0)] : List Cell)))]) ++ [some (Blk.mk true 9 (splice (splice (List.replicate 18 (Cell.int .i64 0)) 0 (splice (splice (splice (List.replicate 9 (Cell.int .i64 0)) 0 ([(.int .i64 1)] : List Cell)) 2 ([(.int .i64 0)] : List Cell)) 3 (splice (splice [Cell.int .i64 0, Cell.int .i64 0] 0 ([(.int .i64 (-1))] : List Cell)) 1 ([(.int .i64 1)] : List Cell)))) 9 (splice (splice (List.replicate 9 (Cell.int .i64 0)) 0 ([(.int .i64 2)] : List Cell)) 2 ([(.int .i64 1)] : List Cell))))]) ++ [some (Blk.mk true 9 (splice (splice (List.replicate 18 (Cell.int .i64 0)) 0 (splice (splice (splice (List.replicate 9 (Cell.int .i64 0)) 0 ([(.int .i64 1)] : List Cell)) 2 ([(.int .i64 1)] : List Cell)) 3 (splice (splice [Cell.int .i64 0, Cell.int .i64 0] 0 ([(.int .i64 (-1))] : List Cell)) 1 ([(.int .i64 1)] : List Cell)))) 9 (splice (splice (List.replicate 9 (Cell.int .i64 0)) 0 ([(.int .i64 2)] : List Cell)) 2 ([(.int .i64 0)] : List Cell))))]).length) ((splice (splice [Cell.nils, Cell.nils] 0 ([(.sl ((h_2 ++ [some (Blk.mk true 1 (splice (splice [Cell.int .i64 0, Cell.int .i64 0] 0 ([(.int .i64 0)] : List Cell)) 1 ([(.int .i64 0)] : List Cell)))]).length) ((splice (splice (List.replicate 18 (Cell.int .i64 0)) 0 (splice (splice (splice (List.replicate 9 (Cell.int .i64 0)) 0 ([(.int .i64 1)] : List Cell)) 2 ([(.int .i64 0)] : List Cell)) 3 (splice (splice [Cell.int .i64 0, Cell.int .i64 0] 0 ([(.int .i64 (-1))] : List Cell)) 1 ([(.int .i64 1)] : List Cell)))) 9 (splice (splice (List.replicate 9 (Cell.int .i64 0)) 0 ([(.int .i64 2)] : List Cell)) 2 ([(.int .i64 1)] : List Cell))).length) 0 2)] : List Cell)) 1 ([(.sl (((h_2 ++ [some (Blk.mk true 1 (splice (splice [Cell.int .i64 0, Cell.int .i64 0] 0 ([(.int .i64 0)] : List Cell)) 1 ([(.int .i64 0)] : List Cell)))]) ++ [some (Blk.mk true 9 (splice (splice (List.replicate 18 (Cell.int .i64 0)) 0 (splice (splice (splice (List.replicate 9 (Cell.int .i64 0)) 0 ([(.int .i64 1)] : List Cell)) 2 ([(.int .i64 0)] : List Cell)) 3 (splice (splice [Cell.int .i64 0, Cell.int .i64 0] 0 ([(.int .i64 (-1))] : List Cell)) 1 ([(.int .i64 1)] : List Cell)))) 9 (splice (splice (List.replicate 9 (Cell.int .i64 0)) 0 ([(.int .i64 2)] : List Cell)) 2 ([(.int .i64 1)] : List Cell))))]).length) ((splice (splice (List.replicate 18 (Cell.int .i64 0)) 0 (splice (splice (splice (List.replicate 9 (Cell.int .i64 0)) 0 ([(.int .i64 1)] : List Cell)) 2 ([(.int .i64 1)] : List Cell)) 3 (splice (splice [Cell.int .i64 0, Cell.int .i64 0] 0 ([(.int .i64 (-1))] : List Cell)) 1 ([(.int .i64 1)] : List Cell)))) 9 (splice (splice (List.replicate 9 (Cell.int .i64 0)) 0 ([(.int .i64 2)] : List Cell)) 2 ([(.int .i64 0)] : List Cell))).length) 0 2)] : List Cell)).length) 0 2)] : List Cell)).length = 3 then if 0 = 0 ∧ (splice (splice (splice [Cell.nils, Cell.nils, Cell.nils] 0 ([x_1] : List Cell)) 1 ([(.sl h_2.length ((splice (splice [Cell.int .i64 0, Cell.int .i64 0] 0 ([(.int .i64 0)] : List Cell)) 1 ([(.int .i64 0)] : List Cell)).length) 0 2)] : List Cell)) 2 ([(.sl ((((h_2 ++ [some (Blk.mk true 1 (splice (splice [Cell.int .i64 0, Cell.int .i64 0] 0 ([(.int .i64 0)] : List Cell)) 1 ([(.int .i64 0)] : List Cell)))]) ++ [some (Blk.mk true 9 (splice (splice (List.replicate 18 (Cell.int .i64 0)) 0 (splice (splice (splice (List.replicate 9 (Cell.int .i64 0)) 0 ([(.int .i64 1)] : List Cell)) 2 ([(.int .i64 0)] : List Cell)) 3 (splice (splice [Cell.int .i64 0, Cell.int .i64 0] 0 ([(.int .i64 (-1))] : List Cell)) 1 ([(.int .i64 1)] : List Cell)))) 9 (splice (splice (List.replicate 9 (Cell.int .i64 0)) 0 ([(.int .i64 2)] : List Cell)) 2 ([(.int .i64 1)] : List Cell))))]) ++ [some (Blk.mk true 9 (splice (splice (List.replicate 18 (Cell.int .i64 0)) 0 (splice (splice (splice (List.replicate 9 (Cell.int .i64 0)) 0 ([(.int .i64 1)] : List Cell)) 2 ([(.int .i64 1)] : List Cell)) 3 (splice (splice [Cell.int .i64 0, Cell.int .i64 0] 0 ([(.int .i64 (-1))] : List Cell)) 1 ([(.int .i64 1)] : List Cell)))) 9 (splice (splice (List.replicate 9 (Cell.int .i64 0)) 0 ([(.int .i64 2)] : List Cell)) 2 ([(.int .i64 0)] : List Cell))))]).length) ((splice (splice [Cell.nils, Cell.nils] 0 ([(.sl ((h_2 ++ [some (Blk.mk true 1 (splice (splice [Cell.int .i64 0, Cell.int .i64 0] 0 ([(.int .i64 0)] : List Cell)) 1 ([(.int .i64 0)] : List Cell)))]).length) ((splice (splice (List.replicate 18 (Cell.int .i64 0)) 0 (splice (splice (splice (List.replicate 9 (Cell.int .i64 0)) 0 ([(.int .i64 1)] : List Cell)) 2 ([(.int .i64 0)] : List Cell)) 3 (splice (splice [Cell.int .i64 0, Cell.int .i64 0] 0 ([(.int .i64 (-1))] : List Cell)) 1 ([(.int .i64 1)] : List Cell)))) 9 (splice (splice (List.replicate 9 (Cell.int .i64 0)) 0 ([(.int .i64 2)] : List Cell)) 2 ([(.int .i64 1)] : List Cell))).length) 0 2)] : List Cell)) 1 ([(.sl (((h_2 ++ [some (Blk.mk true 1 (splice (splice [Cell.int .i64 0, Cell.int .i64 0] 0 ([(.int .i64 0)] : List Cell)) 1 ([(.int .i64 0)] : List Cell)))]) ++ [some (Blk.mk true 9 (splice (splice (List.replicate 18 (Cell.int .i64 0)) 0 (splice (splice (splice (List.replicate 9 (Cell.int .i64 0)) 0 ([(.int .i64 1)] : List Cell)) 2 ([(.int .i64 0)] : List Cell)) 3 (splice (splice [Cell.int .i64 0, Cell.int .i64 0] 0 ([(.int .i64 (-1))] : List Cell)) 1 ([(.int .i64 1)] : List Cell)))) 9 (splice (splice (List.replicate 9 (Cell.int .i64 0)) 0 ([(.int .i64 2)] : List Cell)) 2 ([(.int .i64 1)] : List Cell))))]).length) ((splice (splice (List.replicate 18 (Cell.int .i64 0)) 0 (splice (splice (splice (List.replicate 9 (Cell.int .i64 0)) 0 ([(.int .i64 1)] : List Cell)) 2 ([(.int .i64 1)] : List Cell)) 3 (splice (splice [Cell.int .i64 0, Cell.int .i64 0] 0 ([(.int .i64 (-1))] : List Cell)) 1 ([(.int .i64 1)] : List Cell)))) 9 (splice (splice (List.replicate 9 (Cell.int .i64 0)) 0 ([(.int .i64 2)] : List Cell)) 2 ([(.int .i64 0)] : List Cell))).length) 0 2)] : List Cell)).length) 0 2)] : List Cell)).length = 3 then some ([(.agg (splice (splice (splice [Cell.nils, Cell.nils, Cell.nils] 0 ([x_1] : List Cell)) 1 ([(.sl h_2.length ((splice (splice [Cell.int .i64 0, Cell.int .i64 0] 0 ([(.int .i64 0)] : List Cell)) 1 ([(.int .i64 0)] : List Cell)).length) 0 2)] : List Cell)) 2 ([(.sl ((((h_2 ++ [some (Blk.mk true 1 (splice (splice [Cell.int .i64 0, Cell.int .i64 0] 0 ([(.int .i64 0)] : List Cell)) 1 ([(.int .i64 0)] : List Cell)))]) ++ [some (Blk.mk true 9 (splice (splice (List.replicate 18 (Cell.int .i64 0)) 0 (splice (splice (splice (List.replicate 9 (Cell.int .i64 0)) 0 ([(.int .i64 1)] : List Cell)) 2 ([(.int .i64 0)] : List Cell)) 3 (splice (splice [Cell.int .i64 0, Cell.int .i64 0] 0 ([(.int .i64 (-1))] : List Cell)) 1 ([(.int .i64 1)] : List Cell)))) 9 (splice (splice (List.replicate 9 (Cell.int .i64 0)) 0 ([(.int .i64 2)] : List Cell)) 2 ([(.int .i64 1)] : List Cell))))]) ++ [some (Blk.mk true 9 (splice (splice (List.replicate 18 (Cell.int .i64 0)) 0 (splice (splice (splice (List.replicate 9 (Cell.int .i64 0)) 0 ([(.int .i64 1)] : List Cell)) 2 ([(.int .i64 1)] : List Cell)) 3 (splice (splice [Cell.int .i64 0, Cell.int .i64 0] 0 ([(.int .i64 (-1))] : List Cell)) 1 ([(.int .i64 1)] : List Cell)))) 9 (splice (splice (List.replicate 9 (Cell.int .i64 0)) 0 ([(.int .i64 2)] : List Cell)) 2 ([(.int .i64 0)] : List Cell))))]).length) ((splice (splice [Cell.nils, Cell.nils] 0 ([(.sl ((h_2 ++ [some (Blk.mk true 1 (splice (splice [Cell.int .i64 0, Cell.int .i64 0] 0 ([(.int .i64 0)] : List Cell)) 1 ([(.int .i64 0)] : List Cell)))]).length) ((splice (splice (List.replicate 18 (Cell.int .i64 0)) 0 (splice (splice (splice (List.replicate 9 (Cell.int .i64 0)) 0 ([(.int .i64 1)] : List Cell)) 2 ([(.int .i64 0)] : List Cell)) 3 (splice (splice [Cell.int .i64 0, Cell.int .i64 0] 0 ([(.int .i64 (-1))] : List Cell)) 1 ([(.int .i64 1)] : List Cell)))) 9 (splice (splice (List.replicate 9 (Cell.int .i64 0)) 0 ([(.int .i64 2)] : List Cell)) 2 ([(.int .i64 1)] : List Cell))).length) 0 2)] : List Cell)) 1 ([(.sl (((h_2 ++ [some (Blk.mk true 1 (splice (splice [Cell.int .i64 0, Cell.int .i64 0] 0 ([(.int .i64 0)] : List Cell)) 1 ([(.int .i64 0)] : List Cell)))]) ++ [some (Blk.mk true 9 (splice (splice (List.replicate 18 (Cell.int .i64 0)) 0 (splice (splice (splice (List.replicate 9 (Cell.int .i64 0)) 0 ([(.int .i64 1)] : List Cell)) 2 ([(.int .i64 0)] : List Cell)) 3 (splice (splice [Cell.int .i64 0, Cell.int .i64 0] 0 ([(.int .i64 (-1))] : List Cell)) 1 ([(.int .i64 1)] : List Cell)))) 9 (splice (splice (List.replicate 9 (Cell.int .i64 0)) 0 ([(.int .i64 2)] : List Cell)) 2 ([(.int .i64 1)] : List Cell))))]).length) ((splice (splice (List.replicate 18 (Cell.int .i64 0)) 0 (splice (splice (splice (List.replicate 9 (Cell.int .i64 0)) 0 ([(.int .i64 1)] : List Cell)) 2 ([(.int .i64 1)] : List Cell)) 3 (splice (splice [Cell.int .i64 0, Cell.int .i64 0] 0 ([(.int .i64 (-1))] : List Cell)) 1 ([(.int .i64 1)] : List Cell)))) 9 (splice (splice (List.replicate 9 (Cell.int .i64 0)) 0 ([(.int .i64 2)] : List Cell)) 2 ([(.int .i64 0)] : List Cell))).length) 0 2)] : List Cell)).length) 0 2)] : List Cell)))], ((((h_2 ++ [some (Blk.mk true 1 (splice (splice [Cell.int .i64 0, Cell.int .i64 0] 0 ([(.int .i64 0)] : List Cell)) 1 ([(.int .i64 0)] : List Cell)))]) ++ [some (Blk.mk true 9 (splice (splice (List.replicate 18 (Cell.int .i64 0)) 0 (splice (splice (splice (List.replicate 9 (Cell.int .i64 0)) 0 ([(.int .i64 1)] : List Cell)) 2 ([(.int .i64 0)] : List Cell)) 3 (splice (splice [Cell.int .i64 0, Cell.int .i64 0] 0 ([(.int .i64 (-1))] : List Cell)) 1 ([(.int .i64 1)] : List Cell)))) 9 (splice (splice (List.replicate 9 (Cell.int .i64 0)) 0 ([(.int .i64 2)] : List Cell)) 2 ([(.int .i64 1)] : List Cell))))]) ++ [some (Blk.mk true 9 (splice (splice (List.replicate 18 (Cell.int .i64 0)) 0 (splice (splice (splice (List.replicate 9 (Cell.int .i64 0)) 0 ([(.int .i64 1)] : List Cell)) 2 ([(.int .i64 1)] : List Cell)) 3 (splice (splice [Cell.int .i64 0, Cell.int .i64 0] 0 ([(.int .i64 (-1))] : List Cell)) 1 ([(.int .i64 1)] : List Cell)))) 9 (splice (splice (List.replicate 9 (Cell.int .i64 0)) 0 ([(.int .i64 2)] : List Cell)) 2 ([(.int .i64 0)] : List Cell))))]) ++ [some (Blk.mk true 1 (splice (splice [Cell.nils, Cell.nils] 0 ([(.sl ((h_2 ++ [some (Blk.mk true 1 (splice (splice [Cell.int .i64 0, Cell.int .i64 0] 0 ([(.int .i64 0)] : List Cell)) 1 ([(.int .i64 0)] : List Cell)))]).length) ((splice (splice (List.replicate 18 (Cell.int .i64 0)) 0 (splice (splice (splice (List.replicate 9 (Cell.int .i64 0)) 0 ([(.int .i64 1)] : List Cell)) 2 ([(.int .i64 0)] : List Cell)) 3 (splice (splice [Cell.int .i64 0, Cell.int .i64 0] 0 ([(.int .i64 (-1))] : List Cell)) 1 ([(.int .i64 1)] : List Cell)))) 9 (splice (splice (List.replicate 9 (Cell.int .i64 0)) 0 ([(.int .i64 2)] : List Cell)) 2 ([(.int .i64 1)] : List Cell))).length) 0 2)] : List Cell)) 1 ([(.sl (((h_2 ++ [some (Blk.mk true 1 (splice (splice [Cell.int .i64 0, Cell.int .i64 0] 0 ([(.int .i64 0)] : List Cell)) 1 ([(.int .i64 0)] : List Cell)))]) ++ [some (Blk.mk true 9 (splice (splice (List.replicate 18 (Cell.int .i64 0)) 0 (splice (splice (splice (List.replicate 9 (Cell.int .i64 0)) 0 ([(.int .i64 1)] : List Cell)) 2 ([(.int .i64 0)] : List Cell)) 3 (splice (splice [Cell.int .i64 0, Cell.int .i64 0] 0 ([(.int .i64 (-1))] : List Cell)) 1 ([(.int .i64 1)] : List Cell)))) 9 (splice (splice (List.replicate 9 (Cell.int .i64 0)) 0 ([(.int .i64 2)] : List Cell)) 2 ([(.int .i64 1)] : List Cell))))]).length) ((splice (splice (List.replicate 18 (Cell.int .i64 0)) 0 (splice (splice (splice (List.replicate 9 (Cell.int .i64 0)) 0 ([(.int .i64 1)] : List Cell)) 2 ([(.int .i64 1)] : List Cell)) 3 (splice (splice [Cell.int .i64 0, Cell.int .i64 0] 0 ([(.int .i64 (-1))] : List Cell)) 1 ([(.int .i64 1)] : List Cell)))) 9 (splice (splice (List.replicate 9 (Cell.int .i64 0)) 0 ([(.int .i64 2)] : List Cell)) 2 ([(.int .i64 0)] : List Cell))).length) 0 2)] : List Cell)))])) else none else none else none else none else none else none else none else none else none else none else none else none else none else none else none else none := by kernel_rfl


end Jq

namespace Jq
open Go


end Jq

/- What a function needs of an environment. -/
namespace Jq
open Go


end Jq

namespace Jq
open Go


end Jq

/- Machines: names, and what the document fixes. -/
namespace Jq
open Go

section
variable {E : Env}

def sbC (a b : Int) : List Ins := [⟨1, 0, a, ⟨-1, 1⟩, 0, ⟨0, 0⟩, 0⟩, ⟨2, 0, b, ⟨0, 0⟩, 0, ⟨0, 0⟩, 0⟩]
/-- Two threads, each stores and loads. -/
def sbP : PProg := ⟨[120, 121], [0, 0], [sbC 0 1, sbC 1 0]⟩

theorem SB_R (hE : jacquardlaw12_SB_In E) (h : AHeap) : ∃ cs h', R E 187 [] h = some ([.agg cs], h') ∧ ProgAt h' cs sbP ∧ Kp h.length h h' := by
  have hmark : ∀ {α : Type} (f : Cell → AHeap → Option α), markK (.sl h.length ((splice (splice [Cell.int .u8 0, Cell.int .u8 0] 0 ([(.int .u8 120)] : List Cell)) 1 ([(.int .u8 121)] : List Cell)).length) 0 2) (h ++ [some (Blk.mk true 1 (splice (splice [Cell.int .u8 0, Cell.int .u8 0] 0 ([(.int .u8 120)] : List Cell)) 1 ([(.int .u8 121)] : List Cell)))]) f = f (.sl h.length 2 0 2) (h ++ [some ⟨false, 1, intC .u8 [120, 121]⟩]) := by
    intro α f
    unfold markK
    simp only
    rw [blk_new, Option.bind_some]
    dsimp only
    rw [if_pos ⟨rfl, rfl⟩, setBlk_last]; rfl
  generalize h1 : h ++ [some (Blk.mk false 1 (intC .u8 [120, 121]))] = H1 at hmark
  generalize h2 : H1 ++ [some (Blk.mk true 1 (intC .i64 [0, 0]))] = H2
  generalize h3 : H2 ++ [some (Blk.mk true 9 (codeC (sbC 0 1)))] = H3
  generalize h4 : H3 ++ [some (Blk.mk true 9 (codeC (sbC 1 0)))] = H4
  generalize h5 : H4 ++ [some (Blk.mk true 1 [Cell.sl H2.length 18 0 2, .sl H3.length 18 0 2])] = H5
  have n1 : H1.length = h.length + 1 := by rw [← h1]; simp
  have n2 : H2.length = h.length + 2 := by rw [← h2, List.length_append, n1]; simp
  have n3 : H3.length = h.length + 3 := by rw [← h3, List.length_append, n2]; simp
  have n4 : H4.length = h.length + 4 := by rw [← h4, List.length_append, n3]; simp
  have n5 : H5.length = h.length + 5 := by rw [← h5, List.length_append, n4]; simp
  have b1 : blk? H5 h.length = some ⟨false, 1, intC .u8 [120, 121]⟩ := by
    rw [← h5, ← h4, ← h3, ← h2, ← h1]
    exact blk_old (blk_old (blk_old (blk_old (blk_new _ _) _) _) _) _
  have b2 : blk? H5 H1.length = some ⟨true, 1, intC .i64 [0, 0]⟩ := by
    rw [← h5, ← h4, ← h3, ← h2]
    exact blk_old (blk_old (blk_old (blk_new _ _) _) _) _
  have b3 : blk? H5 H2.length = some ⟨true, 9, codeC (sbC 0 1)⟩ := by
    rw [← h5, ← h4, ← h3]
    exact blk_old (blk_old (blk_new _ _) _) _
  have b4 : blk? H5 H3.length = some ⟨true, 9, codeC (sbC 1 0)⟩ := by
    rw [← h5, ← h4]
    exact blk_old (blk_new _ _) _
  have b5 : blk? H5 H4.length = some ⟨true, 1, [Cell.sl H2.length 18 0 2, .sl H3.length 18 0 2]⟩ := by
    rw [← h5]
    exact blk_new _ _
  have kk : Kp h.length h H5 := by
    rw [← h5, ← h4, ← h3, ← h2, ← h1]
    simp only [List.append_assoc]
    exact Kp.app _ (Nat.le_refl _)
  refine ⟨[.sl h.length 2 0 2, .sl H1.length 2 0 2, .sl H4.length 2 0 2], H5, R_intro hE.fn ?_, ⟨_, _, _, [Cell.sl H2.length 18 0 2, .sl H3.length 18 0 2], rfl, ⟨SlAt.whole b1 rfl, .inr (by omega)⟩, ⟨SlAt.whole b2 rfl, .inr (by omega)⟩, ⟨SlAt.whole b5 rfl, .inr (by omega)⟩, fun t code ht => ?_⟩, kk⟩
  · rw [jacquardlaw12_SB_eq, if_pos ⟨rfl, rfl, rfl⟩, if_pos (by rfl), hmark]
    rw [← h5, ← h4, ← h3, ← h2]
    kernel_rfl
  · match t with
    | 0 => cases ht; exact ⟨_, rfl, SlAt.whole b3 rfl, .inr (by omega)⟩
    | 1 => cases ht; exact ⟨_, rfl, SlAt.whole b4 rfl, .inr (by omega)⟩
    | t + 2 => simp [sbP] at ht

/-- A digit. -/
theorem small_R (hE : istrconv_small_In E) (h : AHeap) : ∀ n : Nat, n < 4 → R E 48 [.c (.int .i64 (n : Int))] h = some ([.c (.str (ByteArray.mk #[UInt8.ofNat (48 + n)]))], h)
  | 0, _ => R_intro hE.fn ((istrconv_small_eq (R E) Lim E.glob 0 h).trans (by kernel_rfl))
  | 1, _ => R_intro hE.fn ((istrconv_small_eq (R E) Lim E.glob 1 h).trans (by kernel_rfl))
  | 2, _ => R_intro hE.fn ((istrconv_small_eq (R E) Lim E.glob 2 h).trans (by kernel_rfl))
  | 3, _ => R_intro hE.fn ((istrconv_small_eq (R E) Lim E.glob 3 h).trans (by kernel_rfl))
  | n + 4, h => by omega

theorem Itoa_R (hE : strconv_Itoa_In E) (h : AHeap) {n : Nat} (hn : n < 4) : R E 45 [.c (.int .i64 (n : Int))] h = some ([.c (.str (ByteArray.mk #[UInt8.ofNat (48 + n)]))], h) :=
  Itoa_of hE (by omega) (small_R hE.c46.c47.c48 h n hn)

/-- A pick's name. -/
def nameOf (i : Int) : ByteArray :=
  if i < 0 ∨ i ≥ 24 then ByteArray.mk #[]
  else if i < 4 then ByteArray.mk #[116] ++ ByteArray.mk #[UInt8.ofNat (48 + i.toNat)]
  else if i < 8 then ByteArray.mk #[102] ++ ByteArray.mk #[UInt8.ofNat (48 + (i.toNat - 4))]
  else ((ByteArray.mk #[102] ++ ByteArray.mk #[UInt8.ofNat (48 + (i.toNat - 8) / 4)]) ++ ByteArray.mk #[46]) ++ ByteArray.mk #[UInt8.ofNat (48 + (i.toNat - 8) % 4)]

theorem one_size (n : Nat) : (ByteArray.mk #[UInt8.ofNat n]).size = 1 := rfl

theorem VName_R (hE : vm_Name_In E) (i : Int) (h : AHeap) : R E 167 [.c (.int .i64 i)] h = some ([.c (.str (nameOf i))], h) := by
  refine R_intro hE.fn ?_
  rw [vm_Name_eq, scK_or]
  unfold nameOf
  by_cases h0 : i < 0 ∨ i ≥ 24
  · rw [if_pos (by simp; omega), if_pos h0]
  · rw [if_neg (by simp; omega), if_neg h0]
    obtain ⟨n, rfl⟩ := Int.eq_ofNat_of_zero_le (show 0 ≤ i by omega)
    rw [Int.toNat_natCast]
    by_cases h4 : n < 4
    · rw [if_pos (by simp; omega), if_pos (by omega), Itoa_R hE.c45 _ h4, c1_ok, asS_ok, if_pos (by rw [one_size]; decide)]
    · rw [if_neg (by simp; omega), if_neg (c := ((n : Int) < 4)) (by omega)]
      by_cases h8 : n < 8
      · rw [if_pos (by simp; omega), if_pos (c := ((n : Int) < 8)) (by omega), g_wrap_i64 (by omega) (by omega), show ((n : Int) - 4) = ((n - 4 : Nat) : Int) by omega, Itoa_R hE.c45 _ (by omega), c1_ok, asS_ok, if_pos (by rw [one_size]; decide)]
      · rw [if_neg (by simp; omega), if_neg (c := ((n : Int) < 8)) (by omega), g_wrap_i64 (by omega) (by omega), show ((n : Int) - 8) = ((n - 8 : Nat) : Int) by omega, g_quo, g_rem, Int.tdiv_eq_ediv_of_nonneg (by omega), Int.tmod_eq_emod_of_nonneg (by omega),
          show (((n - 8 : Nat) : Int) / 4) = (((n - 8) / 4 : Nat) : Int) by omega, show (((n - 8 : Nat) : Int) % 4) = (((n - 8) % 4 : Nat) : Int) by omega, wrap_i64 (by omega) (by omega), Itoa_R hE.c45 _ (by omega), c1_ok, asS_ok,
          if_pos (by rw [one_size]; decide), if_pos (by rw [ByteArray.size_append, one_size]; decide), Itoa_R hE.c45 _ (by omega), c1_ok, asS_ok, if_pos (by rw [ByteArray.size_append, ByteArray.size_append, one_size, one_size]; decide)]

theorem sb_small : sbP.small := ⟨by decide, fun c hc => by
  simp [sbP] at hc
  rcases hc with rfl | rfl <;> decide⟩

def sbV : MV := MV.new sbP 2
theorem sb_pok : pokB sbP = true := by decide +kernel

theorem sb_fld : ∀ c ∈ sbP.thr, ∀ i ∈ c, fldB (hasB sbP) i = true := by decide +kernel

theorem dig_ext : ∀ n : Nat, n < 4 → (ByteArray.mk #[48, 49, 50, 51, 52, 53, 54, 55, 56, 57]).extract n (n + 1) = ByteArray.mk #[UInt8.ofNat (48 + n)] ∧ (ByteArray.mk #[48, 49, 50, 51]).extract n (n + 1) = ByteArray.mk #[UInt8.ofNat (48 + n)] := by decide +kernel

theorem dig_R {α : Type} {n : Nat} (hn : n < 4) {f : ByteArray → Option α} : sliceStrK true true (.str (ByteArray.mk #[48, 49, 50, 51, 52, 53, 54, 55, 56, 57])) [.v (.c (.int .i64 (n : Int))), .v (.c (.int .i64 ((n : Int) + 1)))] f = f (ByteArray.mk #[UInt8.ofNat (48 + n)]) := by
  unfold sliceStrK boundsK
  dsimp only
  rw [show (ByteArray.mk #[48, 49, 50, 51, 52, 53, 54, 55, 56, 57]).size = 10 from rfl, if_pos ⟨by omega, by omega, by omega⟩, Int.toNat_natCast, show ((n : Int) + 1).toNat = n + 1 by omega, (dig_ext n hn).1]

theorem refName_R (hE : jacquardref16_Name_In E) (i : Int) (h : AHeap) : R E 168 [.c (.int .i64 i)] h = some ([.c (.str (nameOf i))], h) := by
  refine R_intro hE.fn ?_
  rw [jacquardref16_Name_eq, scK_and]
  unfold nameOf
  by_cases h0 : i < 0 ∨ i ≥ 24
  · rw [if_neg (by simp; omega), scK_and, if_neg (by simp; omega), scK_and, if_neg (by simp; omega), if_pos h0]
  · obtain ⟨n, rfl⟩ := Int.eq_ofNat_of_zero_le (show 0 ≤ i by omega)
    rw [Int.toNat_natCast]
    by_cases h4 : n < 4
    · rw [if_pos (by simp; omega), if_neg h0, if_pos (by omega), g_wrap_i64 (by omega) (by omega), dig_R h4, if_pos (by rw [one_size]; decide)]
    · rw [if_neg (by simp; omega), scK_and]
      by_cases h8 : n < 8
      · rw [if_pos (by simp; omega), if_neg h0, if_neg (by omega), if_pos (by omega), g_wrap_i64 (x := (n : Int) - 4) (by omega) (by omega), g_wrap_i64 (x := (n : Int) - 3) (by omega) (by omega), show ((n : Int) - 4) = ((n - 4 : Nat) : Int) by omega, show ((n : Int) - 3) = ((n - 4 : Nat) : Int) + 1 by omega, dig_R (by omega), if_pos (by rw [one_size]; decide)]
      · rw [if_neg (by simp; omega), scK_and, if_pos (by simp; omega), if_neg h0, if_neg (by omega), if_neg (by omega)]
        dsimp only
        rw [g_wrap_i64 (x := (n : Int) - 8) (by omega) (by omega), show ((n : Int) - 8) = ((n - 8 : Nat) : Int) by omega, g_quo, g_rem, Int.tdiv_eq_ediv_of_nonneg (by omega), Int.tmod_eq_emod_of_nonneg (by omega),
          show (((n - 8 : Nat) : Int) / 4) = (((n - 8) / 4 : Nat) : Int) by omega, show (((n - 8 : Nat) : Int) % 4) = (((n - 8) % 4 : Nat) : Int) by omega, wrap_i64 (by omega) (by omega), g_wrap_i64 (by omega) (by omega), dig_R (by omega),
          if_pos (by rw [one_size]; decide), if_pos (by rw [ByteArray.size_append, one_size]; decide), g_wrap_i64 (by omega) (by omega), dig_R (by omega), if_pos (by rw [ByteArray.size_append, ByteArray.size_append, one_size, one_size]; decide)]

theorem name_some : ∀ i : Nat, i < 24 → (ByteArray.toList (nameOf (i : Int)) == ByteArray.toList (ByteArray.mk #[])) = false := by decide +kernel
theorem name_none {i : Int} (h : ¬ (0 ≤ i ∧ i < 24)) : nameOf i = ByteArray.mk #[] := by unfold nameOf; rw [if_pos (by omega)]

end
end Jq

/- Machines: what is told of them; copies. -/
namespace Jq
open Go

theorem SlAt.cellsG {h : AHeap} {x : Cell} {esz : Nat} {cs : List Cell} {len : Nat} (s : SlAt h x esz cs len) : slCells h esz x = some cs := by
  have hl := s.1
  rcases s.2 with ⟨rfl, rfl⟩ | ⟨k, N, off, rfl, hb⟩
  · have : cs = [] := List.length_eq_zero_iff.1 (by omega)
    rw [this]; rfl
  · unfold slCells
    dsimp only
    by_cases h0 : len = 0
    · have : cs = [] := List.length_eq_zero_iff.1 (by rw [h0] at hl; omega)
      rw [if_pos h0, this]
    · rw [if_neg h0]
      rcases hb with hb | ⟨b, hb, hN, hle, hat⟩
      · exact absurd hb h0
      · rw [hb]
        simp only
        rw [if_pos ⟨hN, hle⟩]
        congr 1
        refine List.ext_getElem? fun j => ?_
        rw [List.getElem?_take, List.getElem?_drop]
        by_cases hj : j < len * esz
        · rw [if_pos hj, hat j hj]
        · rw [if_neg hj, List.getElem?_eq_none (by omega)]

/-- Cells put behind an empty row. -/
theorem app_emptyG {α : Type} {h : AHeap} {esz bytes len : Nat} {cs : List Cell} (he : 0 < esz) (hlen : cs.length = len * esz) (h1 : len * bytes ≤ maxBytes) (h2 : len ≤ maxBytes) (f : Cell → AHeap → Option α) :
    appK esz bytes (.sl h.length 0 0 0) cs (h ++ [some ⟨true, esz, []⟩]) f = f (.sl h.length cs.length 0 len) (h ++ [some ⟨true, esz, cs⟩]) := by
  unfold appK
  simp only
  rw [blk_new, Option.bind_some]
  dsimp only
  have hd : cs.length / esz = len := by rw [hlen]; exact Nat.mul_div_cancel _ he
  rw [if_pos ⟨rfl, rfl, rfl, by simp, by rw [hd]; simp; omega, by rw [hd]; simp; omega⟩, hd]
  by_cases h0 : len = 0
  · have : cs = [] := List.length_eq_zero_iff.1 (by rw [hlen, h0]; omega)
    subst this
    rw [if_pos (by simp), setBlk_last, h0]
    simp [splice]
  · have hpos : 0 < cs.length := by rw [hlen]; exact Nat.mul_pos (by omega) he
    rw [if_neg (by omega), if_pos trivial, setBlk_last]
    simp

def finC (V : MV) : List Cell := V.lc.flatMap regsC ++ intC .i64 V.mem
def finT (V : MV) (t : Nat) : List Cell := (V.lc.take t).flatMap regsC ++ List.replicate (20 - t * 4) (.int .i64 0)

section
variable {E : Env}

theorem Done_R (hE : vm_VM_Done_In E) {h : AHeap} {k : Nat} {x : Cell} {pc : List Cell} {V : MV} (hb : blk? h k = some ⟨true, 0, vmC pc V x⟩) (f : V.Fit) (p : ProgAt h pc V.P) :
    R E 174 [.c (.ptr k 329 0)] h = some ([.c (.bool (V.word == 0))], h) := by
  refine R_intro hE.fn ?_
  rw [vm_VM_Done_eq, Enabled_R hE.c172 hb f p, c1_ok, asI_ok]
  have : (((V.word : Nat) : Int) == 0) = (V.word == 0) := by rw [Bool.eq_iff_iff, beq_iff_eq, beq_iff_eq]; omega
  rw [this]

theorem CloneS_R (hE : slices_Clone_sStep_Step_In E) {x : Cell} {l : List Stp} {h : AHeap} (hx : SlAt h x 7 (stepsC l) l.length) (hlow : Low h.length x) (hl : l.length ≤ 100000) :
    ∃ x' h', R E 195 [.c x] h = some ([.c x'], h') ∧ Own h.length h' x' 7 (stepsC l) l.length ∧ Kp h.length h h' := by
  have hm : maxBytes ≥ 100000 * 56 := by unfold maxBytes; omega
  have hlen := stepsC_len l
  have hx0 := hx
  rcases hx.2 with ⟨rfl, h0⟩ | ⟨k, N, off, rfl, hb⟩
  · refine ⟨.nils, h, R_intro hE.fn ?_, ⟨hlen, .inl ⟨rfl, h0⟩⟩, Kp.refl _ _⟩
    rw [slices_Clone_sStep_Step_eq]; rfl
  · have hk1 : Kp h.length h (h ++ [some ⟨true, 7, []⟩]) := Kp.app _ (Nat.le_refl _)
    have hc := (hx0.keep hlow hk1).cellsG
    refine ⟨.sl h.length (stepsC l).length 0 l.length, h ++ [some ⟨true, 7, stepsC l⟩], R_intro hE.fn ?_, ⟨hlen, .inr ⟨h.length, rfl, Nat.le_refl _, blk_new _ _⟩⟩, Kp.app _ (Nat.le_refl _)⟩
    rw [slices_Clone_sStep_Step_eq, show ∀ {α : Type} (f : Bool → Option α), eqNilK false (.sl k N off l.length) .nils f = f false from fun _ => rfl, if_neg (by simp), if_pos (show ([] : List Cell).length = 0 * 7 from rfl), hc, bind_ok, show ([] : List Cell).length = 0 from rfl, app_emptyG (by omega) hlen (by omega) (by omega)]

theorem Steps_R (hE : vm_VM_Steps_In E) {n k : Nat} {h : AHeap} {x : Cell} {pc : List Cell} {V : MV} (a : VmAt n h k x pc V) (f : V.Fit) (hst : V.st.length ≤ 100000) :
    ∃ y h', R E 175 [.c (.ptr k 329 0)] h = some ([.c y], h') ∧ Own h.length h' y 7 (stepsC V.st) V.st.length ∧ Kp h.length h h' := by
  obtain ⟨y, h', r, o, kk⟩ := CloneS_R hE.c195 a.st.at a.st.low hst
  refine ⟨y, h', R_intro hE.fn ?_, o, kk⟩
  rw [vm_VM_Steps_eq, rdH_ok a.blk (vm_len f a.prog.len), vm_steps f a.prog.len, r, c1_ok, asC_ok]

end
end Jq

namespace Jq
open Go


end Jq

/- What a function needs of an environment. -/
namespace Jq
open Go


end Jq

namespace Jq
open Go


end Jq

/- Orders: what must be ahead of each; whether a row keeps a relation. -/
namespace Jq
open Go

/-- Words, one behind the other. -/
def setC (n : Nat) (F : Nat → Nat) : List Cell := (List.range n).map fun j => .int .u64 (F j : Nat)

variable {E : Env}

/-- Whether a row keeps to what must be ahead, some done. -/
def kpR (n : Nat) (B : Nat → Nat) : List Int → Nat → Bool
  | [], _ => true
  | v :: t, d => if (decide (v < 0) || decide (v ≥ (n : Int)) || hasI d v || (ndiff (B v.toNat) d != 0)) = true then false else kpR n B t (d ||| bitI v)

end Jq

/- Orders: rows that go on, handed on one by one: rows cut and made longer. -/
namespace Jq
open Go

/-- All rows that go on from this one, in order. -/
def ext (n : Nat) (B : Nat → Nat) : Nat → Nat → List Nat → List (List Nat)
  | 0, _, row => [row]
  | k + 1, d, row => (List.range n).flatMap fun i => if (d.testBit i || (ndiff (B i) d != 0)) = true then [] else ext n B k (d ||| 2 ^ i) (row ++ [i])

/-- Handed on, one by one, till one says stop. -/
def feed {S : Type} (P : S → List Nat → S × Bool) : S → List (List Nat) → S × Bool
  | s, [] => (s, true)
  | s, r :: rs => if (P s r).2 = true then feed P (P s r).1 rs else ((P s r).1, false)

/-- The row under way: its block may reach further than it. -/
def RowQ (h : AHeap) (q : Cell) (row : List Nat) : Prop :=
  (q = .nils ∧ row = []) ∨ ∃ kr cs, q = .sl kr cs.length 0 row.length ∧ blk? h kr = some ⟨true, 1, cs⟩ ∧ cs.take row.length = natC row ∧ row.length ≤ cs.length

theorem RowQ.at {h : AHeap} {q : Cell} {row : List Nat} (r : RowQ h q row) : SlAt h q 1 (natC row) row.length := by
  refine ⟨by rw [natC_len]; omega, ?_⟩
  rcases r with ⟨rfl, rfl⟩ | ⟨kr, cs, rfl, hb, ht, hl⟩
  · exact .inl ⟨rfl, rfl⟩
  · refine .inr ⟨kr, _, 0, rfl, .inr ⟨_, hb, rfl, by omega, fun j hj => ?_⟩⟩
    rw [← ht, List.getElem?_take, if_pos (by omega), Nat.zero_add]

theorem RowQ.lt {h : AHeap} {q : Cell} {row : List Nat} (r : RowQ h q row) {k : Nat} (hk : isBlk q k) : k < h.length := by
  rcases r with ⟨rfl, _⟩ | ⟨kr, cs, rfl, hb, _⟩
  · cases hk
  · have : kr = k := hk
    subst this; exact blk_lt' hb

theorem RowQ.app {h : AHeap} {q : Cell} {row : List Nat} (r : RowQ h q row) (hr : row.length < 100) (i : Nat) :
    ∃ q' h', (∀ {α : Type} (f : Cell → AHeap → Option α), appK 1 8 q [.int .i64 (i : Int)] h f = f q' h') ∧ RowQ h' q' (row ++ [i]) ∧ h.length ≤ h'.length ∧ (∃ k, isBlk q' k) ∧ ∀ k, k < h.length → ¬ isBlk q k → h'[k]? = h[k]? ∧ ¬ isBlk q' k := by
  have hm : maxBytes ≥ 101 * 8 := by unfold maxBytes; omega
  rcases r with ⟨rfl, rfl⟩ | ⟨kr, cs, rfl, hb, ht, hl⟩
  · refine ⟨.sl h.length 1 0 1, h ++ [some ⟨true, 1, [.int .i64 (i : Int)]⟩], fun f => ?_, .inr ⟨h.length, [.int .i64 (i : Int)], rfl, blk_new _ _, rfl, by simp⟩, by simp, ⟨_, rfl⟩, fun k hk _ => ⟨List.getElem?_append_left hk, fun hq => ?_⟩⟩
    · unfold appK; simp only; rw [if_neg (by simp), if_pos ⟨by simp; omega, by simp; omega⟩]; simp
    · have : h.length = k := hq
      omega
  · have hkl := blk_lt' hb
    have hsl : row.length < cs.length → (splice cs row.length [Cell.int .i64 (i : Int)]).length = cs.length := fun hlt => by
      unfold splice
      simp only [List.length_append, List.length_take, List.length_drop, List.length_singleton]; omega
    by_cases hlt : row.length < cs.length
    · refine ⟨.sl kr cs.length 0 (row.length + 1), setBlk h kr (some ⟨true, 1, splice cs row.length [.int .i64 (i : Int)]⟩), fun f => ?_, .inr ⟨kr, splice cs row.length [.int .i64 (i : Int)], ?_, blk_set_self hkl _, ?_, ?_⟩, by rw [setBlk_len]; exact Nat.le_refl _, ⟨_, rfl⟩, fun k hk hq => ⟨?_, hq⟩⟩
      · unfold appK; simp only; rw [hb, Option.bind_some]; dsimp only
        rw [if_pos ⟨rfl, rfl, rfl, by omega, by simp; omega, by simp; omega⟩, if_pos (by simp; omega)]
        simp
      · rw [hsl hlt]; simp
      · rw [natC_snoc, ← ht, List.length_append, List.length_singleton]; unfold splice
        rw [List.take_append_of_le_length (by simp; omega), List.take_of_length_le (by simp; omega)]
      · rw [hsl hlt]; simp; omega
      · unfold setBlk; rw [List.getElem?_set_ne (fun h => hq h)]
    · have he : row.length = cs.length := by omega
      refine ⟨.sl kr (cs.length + 1) 0 (row.length + 1), setBlk h kr (some ⟨true, 1, cs ++ [.int .i64 (i : Int)]⟩), fun f => ?_, .inr ⟨kr, cs ++ [.int .i64 (i : Int)], by simp, blk_set_self hkl _, ?_, by simp; omega⟩, by rw [setBlk_len]; exact Nat.le_refl _, ⟨_, rfl⟩, fun k hk hq => ⟨?_, hq⟩⟩
      · unfold appK; simp only; rw [hb, Option.bind_some]; dsimp only
        rw [if_pos ⟨rfl, rfl, rfl, by omega, by simp; omega, by simp; omega⟩, if_neg (by simp; omega), if_pos trivial, he]
        simp
      · rw [natC_snoc, ← ht, List.take_of_length_le (by simp; omega), List.take_of_length_le (l := cs) (by omega)]
      · unfold setBlk; rw [List.getElem?_set_ne (fun h => hq h)]

theorem RowQ.cut {h : AHeap} {q : Cell} {row : List Nat} {i : Nat} (r : RowQ h q (row ++ [i])) :
    ∃ q', (∀ {α : Type} (f : Cell → Option α), sliceK h 1 false true q [.v (.c (.int .i64 (row.length : Int)))] f = f q') ∧ RowQ h q' row ∧ ∀ k, isBlk q' k ↔ isBlk q k := by
  rcases r with ⟨_, hn⟩ | ⟨kr, cs, rfl, hb, ht, hl⟩
  · simp at hn
  · refine ⟨.sl kr cs.length 0 row.length, fun f => ?_, .inr ⟨kr, cs, rfl, hb, ?_, by simp at hl; omega⟩, fun k => Iff.rfl⟩
    · unfold sliceK
      have hok : okSl h 1 kr cs.length = true := by unfold okSl; rw [hb]; simp
      simp only [hok, if_true]
      unfold boundsK
      simp only
      rw [if_pos ⟨by omega, by simp; omega⟩]
      simp
    · have := congrArg (List.take row.length) ht
      rw [List.take_take, natC_snoc] at this
      simp [natC_len] at this
      exact this

/-- What takes the rows: it needs I of the heap, some blocks of which are its own. -/
structure Put (E : Env) (S : Type) (P : S → List Nat → S × Bool) (fnc : Cell) (I : S → (Nat → Prop) → AHeap → Prop) (go : S → Prop) : Prop where
  on : ∀ s row, go s → (P s row).2 = true → go (P s row).1
  frame : ∀ s L h h', I s L h → (∀ k, L k → h'[k]? = h[k]?) → h.length ≤ h'.length → I s L h'
  low : ∀ s L h, I s L h → ∀ k, L k → k < h.length
  put : ∀ s L h x row, I s L h → go s → row.length ≤ 64 → SlAt h x 1 (natC row) row.length → (∀ k, isBlk x k → k < h.length ∧ ¬ L k) →
    ∃ h' L', (∀ {α : Type} (F : AV → AHeap → Option α), (fnK fnc fun g cs => c1 (R E g ([.c x] ++ cs) h) F) = F (.c (.bool (P s row).2)) h') ∧ I (P s row).1 L' h' ∧ h.length ≤ h'.length ∧ ∀ k, k < h.length → ¬ L k → h'[k]? = h[k]? ∧ ¬ L' k

end Jq

/- order.walk.on: every row that goes on is handed on, in order, till one says stop. -/
namespace Jq
open Go

variable {E : Env}

/-- What stands while walking. -/
structure WI {S : Type} (I : S → (Nat → Prop) → AHeap → Prop) (n kw kb : Nat) (B : Nat → Nat) (fnc : Cell) (row : List Nat) (s : S) (L : Nat → Prop) (h : AHeap) (q : Cell) : Prop where
  i : I s L h
  w : blk? h kw = some ⟨true, 0, [.sl kb n 0 n, q, fnc]⟩
  b : blk? h kb = some ⟨true, 1, setC n B⟩
  r : RowQ h q row
  lw : ¬ L kw
  lb : ¬ L kb
  wb : kw ≠ kb
  ap : ∀ j, isBlk q j → ¬ L j ∧ j ≠ kw ∧ j ≠ kb

/-- What a stretch of walking leaves alone. -/
def Left (kw : Nat) (L : Nat → Prop) (h : AHeap) (q : Cell) (L' : Nat → Prop) (h' : AHeap) (q' : Cell) : Prop :=
  h.length ≤ h'.length ∧ ∀ j, j < h.length → ¬ L j → j ≠ kw → ¬ isBlk q j → h'[j]? = h[j]? ∧ ¬ L' j ∧ ¬ isBlk q' j

theorem Left.refl (kw : Nat) (L : Nat → Prop) (h : AHeap) (q : Cell) : Left kw L h q L h q := ⟨Nat.le_refl _, fun _ _ a _ b => ⟨rfl, a, b⟩⟩

theorem Left.trans {kw : Nat} {L L' L'' : Nat → Prop} {h h' h'' : AHeap} {q q' q'' : Cell} (a : Left kw L h q L' h' q') (b : Left kw L' h' q' L'' h'' q'') : Left kw L h q L'' h'' q'' := by
  refine ⟨Nat.le_trans a.1 b.1, fun j h1 h2 h3 h4 => ?_⟩
  obtain ⟨a1, a2, a3⟩ := a.2 j h1 h2 h3 h4
  obtain ⟨b1, b2, b3⟩ := b.2 j (by have := a.1; omega) a2 h3 a3
  exact ⟨b1.trans a1, b2, b3⟩

theorem blk_of_get {h h' : AHeap} {k : Nat} (e : h'[k]? = h[k]?) : blk? h' k = blk? h k := by unfold blk?; rw [e]

theorem set_get {h : AHeap} {k j : Nat} {x : Option Blk} (hj : j ≠ k) : (setBlk h k x)[j]? = h[j]? := by
  unfold setBlk; rw [List.getElem?_set_ne (fun e => hj e.symm)]

section
variable {S : Type} {P : S → List Nat → S × Bool} {fnc : Cell} {I : S → (Nat → Prop) → AHeap → Prop} {go : S → Prop} {n kw kb : Nat} {B : Nat → Nat}

/-- One longer. -/
theorem WI.push (pu : Put E S P fnc I go) {row : List Nat} {s : S} {L : Nat → Prop} {h : AHeap} {q : Cell} (w : WI I n kw kb B fnc row s L h q) (hr : row.length < 100) (i : Nat) :
    ∃ q1 h1, (∀ {α : Type} (f : Cell → AHeap → Option α), appK 1 8 q [.int .i64 (i : Int)] h f = f q1 h1) ∧ blk? h1 kw = some ⟨true, 0, [.sl kb n 0 n, q, fnc]⟩ ∧
      WI I n kw kb B fnc (row ++ [i]) s L (setBlk h1 kw (some ⟨true, 0, [.sl kb n 0 n, q1, fnc]⟩)) q1 ∧ Left kw L h q L (setBlk h1 kw (some ⟨true, 0, [.sl kb n 0 n, q1, fnc]⟩)) q1 := by
  obtain ⟨q1, h1, ha, hrow, hlen, ⟨k1, hk1⟩, hfr⟩ := w.r.app hr i
  have hkw := blk_lt' w.w
  have hkb := blk_lt' w.b
  have nw : ¬ isBlk q kw := fun e => (w.ap kw e).2.1 rfl
  have nb : ¬ isBlk q kb := fun e => (w.ap kb e).2.2 rfl
  obtain ⟨f1, f2⟩ := hfr kw hkw nw
  obtain ⟨g1, g2⟩ := hfr kb hkb nb
  have hw1 : blk? h1 kw = some ⟨true, 0, [.sl kb n 0 n, q, fnc]⟩ := (blk_of_get f1).trans w.w
  have hkw1 := blk_lt' hw1
  have nL : ∀ j, isBlk q1 j → ¬ L j ∧ j ≠ kw ∧ j ≠ kb := by
    intro j hj
    refine ⟨fun hL => ?_, fun e => f2 (e ▸ hj), fun e => g2 (e ▸ hj)⟩
    have hjl := pu.low _ _ _ w.i j hL
    by_cases hq : isBlk q j
    · exact (w.ap j hq).1 hL
    · exact (hfr j hjl hq).2 hj
  refine ⟨q1, h1, ha, hw1, ⟨?_, blk_set_self hkw1 _, ?_, ?_, w.lw, w.lb, w.wb, nL⟩, ?_, ?_⟩
  · refine pu.frame _ _ _ _ w.i (fun j hL => ?_) (by rw [setBlk_len]; exact hlen)
    have hjw : j ≠ kw := fun e => w.lw (e ▸ hL)
    rw [set_get hjw]
    exact (hfr j (pu.low _ _ _ w.i j hL) (fun e => (w.ap j e).1 hL)).1
  · rw [blk_of_get (set_get (fun e => w.wb e.symm)), blk_of_get g1]; exact w.b
  · rcases hrow with ⟨e, he⟩ | ⟨kr, cs, e, hb, ht, hl⟩
    · exact .inl ⟨e, he⟩
    · have hne : kr ≠ kw := (nL kr (by rw [e]; rfl)).2.1
      exact .inr ⟨kr, cs, e, by rw [blk_of_get (set_get hne)]; exact hb, ht, hl⟩
  · rw [setBlk_len]; exact hlen
  · intro j h2 h3 h4 h5
    obtain ⟨a1, a2⟩ := hfr j h2 h5
    exact ⟨by rw [set_get h4]; exact a1, h3, a2⟩

end
end Jq

/- order.walk.on comes to feeding on all rows that go on. -/
namespace Jq
open Go

def extF (n : Nat) (B : Nat → Nat) (k d : Nat) (row : List Nat) (i m : Nat) : List (List Nat) :=
  (List.range' i m).flatMap fun i => if (d.testBit i || (ndiff (B i) d != 0)) = true then [] else ext n B k (d ||| 2 ^ i) (row ++ [i])

section
variable {E : Env} {S : Type} {P : S → List Nat → S × Bool} {fnc : Cell} {I : S → (Nat → Prop) → AHeap → Prop} {go : S → Prop} {n kw kb : Nat} {B : Nat → Nat}

end
end Jq

/- order.each: all orders are handed on, none where something leads to itself. -/
namespace Jq
open Go

section
variable {E : Env} {S : Type} {P : S → List Nat → S × Bool} {fnc : Cell} {I : S → (Nat → Prop) → AHeap → Prop} {go : S → Prop} {n : Nat}

/-- All orders. -/
def ords (n : Nat) (f : Nat → Nat) : List (List Nat) := if acycR n f = true then ext n (INV n f) n 0 [] else []

end
end Jq

/- order.All$1: a row is copied and put behind the others. -/
namespace Jq
open Go

/-- The rows' cells, each a row of its own block. -/
def rowsC : List Nat → List (List Nat) → List Cell
  | k :: ks, r :: rs => .sl k r.length 0 r.length :: rowsC ks rs
  | _, _ => []

def outF (lim : Int) : List (List Nat) → List Nat → List (List Nat) × Bool := fun s r => (s ++ [r], decide (((s.length + 1 : Nat) : Int) < lim))

/-- The rows so far lie there: behind the variable `out`, with the bound beside it. -/
def OutI (ko kl : Nat) (lim : Int) : List (List Nat) → (Nat → Prop) → AHeap → Prop := fun s L h =>
  ∃ (y : Cell) (ks : List Nat), blk? h ko = some ⟨true, 0, [y]⟩ ∧ blk? h kl = some ⟨true, 0, [.int .i64 lim]⟩ ∧ ko ≠ kl ∧ ks.length = s.length ∧
    ((y = .nils ∧ s = []) ∨ ∃ ky, y = .sl ky s.length 0 s.length ∧ blk? h ky = some ⟨true, 1, rowsC ks s⟩ ∧ ky ≠ ko ∧ ky ≠ kl ∧ ¬ ky ∈ ks) ∧
    (∀ (j k : Nat) (r : List Nat), ks[j]? = some k → s[j]? = some r → blk? h k = some ⟨true, 1, natC r⟩ ∧ k ≠ ko ∧ k ≠ kl) ∧
    (∀ k, L k ↔ (k = ko ∨ k = kl ∨ isBlk y k ∨ k ∈ ks))

theorem OutI.low {ko kl : Nat} {lim : Int} {s : List (List Nat)} {L : Nat → Prop} {h : AHeap} (o : OutI ko kl lim s L h) : ∀ k, L k → k < h.length := by
  obtain ⟨y, ks, h1, h2, _, hks, hy, hrow, hL⟩ := o
  intro k hk
  rcases (hL k).1 hk with rfl | rfl | hb | hm
  · exact blk_lt' h1
  · exact blk_lt' h2
  · rcases hy with ⟨rfl, _⟩ | ⟨ky, rfl, hb2, _⟩
    · cases hb
    · have : ky = k := hb
      subst this; exact blk_lt' hb2
  · obtain ⟨j, hj⟩ := List.getElem?_of_mem hm
    have hjl : j < s.length := by
      rcases Nat.lt_or_ge j ks.length with h3 | h3
      · omega
      · rw [List.getElem?_eq_none h3] at hj; cases hj
    exact blk_lt' (hrow j k s[j] hj (by simp [hjl])).1

theorem OutI.frame {ko kl : Nat} {lim : Int} {s : List (List Nat)} {L : Nat → Prop} {h h' : AHeap} (o : OutI ko kl lim s L h) (hk : ∀ k, L k → h'[k]? = h[k]?) : OutI ko kl lim s L h' := by
  obtain ⟨y, ks, h1, h2, hne, hks, hy, hrow, hL⟩ := o
  have e : ∀ k, L k → blk? h' k = blk? h k := fun k hl => blk_of_get (hk k hl)
  refine ⟨y, ks, (e ko ((hL ko).2 (.inl rfl))).trans h1, (e kl ((hL kl).2 (.inr (.inl rfl)))).trans h2, hne, hks, ?_, fun j k r hj hr => ?_, hL⟩
  · rcases hy with hy | ⟨ky, hy, hb, hr⟩
    · exact .inl hy
    · exact .inr ⟨ky, hy, (e ky ((hL ky).2 (.inr (.inr (.inl (by rw [hy]; rfl)))))).trans hb, hr⟩
  · obtain ⟨a, b⟩ := hrow j k r hj hr
    exact ⟨(e k ((hL k).2 (.inr (.inr (.inr (List.mem_of_getElem? hj)))))).trans a, b⟩

theorem SlAt.cells {h : AHeap} {x : Cell} {cs : List Cell} {len : Nat} (s : SlAt h x 1 cs len) : slCells h 1 x = some cs := by
  have hl := s.1
  rcases s.2 with ⟨rfl, rfl⟩ | ⟨k, N, off, rfl, hb⟩
  · have : cs = [] := List.length_eq_zero_iff.1 (by omega)
    rw [this]; rfl
  · unfold slCells
    dsimp only
    by_cases h0 : len = 0
    · have : cs = [] := List.length_eq_zero_iff.1 (by omega)
      rw [if_pos h0, this]
    · rw [if_neg h0]
      rcases hb with hb | ⟨b, hb, hN, hle, hat⟩
      · exact absurd hb h0
      · rw [hb]
        simp only
        rw [if_pos ⟨hN, hle⟩]
        congr 1
        refine List.ext_getElem? fun j => ?_
        rw [List.getElem?_take, List.getElem?_drop]
        by_cases hj : j < len * 1
        · rw [if_pos hj, hat j hj]
        · rw [if_neg hj, List.getElem?_eq_none (by omega)]

end Jq

namespace Jq
open Go

/- jacquard/play.Text: 262 -/
def play_Text_k2 (C : CallF) (L : LoopF) (G : Glo) (h0 : AHeap) : Ex → St → Option (List AV × AHeap) :=
  kSeq (fun st => play_Text_p1.exec C L G st (play_Text.fin G h0)) (play_Text.fin G h0)
def play_Text_k3 (C : CallF) (L : LoopF) (G : Glo) (h0 : AHeap) : Ex → St → Option (List AV × AHeap) :=
  kBlk 0 (play_Text_k2 C L G h0)
def play_Text_s1 (x3 : Cell) (x6 : Cell) (a7 : Int) (a8 : Int) (h : AHeap) : St := ⟨[.top, .top, .top, .v (.c x3), .top, .top, .v (.c x6), .v (.c (.int .i64 a7)), .v (.c (.int .i64 a8)), .top, .top, .top, .top, .top, .top, .top, .top, .top, .top, .top], [], h⟩
def play_Text_F1 (C : CallF) (L : LoopF) (G : Glo) : St → Option (Ex × St) :=
  roundF (fun st f => play_Text_b1.exec C L G st f) [3, 6, 7, 8] [] [(1, [3], [])]
def play_Text_x1_1 (x3 : Cell) (h : AHeap) : St := ⟨[.top, .top, .top, .v (.c x3), .top, .top, .top, .top, .top, .top, .top, .top, .top, .top, .top, .top, .top, .top, .top, .top], [], h⟩
theorem play_Text_r1 (C : CallF) (L : LoopF) (G : Glo) (x3 : Cell) (x6 : Cell) (a7 : Int) (a8 : Int) (h : AHeap) :
    play_Text_F1 C L G (play_Text_s1 x3 x6 a7 a8 h) =
    if (decide (a8 < a7)) = true then idxSK 1 x6 a8 fun k_2 N_3 o_4 => rdH h k_2 N_3 fun l_5 => atK l_5 o_4 fun q_6 => asI .i64 (.c q_6) fun n_7 => c1 (C 167 [(.c (.int .i64 n_7))] h) fun y_9 h_8 => asS y_9 fun z_10 => if (splice [Cell.str (ByteArray.mk #[])] 0 ([(.str z_10)] : List Cell)).length = 1 * 1 then appK 1 16 x3 (splice [Cell.str (ByteArray.mk #[])] 0 ([(.str z_10)] : List Cell)) h_8 fun x_11 h_12 => some (.normal, (play_Text_s1 x_11 x6 a7 (G.wrap .i64 (a8 + 1)) h_12)) else none else some ((.exit 0), (play_Text_x1_1 x3 h)) := by kernel_rfl
theorem play_Text_e1_1 (C : CallF) (L : LoopF) (G : Glo) (h0 : AHeap) (x3 : Cell) (h : AHeap) :
    (play_Text_k3 C L G h0) (.exit 0) (play_Text_x1_1 x3 h) =
    c1 (C 272 [(.c x3), (.c (.str (ByteArray.mk #[32])))] h) fun y_14 h_13 => asS y_14 fun z_15 => some ([(.c (.str z_15))], h_13) := by kernel_rfl
set_option maxRecDepth 100000 in
theorem play_Text_eq (C : CallF) (L : LoopF) (G : Glo) (x0 : Cell) (h0 : AHeap) :
    play_Text.body C L G [(.c x0)] h0 =
    lenK x0 fun n_1 => (L (play_Text_F1 C L G) (play_Text_s1 .nils x0 n_1 0 h0)).bind fun p_16 => (play_Text_k3 C L G h0) p_16.1 p_16.2 := by kernel_rfl

/- jacquard/play.Run: 271 -/
set_option maxRecDepth 100000 in
theorem play_Run_eq (C : CallF) (L : LoopF) (G : Glo) (l0 : List Cell) (a1 : Int) (x2 : Cell) (h0 : AHeap) :
    play_Run.body C L G [(.agg l0), (.c (.int .i64 a1)), (.c x2)] h0 =
    if 0 = 0 ∧ l0.length = 3 then c2 (C 278 [(.agg l0), (.c (.int .i64 a1)), (.c x2)] h0) fun y_2 y_3 h_1 => asC y_2 fun x_4 => asI .i64 y_3 fun n_5 => eqNilK false x_4 .nilp fun b_6 => if b_6 = true then some ([(.c .nils), (.c (.int .i64 0)), (.c (.bool false))], h_1) else c1 (C 175 [(.c x_4)] h_1) fun y_8 h_7 => asC y_8 fun x_9 => c1 (C 174 [(.c x_4)] h_7) fun y_11 h_10 => asB y_11 fun b_12 => some ([(.c x_9), (.c (.int .i64 n_5)), (.c (.bool b_12))], h_10) else none := by kernel_rfl

/- jacquard/play.run: 278 -/
def play_run_k2 (C : CallF) (L : LoopF) (G : Glo) (h0 : AHeap) : Ex → St → Option (List AV × AHeap) :=
  kSeq (fun st => play_run_p1.exec C L G st (play_run.fin G h0)) (play_run.fin G h0)
def play_run_k3 (C : CallF) (L : LoopF) (G : Glo) (h0 : AHeap) : Ex → St → Option (List AV × AHeap) :=
  kBlk 0 (play_run_k2 C L G h0)
def play_run_s1 (x2 : Cell) (x8 : Cell) (x22 : Cell) (a23 : Int) (a24 : Int) (h : AHeap) : St := ⟨[.top, .top, .v (.c x2), .top, .top, .top, .top, .top, .v (.c x8), .top, .top, .top, .top, .top, .top, .top, .top, .top, .top, .top, .top, .top, .v (.c x22), .v (.c (.int .i64 a23)), .v (.c (.int .i64 a24)), .top, .top, .top, .top, .top, .top, .top, .top, .top, .top, .top, .top, .top, .top, .top, .top, .top, .top], [none, none], h⟩
def play_run_F1 (C : CallF) (L : LoopF) (G : Glo) : St → Option (Ex × St) :=
  roundF (fun st f => play_run_b1.exec C L G st f) [2, 8, 22, 23, 24] [] [(0, [6, 7], []), (1, [2, 8], [])]
def play_run_x1_0 (x6 : Cell) (a7 : Int) (h : AHeap) : St := ⟨[.top, .top, .top, .top, .top, .top, .v (.c x6), .v (.c (.int .i64 a7)), .top, .top, .top, .top, .top, .top, .top, .top, .top, .top, .top, .top, .top, .top, .top, .top, .top, .top, .top, .top, .top, .top, .top, .top, .top, .top, .top, .top, .top, .top, .top, .top, .top, .top, .top], [none, none], h⟩
def play_run_x1_1 (x2 : Cell) (x8 : Cell) (h : AHeap) : St := ⟨[.top, .top, .v (.c x2), .top, .top, .top, .top, .top, .v (.c x8), .top, .top, .top, .top, .top, .top, .top, .top, .top, .top, .top, .top, .top, .top, .top, .top, .top, .top, .top, .top, .top, .top, .top, .top, .top, .top, .top, .top, .top, .top, .top, .top, .top, .top], [none, none], h⟩
theorem play_run_r1 (C : CallF) (L : LoopF) (G : Glo) (x2 : Cell) (x8 : Cell) (x22 : Cell) (a23 : Int) (a24 : Int) (h : AHeap) :
    play_run_F1 C L G (play_run_s1 x2 x8 x22 a23 a24 h) =
    if (decide (a24 < a23)) = true then idxSK 1 x22 a24 fun k_7 N_8 o_9 => rdH h k_7 N_8 fun l_10 => atK l_10 o_9 fun q_11 => asI .i64 (.c q_11) fun n_12 => c2 (C 173 [(.c x8), (.c (.int .i64 n_12))] h) fun y_14 y_15 h_13 => asA y_14 fun l_16 => asB y_15 fun b_17 => if 0 = 0 ∧ (List.replicate 7 (Cell.int .i64 0)).length = 7 ∧ l_16.length = 7 then if (!b_17) = true then some (.ret, (play_run_x1_0 x8 a24 h_13)) else some (.normal, (play_run_s1 x2 x8 x22 a23 (G.wrap .i64 (a24 + 1)) h_13)) else none else some ((.exit 0), (play_run_x1_1 x2 x8 h)) := by kernel_rfl
theorem play_run_e1_0 (C : CallF) (L : LoopF) (G : Glo) (h0 : AHeap) (x6 : Cell) (a7 : Int) (h : AHeap) :
    (play_run_k3 C L G h0) .ret (play_run_x1_0 x6 a7 h) =
    some ([(.c x6), (.c (.int .i64 a7))], h) := by kernel_rfl
theorem play_run_e1_1 (C : CallF) (L : LoopF) (G : Glo) (h0 : AHeap) (x2 : Cell) (x8 : Cell) (h : AHeap) :
    (play_run_k3 C L G h0) (.exit 0) (play_run_x1_1 x2 x8 h) =
    lenK x2 fun n_18 => some ([(.c x8), (.c (.int .i64 n_18))], h) := by kernel_rfl
set_option maxRecDepth 100000 in
theorem play_run_eq (C : CallF) (L : LoopF) (G : Glo) (l0 : List Cell) (a1 : Int) (x2 : Cell) (h0 : AHeap) :
    play_run.body C L G [(.agg l0), (.c (.int .i64 a1)), (.c x2)] h0 =
    if 0 = 0 ∧ l0.length = 3 then c2 (C 171 [(.agg l0), (.c (.int .i64 a1))] h0) fun y_2 y_3 h_1 => asC y_2 fun x_4 => asI .i64 y_3 fun n_5 => if (n_5 != 0) = true then some ([(.c .nilp), (.c (.int .i64 0))], h_1) else lenK x2 fun n_6 => (L (play_run_F1 C L G) (play_run_s1 x2 x_4 x2 n_6 0 h_1)).bind fun p_19 => (play_run_k3 C L G h0) p_19.1 p_19.2 else none := by kernel_rfl


end Jq

/- Functions from elsewhere, by what is said of them: strings.Join, play.Parse; and what leans on them: play.Text. -/
namespace Jq
open Go

def strsOf : List Cell → Option (List ByteArray)
  | [] => some []
  | .str s :: cs => (strsOf cs).map (s :: ·)
  | _ :: _ => none

theorem strsOf_map (l : List ByteArray) : strsOf (l.map Cell.str) = some l := by
  induction l with
  | nil => rfl
  | cons s l ih => rw [List.map_cons, strsOf, ih]; rfl

/-- Texts side by side, another between each two. -/
def joined (l : List ByteArray) (sep : ByteArray) : ByteArray := ⟨(Lib.join (l.map (·.data.toList)) sep.data.toList).toArray⟩

/-- strings.Join. -/
def joinX (args : List AV) (h : AHeap) : Option (List AV × AHeap) := match args with
  | [.c x, .c (.str sep)] => (slCells h 1 x).bind fun cs => (strsOf cs).bind fun l =>
    if l.length ≤ 140737488355328 ∧ (Lib.join (l.map (·.data.toList)) sep.data.toList).length ≤ 140737488355328 then some ([.c (.str (joined l sep))], h) else none
  | _ => none

/-- A text's parts between blanks. -/
def parts : List UInt8 → List (List UInt8)
  | [] => [[]]
  | b :: l => if b = 32 then [] :: parts l else match parts l with
    | p :: ps => (b :: p) :: ps
    | [] => [[b]]

theorem parts_ne (l : List UInt8) : parts l ≠ [] := by
  cases l with
  | nil => simp [parts]
  | cons b l =>
    unfold parts
    split
    · simp
    · split <;> simp

/-- The least pick of a name; 24: none. -/
def pickOf (w : List UInt8) : Nat := ((List.range 24).find? fun (i : Nat) => decide ((nameOf (i : Int)).data.toList = w)).getD 24

/-- Picks, as far as all are names. -/
def picksOf : List (List UInt8) → Option (List Int)
  | [] => some []
  | w :: ws => if pickOf w = 24 then none else (picksOf ws).map ((pickOf w : Int) :: ·)

/-- play.Parse. -/
def parseX (args : List AV) (h : AHeap) : Option (List AV × AHeap) := match args with
  | [.c (.str s)] =>
    if s.size = 0 then some ([.c .nils, .c (.bool true)], h)
    else if s.size ≤ 4611686018427387904 ∧ ((parts s.data.toList).length + 1) * 8 ≤ 140737488355328 then match picksOf (parts s.data.toList) with
      | none => some ([.c .nils, .c (.bool false)], h)
      | some l => some ([.c (.sl h.length l.length 0 l.length), .c (.bool true)], h ++ [some ⟨true, 1, intC .i64 l⟩])
    else none
  | _ => none

/-- Functions from elsewhere. -/
def ext17 : CallF := fun g args h => if g = 272 then joinX args h else if g = 260 then parseX args h else none

structure Ext17 (E : Env) : Prop where
  join : ∀ args h, E.ext 272 args h = joinX args h
  parse : ∀ args h, E.ext 260 args h = parseX args h

def namesOf (l : List Int) : List ByteArray := l.map nameOf
def textOf (l : List Int) : ByteArray := joined (namesOf l) (ByteArray.mk #[32])

section
variable {E : Env}

theorem Join_R (hx17 : Ext17 E) (hn : E.fn 272 = none) {h : AHeap} {x : Cell} {l : List ByteArray} (hx : SlAt h x 1 (l.map Cell.str) l.length) (sep : ByteArray) (h1 : l.length ≤ 140737488355328) (h2 : (Lib.join (l.map (·.data.toList)) sep.data.toList).length ≤ 140737488355328) :
    R E 272 [.c x, .c (.str sep)] h = some ([.c (.str (joined l sep))], h) := by
  refine R_ext hn ?_
  rw [hx17.join]
  unfold joinX
  dsimp only
  rw [hx.cellsG, Option.bind_some, strsOf_map, Option.bind_some, if_pos ⟨h1, h2⟩]

theorem Parse_R (hx17 : Ext17 E) (hn : E.fn 260 = none) {h : AHeap} {s : ByteArray} {r : List AV × AHeap} (hr : parseX [.c (.str s)] h = some r) : R E 260 [.c (.str s)] h = some r :=
  R_ext hn ((hx17.parse _ _).trans hr)

theorem name_size (i : Int) : (nameOf i).size ≤ 4 := by
  unfold nameOf
  split
  · decide
  · split
    · rw [ByteArray.size_append, one_size]; decide
    · split
      · rw [ByteArray.size_append, one_size]; decide
      · rw [ByteArray.size_append, ByteArray.size_append, ByteArray.size_append, one_size, one_size]; decide

theorem joinTail_le (r : List (List UInt8)) (h : ∀ x ∈ r, x.length ≤ 4) : (Lib.joinTail [32] r).length ≤ 5 * r.length := by
  induction r with
  | nil => simp [Lib.joinTail]
  | cons x r ih =>
    have h1 := h x List.mem_cons_self
    have h2 := ih fun y hy => h y (List.mem_cons_of_mem _ hy)
    unfold Lib.joinTail at h2 ⊢
    rw [List.map_cons, List.flatten_cons, List.length_append, List.length_append, List.length_cons, List.length_cons]
    simp only [List.length_nil]
    omega

theorem join_names (l : List Int) : (Lib.join ((namesOf l).map (·.data.toList)) [32]).length ≤ 5 * l.length := by
  cases l with
  | nil => simp [namesOf, Lib.join]
  | cons i l =>
    unfold namesOf
    rw [List.map_cons, List.map_cons, Lib.join_cons, List.length_append]
    have h1 : (nameOf i).data.toList.length ≤ 4 := name_size i
    have h2 := joinTail_le ((l.map nameOf).map (·.data.toList)) (by
      intro x hx
      simp only [List.mem_map] at hx
      obtain ⟨y, ⟨k, _, rfl⟩, rfl⟩ := hx
      exact name_size k)
    rw [List.length_map, List.length_map] at h2
    rw [List.length_cons]
    omega

theorem Text_R (hE : play_Text_In E) (hx17 : Ext17 E) {h : AHeap} {y : Cell} {l : List Int} (hy : SlAt h y 1 (intC .i64 l) l.length) (hlow : Low h.length y) (hlen : (l.length + 1) * 16 ≤ maxBytes) :
    ∃ h', R E 262 [.c y] h = some ([.c (.str (textOf l))], h') ∧ Kp h.length h h' := by
  have hM : maxBytes = 1099511627776 := rfl
  obtain ⟨st, ⟨z, h', rfl, o, kk⟩, hL⟩ := Lim_inv (F := play_Text_F1 (R E) Lim E.glob)
    (fun i st => ∃ z h', st = play_Text_s1 z y (l.length : Int) (i : Int) h' ∧ Own h.length h' z 1 ((namesOf (l.take i)).map Cell.str) i ∧ Kp h.length h h') 0 l.length (by omega)
    (fun i st _ hi => by
      rintro ⟨z, h', rfl, o, kk⟩
      have hq : l[i]? = some l[i] := List.getElem?_eq_getElem hi
      generalize l[i] = q at hq
      have hy' := hy.keep hlow kk
      obtain ⟨z2, h2, e2, o2, k2, _⟩ := o.app (bytes := 16) (xs := [.str (nameOf q)]) kk.1 rfl (by omega) (by omega) (by omega)
      refine ⟨play_Text_s1 z2 y (l.length : Int) ((i + 1 : Nat) : Int) h2, ?_, z2, h2, rfl, ?_, kk.trans k2⟩
      · rw [play_Text_r1, if_pos (by simp; omega), hy'.get1 hi (intC_get hq), asI_ok, VName_R hE.c167, c1_ok, asS_ok, if_pos (by rfl), g_succ (by omega)]
        exact e2 _
      · rw [takeI_succ hq]
        unfold namesOf at o2 ⊢
        rw [List.map_append, List.map_append]
        exact o2) (st := play_Text_s1 .nils y (l.length : Int) ((0 : Nat) : Int) h) ⟨.nils, h, rfl, Own.nil _ _ _, Kp.refl _ _⟩
  have hr := hL _ (Lim_exit (show play_Text_F1 (R E) Lim E.glob (play_Text_s1 z y (l.length : Int) (l.length : Int) h') = some (.exit 0, play_Text_x1_1 z h') by rw [play_Text_r1, if_neg (by simp)]))
  rw [show ((0 : Nat) : Int) = 0 from rfl] at hr
  rw [List.take_length] at o
  have hn : l.length = (namesOf l).length := by unfold namesOf; rw [List.length_map]
  have hx : SlAt h' z 1 ((namesOf l).map Cell.str) (namesOf l).length := by rw [← hn]; exact o.at
  refine ⟨h', R_intro hE.fn ?_, kk⟩
  rw [play_Text_eq, hy.len, hr, bind_ok]
  dsimp only
  have hj := join_names l
  rw [play_Text_e1_1, Join_R hx17 hE.x272 hx (ByteArray.mk #[32]) (by omega) (by show (Lib.join ((namesOf l).map (·.data.toList)) [32]).length ≤ _; omega), c1_ok, asS_ok]
  rfl
end
end Jq

/- Functions from elsewhere come to what is said of them, if calls of them in the model do. -/
namespace Jq
open Go Go.RowKit

/-- What play.Parse comes to in the model; T: the type of an element. -/
def PPost (T : TypeId) (s : ByteArray) (w : World) (e : Ending) (w' : World) : Prop := Below w.heap.size w w' ∧ (match picksOf (parts s.data.toList) with
      | none => e = .returned (.tuple #[.slice none 0 0, .bool false])
      | some l => ∃ v, e = .returned (.tuple #[v, .bool true]) ∧ w'.ownsRow w.heap.size T 1 v l.length (l.map (Value.int .i64)))

section
variable {S : Seat} {h : AHeap} {w w' : World} {ρ : Rho}

theorem blk_nil (k : Nat) : blk? [] k = none := by simp [blk?]

theorem HI.empty (hi : HI S ρ h w) : HI S ρ [] w where
  blks := fun k b hb => by rw [blk_nil] at hb; cases hb
  inj := fun k b _ _ hb => by rw [blk_nil] at hb; cases hb
  glo := fun g i c hc => by
    obtain ⟨v, hv, hr⟩ := hi.glo g i c hc
    exact ⟨v, hv, relC.const (hi.gcl g c (List.mem_of_getElem? hc)) hr _ _⟩
  gno := fun g k b _ hb => by rw [blk_nil] at hb; cases hb
  gcl := hi.gcl

theorem HI.below0 (hi : HI S ρ h w) (hb : Below w.heap.size w w') : HI S ρ h w' := hi.same fun x hx => hb.block x hx

/-- A call that answers a text and asks for nothing. -/
theorem text_calls {C : CallF} (sc : SoundC S C) {g : Nat} {args : List AV} {vals : Array Value} {s : ByteArray} (hr : C g args [] = some ([.c (.str s)], [])) (hi : HI S ρ [] w) (ha : L2 (relA S ρ []) args vals.toList) :
    Calls S.P (S.fn g) vals w fun e w' => e = .returned (.string s) ∧ Below w.heap.size w w' := by
  refine Calls.mono ((sc g args [] _ hr).2 w ρ vals hi ha) ?_
  rintro e w' ⟨v, ρ', rfl, hr, hi', st⟩
  have hv : v = .string s := hr
  exact ⟨by rw [hv], st.os, st.tape, st.output, st.size, fun k hk => st.keep k hk fun j bl hb => by rw [blk_nil] at hb; cases hb⟩

theorem HI.stay (hi : HI S ρ h w) (hb : Below w.heap.size w w') : HI S ρ h w' ∧ Step h w ρ h w' ρ :=
  ⟨hi.below0 hb, Step.same (fun x hx => hb.block x hx) hb.size hb.os hb.tape hb.output⟩

/-- A row that is nobody's comes in as one of the program's own. -/
theorem HI.adopt (hi : HI S ρ h w) (hb : Below w.heap.size w w') {T : TypeId} {g n cap : Nat} {cur : Array Value} {cs : List Cell} {vs : List Value} (hg : w.heap.size ≤ g) (hc : w'.heap[g]? = some (.cells cur T (0, 0))) (hcap : cur.size = cap) (hn : cs.length = n) (hle : n ≤ cap) (ht : cur.toList.take n = vs)
    (hr : ∀ h ρ, L2 (relC S ρ h) cs vs) :
    ∃ ρ', HI S ρ' (h ++ [some ⟨true, 1, cs⟩]) w' ∧ Step h w ρ (h ++ [some ⟨true, 1, cs⟩]) w' ρ' ∧ relC S ρ' (h ++ [some ⟨true, 1, cs⟩]) (.sl h.length n 0 n) (.slice (some ⟨g, 0, none⟩) n cap) := by
  have e0 : Ext h ρ (h ++ [some ⟨true, 1, cs⟩]) (fun k => if k = h.length then ⟨g, 0, cap⟩ else ρ k) := Ext.append h ρ _ _
  have hnew : blk? (h ++ [some ⟨true, 1, cs⟩]) h.length = some ⟨true, 1, cs⟩ := blk_append_new _ _
  have hoth : ∀ j b, j ≠ h.length → blk? (h ++ [some ⟨true, 1, cs⟩]) j = some b → blk? h j = some b ∧ (fun k => if k = h.length then (⟨g, 0, cap⟩ : Pl) else ρ k) j = ρ j := by
    intro j b hj hb
    rcases blk_append hb with ⟨rfl, _⟩ | ⟨_, hb⟩
    · exact absurd rfl hj
    · exact ⟨hb, if_neg hj⟩
  refine ⟨fun k => if k = h.length then ⟨g, 0, cap⟩ else ρ k, hi.put e0 hnew (if_pos rfl) hoth ?_ (fun x _ hx => hb.block x hx) (.inr hg), Step.put e0 hnew (if_pos rfl) hoth (fun x _ hx => hb.block x hx) (.inr hg) hb.size hb.os hb.tape hb.output, ?_⟩
  · refine ⟨cur, T, (0, 0), hc, hcap, by show 0 + cs.length ≤ cur.size; omega, fun i c hi => ?_, fun _ => rfl⟩
    obtain ⟨u, hu, hru⟩ := (hr (h ++ [some ⟨true, 1, cs⟩]) (fun k => if k = h.length then (⟨g, 0, cap⟩ : Pl) else ρ k)).get hi
    rw [← ht, List.getElem?_take] at hu
    split at hu
    · refine ⟨u, ?_, hru⟩
      rw [Nat.zero_add]
      simpa using hu
    · cases hu
  · refine ⟨by simp, _, _, rfl, hle, fun b hbb => ?_⟩
    rw [hnew] at hbb
    cases hbb
    refine ⟨by show n ≤ cs.length; omega, fun _ => ⟨fun _ => by show n ≤ 0 + cap * 1; omega, .inr ⟨?_, fun _ => ?_⟩⟩⟩
    · dsimp only; rw [if_pos rfl]
    · dsimp only; rw [if_pos rfl]; show 0 + 0 + cap * 1 = cap; omega

theorem ints_rel (l : List Int) (h : AHeap) (ρ : Rho) : L2 (relC S ρ h) (intC .i64 l) (l.map (Value.int .i64)) := by
  unfold intC
  exact L2.of_map l fun _ _ => rfl

theorem parse_sound (hfn : ∃ fn c, S.P.funcs[S.fn 260]? = some fn ∧ fn.body = some c ∧ (fn.name == "runtime.NumGoroutine") = false) {T : TypeId}
    (hw0 : ∀ s w, s.size = 0 → Calls S.P (S.fn 260) #[.string s] w fun e w' => Below w.heap.size w w' ∧ e = .returned (.tuple #[.slice none 0 0, .bool true]))
    (hw : ∀ s w ρ, HI S ρ [] w → s.size ≤ 4611686018427387904 → s.size ≠ 0 → ((parts s.data.toList).length + 1) * 8 ≤ 140737488355328 → Calls S.P (S.fn 260) #[.string s] w (PPost T s w)) :
    SoundC S fun g args h => if g = 260 then parseX args h else none := by
  intro g args h r hr
  have hr : (if g = 260 then parseX args h else none) = some r := hr
  obtain ⟨rfl, hr⟩ := ite_inv hr
  refine ⟨hfn, fun w ρ vals hi ha => ?_⟩
  have hargs : ∃ s, args = [.c (.str s)] := by
    rcases args with _ | ⟨a, _ | ⟨b, t⟩⟩
    · exfalso; simp [parseX] at hr
    · rcases a with c | c
      · cases c <;> first | exact ⟨_, rfl⟩ | (exfalso; simp [parseX] at hr)
      · exfalso; simp [parseX] at hr
    · exfalso
      rcases a with c | c
      · cases c <;> simp [parseX] at hr
      · simp [parseX] at hr
  obtain ⟨s, rfl⟩ := hargs
  have hr : (if s.size = 0 then some ([.c .nils, .c (.bool true)], h)
    else if s.size ≤ 4611686018427387904 ∧ ((parts s.data.toList).length + 1) * 8 ≤ 140737488355328 then match picksOf (parts s.data.toList) with
      | none => some ([.c .nils, .c (.bool false)], h)
      | some l => some ([.c (.sl h.length l.length 0 l.length), .c (.bool true)], h ++ [some ⟨true, 1, intC .i64 l⟩])
    else none : Option (List AV × AHeap)) = some r := hr
  · obtain ⟨v, vs, hv, rv, ht⟩ := ha.cons_left
    have hvs := ht.nil_left
    subst hvs
    have hv1 : v = .string s := rv
    have hvals : vals = #[.string s] := by apply Array.toList_inj.1; rw [hv, hv1]
    subst hvals
    by_cases h0 : s.size = 0
    · rw [if_pos h0] at hr
      cases hr
      refine Calls.mono (hw0 s w h0) ?_
      rintro e w' ⟨hb, rfl⟩
      obtain ⟨h1, h2⟩ := hi.stay hb
      exact ⟨_, ρ, rfl, ⟨#[.slice none 0 0, .bool true], rfl, L2.cons rfl (L2.cons rfl L2.nil)⟩, h1, h2⟩
    · rw [if_neg h0] at hr
      obtain ⟨⟨hs, hb⟩, hr⟩ := ite_inv hr
      refine Calls.mono (hw s w ρ hi.empty hs h0 hb) ?_
      rintro e w' ⟨hbl, hp⟩
      split at hr
      · rename_i hn
        rw [hn] at hp
        cases hr
        obtain ⟨h1, h2⟩ := hi.stay hbl
        exact ⟨_, ρ, hp, ⟨#[.slice none 0 0, .bool false], rfl, L2.cons rfl (L2.cons rfl L2.nil)⟩, h1, h2⟩
      · rename_i l hl
        rw [hl] at hp
        cases hr
        obtain ⟨v, rfl, hrow⟩ := hp
        rcases hrow.2 with ⟨_, hl0⟩ | ⟨q, cap, cur, rfl, hq, hc, hle, _, hcap, ht⟩
        · exfalso
          have hpl : ∀ (ws : List (List UInt8)) (l : List Int), picksOf ws = some l → l.length = ws.length := by
            intro ws
            induction ws with
            | nil => intro l h; cases h; rfl
            | cons x ws ih =>
              intro l h
              unfold picksOf at h
              split at h
              · cases h
              · cases hp : picksOf ws with
                | none => rw [hp] at h; cases h
                | some q => rw [hp] at h; cases h; rw [List.length_cons, List.length_cons, ih q hp]
          have := hpl _ _ hl
          have h2 := List.length_pos_iff.2 (parts_ne s.data.toList)
          omega
        · obtain ⟨ρ', h1, h2, h3⟩ := hi.adopt hbl hq hc (by omega) (show (intC .i64 l).length = l.length by simp [intC]) hle (by rw [← ht, Nat.mul_one]) (fun h ρ => ints_rel l h ρ)
          exact ⟨_, ρ', rfl, ⟨#[.slice (some ⟨q, 0, none⟩) l.length cap, .bool true], rfl, L2.cons h3 (L2.cons rfl L2.nil)⟩, h1, h2⟩

theorem strs_cells {cs : List Cell} : ∀ {l : List ByteArray}, strsOf cs = some l → cs = l.map Cell.str := by
  induction cs with
  | nil => intro l h; cases h; rfl
  | cons c cs ih =>
    intro l h
    cases c with
    | str s =>
      rw [strsOf] at h
      cases hp : strsOf cs with
      | none => rw [hp] at h; cases h
      | some q => rw [hp] at h; cases h; rw [ih hp]; rfl
    | _ => cases h

theorem join_sound (hfn : ∃ fn c, S.P.funcs[S.fn 272]? = some fn ∧ fn.body = some c ∧ (fn.name == "runtime.NumGoroutine") = false)
    (hw0 : ∀ a c sep w, Calls S.P (S.fn 272) #[.slice a 0 c, .string sep] w fun e w' => e = .returned (.string ⟨#[]⟩) ∧ w' = w)
    (hw : ∀ (bk o c : Nat) (xs : List ByteArray) (sep : ByteArray) (w : World), (∀ (j : Nat) x, xs[j]? = some x → w.cell? ⟨bk, o + j, none⟩ = some (.string x)) → bk < w.heap.size → xs.length ≤ 140737488355328 → xs.length ≤ c →
      (Lib.join (xs.map (·.data.toList)) sep.data.toList).length ≤ 140737488355328 → Calls S.P (S.fn 272) #[.slice (some ⟨bk, o, none⟩) xs.length c, .string sep] w fun e w' => e = .returned (.string ⟨(Lib.join (xs.map (·.data.toList)) sep.data.toList).toArray⟩) ∧ Below w.heap.size w w') :
    SoundC S fun g args h => if g = 272 then joinX args h else none := by
  intro g args h r hr
  have hr : (if g = 272 then joinX args h else none) = some r := hr
  obtain ⟨rfl, hr⟩ := ite_inv hr
  refine ⟨hfn, fun w ρ vals hi ha => ?_⟩
  have hargs : ∃ x sep, args = [.c x, .c (.str sep)] := by
    rcases args with _ | ⟨a, _ | ⟨b, _ | ⟨d, t⟩⟩⟩
    · exfalso; simp [joinX] at hr
    · exfalso; simp [joinX] at hr
    · rcases a with c | c
      · rcases b with d | d
        · cases d <;> first | exact ⟨_, _, rfl⟩ | (exfalso; simp [joinX] at hr)
        · exfalso; simp [joinX] at hr
      · exfalso; simp [joinX] at hr
    · exfalso; simp [joinX] at hr
  obtain ⟨x, sep, rfl⟩ := hargs
  unfold joinX at hr
  dsimp only at hr
  · obtain ⟨v, vs, hv, rv, ht⟩ := ha.cons_left
    obtain ⟨v2, vs2, rfl, rv2, ht2⟩ := ht.cons_left
    have hvs := ht2.nil_left
    subst hvs
    have hv2 : v2 = .string sep := rv2
    have hvals : vals = #[v, .string sep] := by apply Array.toList_inj.1; rw [hv, hv2]
    subst hvals
    obtain ⟨cs, hcs, hr⟩ := bind_some hr
    obtain ⟨l, hl, hr⟩ := bind_some hr
    obtain ⟨⟨b1, b2⟩, hr⟩ := ite_inv hr
    cases some_inv hr
    have hcl := strs_cells hl
    subst hcl
    have none_ : ∀ a c, v = .slice a 0 c → l = [] → Calls S.P (S.fn 272) #[v, .string sep] w fun e w' => ∃ u ρ', e = .returned u ∧ relR S ρ' h [.c (.str (joined l sep))] u ∧ HI S ρ' h w' ∧ Step h w ρ h w' ρ' := by
      rintro a c rfl rfl
      refine Calls.mono (hw0 a c sep w) ?_
      rintro e w' ⟨rfl, rfl⟩
      exact ⟨_, ρ, rfl, rfl, hi, Step.refl _ _ _⟩
    unfold slCells at hcs
    split at hcs
    · have : l = [] := by cases l with
        | nil => rfl
        | cons a t => cases hcs
      exact none_ none 0 rv this
    · rename_i k N off len _ _
      split at hcs
      · rename_i h0
        subst h0
        have : l = [] := by cases l with
          | nil => rfl
          | cons a t => cases hcs
        obtain ⟨_, a, c, hva, _⟩ := rv
        exact none_ _ _ hva this
      · rename_i h0
        cases hb : blk? h k with
        | none => rw [hb] at hcs; cases hcs
        | some b =>
          rw [hb] at hcs
          obtain ⟨⟨hN, hle⟩, hcs⟩ := ite_inv hcs
          have hcs := some_inv hcs
          obtain ⟨_, a, cp, hva, hlc, hrr⟩ := rv
          obtain ⟨_, hrr⟩ := hrr b hb
          obtain ⟨_, hrr⟩ := hrr hN
          have hlen : len = l.length := by
            have := congrArg List.length hcs
            simp at this
            omega
          rcases hrr with ⟨hc0, _⟩ | ⟨ha2, _⟩
          · omega
          · obtain ⟨C, e, fz, hC, _, _, hat, _⟩ := hi.blks k b hb
            subst hva ha2 hlen
            refine Calls.mono (hw (ρ k).b ((ρ k).o + off) cp l sep w (fun j y hy => ?_) (Array.getElem?_eq_some_iff.1 hC).1 b1 hlc b2) ?_
            · have hc : b.cs[off + j]? = some (.str y) := by
                have h1 : (l.map Cell.str)[j]? = some (.str y) := by rw [List.getElem?_map, hy]; rfl
                rw [← hcs, List.getElem?_take] at h1
                split at h1
                · rw [List.getElem?_drop] at h1; exact h1
                · cases h1
              obtain ⟨u, hu, hru⟩ := hat _ _ hc
              have hu2 : u = .string y := hru
              rw [hu2] at hu
              rw [Nat.add_assoc]
              simp [World.cell?, hC, hu]
            · rintro e w' ⟨rfl, hbl⟩
              obtain ⟨h1, h2⟩ := hi.stay hbl
              exact ⟨_, ρ, rfl, rfl, h1, h2⟩
    · cases hcs

theorem ext17_sound (hj : SoundC S fun g args h => if g = 272 then joinX args h else none) (hp : SoundC S fun g args h => if g = 260 then parseX args h else none) : SoundC S ext17 := by
  intro g args h r hr
  unfold ext17 at hr
  by_cases h1 : g = 272
  · rw [if_pos h1] at hr
    exact hj g args h r (by show (if g = 272 then joinX args h else none) = some r; rw [if_pos h1]; exact hr)
  · rw [if_neg h1] at hr
    exact hp g args h r hr
end
end Jq

/- strings.Join and play.Parse in the given program: what calls of them come to. -/
namespace Go.Proofs
open Go.RowKit Go.Shelf
attribute [local go_sem] Oper.semAt_some
namespace PX
open Jq (parts parts_ne nameOf pickOf picksOf PPost)

def jren : Go.Shelf.Ren := ⟨fun | 156 => 13 | 165 => 19 | 166 => 20 | 169 => 21 | 240 => 30 | 241 => 31 | 276 => 46 | 277 => 47 | n => n, fun | 31 => 42 | 9 => 9 | 3 => 3 | 4 => 4 | 0 => 0 | 20 => 20 | 72 => 56 | 76 => 60 | 70 => 54 | 37 => 36 | 75 => 59 | 127 => 91 | 164 => 105 | 5 => 5 | 80 => 62 | n => n, fun | n => n⟩
theorem jlays : Go.Proofs.Lays.n156 Tryd.prog jren := {
  mixed := by kernel_rfl
  f156 := Tryd.func13.trans (congrArg some (by kernel_rfl))
  f165 := Tryd.func19.trans (congrArg some (by kernel_rfl))
  f166 := Tryd.func20.trans (congrArg some (by kernel_rfl))
  f169 := Tryd.func21.trans (congrArg some (by kernel_rfl))
  f240 := Tryd.func30.trans (congrArg some (by kernel_rfl))
  f241 := Tryd.func31.trans (congrArg some (by kernel_rfl))
  f276 := Tryd.func46.trans (congrArg some (by kernel_rfl))
  f277 := Tryd.func47.trans (congrArg some (by kernel_rfl))
  t0 := Tryd.underlying0
  a0 := Tryd.isAgg0
  z0 := Tryd.sizeOf0
  v0 := Tryd.zeroValue0
  t3 := Tryd.underlying3
  a3 := Tryd.isAgg3
  z3 := Tryd.sizeOf3
  v3 := Tryd.zeroValue3
  t4 := Tryd.underlying4
  a4 := Tryd.isAgg4
  z4 := Tryd.sizeOf4
  v4 := Tryd.zeroValue4
  t9 := Tryd.underlying9
  a9 := Tryd.isAgg9
  z9 := Tryd.sizeOf9
  v9 := Tryd.zeroValue9
  t20 := Tryd.underlying20
  a20 := Tryd.isAgg20
  z20 := Tryd.sizeOf20
  v20 := Tryd.zeroValue20
  t31 := Tryd.underlying42
  a31 := Tryd.isAgg42
  z31 := Tryd.sizeOf42
  v31 := Tryd.zeroValue42
  t37 := Tryd.underlying36
  a37 := Tryd.isAgg36
  z37 := Tryd.sizeOf36
  v37 := Tryd.zeroValue36
  t70 := Tryd.underlying54
  a70 := Tryd.isAgg54
  z70 := Tryd.sizeOf54
  v70 := Tryd.zeroValue54
  t72 := Tryd.underlying56
  a72 := Tryd.isAgg56
  z72 := Tryd.sizeOf56
  v72 := Tryd.zeroValue56
  t75 := Tryd.underlying59
  a75 := Tryd.isAgg59
  z75 := Tryd.sizeOf59
  v75 := Tryd.zeroValue59
  t76 := Tryd.underlying60
  a76 := Tryd.isAgg60
  z76 := Tryd.sizeOf60
  v76 := Tryd.zeroValue60
  t127 := Tryd.underlying91
  a127 := Tryd.isAgg91
  z127 := Tryd.sizeOf91
  v127 := Tryd.zeroValue91
  t164 := Tryd.underlying105
  a164 := Tryd.isAgg105
  z164 := Tryd.sizeOf105
  v164 := Tryd.zeroValue105 }
theorem jextra : Builder.Extra Tryd.prog jren := {
  sizeBuilder := by kernel_rfl
  liesBuilder := by kernel_rfl
  t5 := Tryd.underlying5
  a5 := Tryd.isAgg5
  z5 := Tryd.sizeOf5
  v5 := Tryd.zeroValue5
  infoByte := by kernel_rfl
  cellsByte := by kernel_rfl
  sizeByte := by kernel_rfl
  neB5 := by decide }
theorem Join_none (a : Option Addr) (c : Nat) (sep : ByteArray) (w : World) :
    Calls Tryd.prog 13 #[.slice a 0 c, .string sep] w fun e w' => e = .returned (.string ⟨#[]⟩) ∧ w' = w := Any.strings_Join_none jlays jextra a c sep w
theorem Join_w (bk o c : Nat) (xs : List ByteArray) (sep : ByteArray) (w : World) (hcells : ∀ (j : Nat) x, xs[j]? = some x → w.cell? ⟨bk, o + j, none⟩ = some (.string x)) (hbk : bk < w.heap.size) (hN : xs.length ≤ 140737488355328) (hcap : xs.length ≤ c) (hlen : (Lib.join (xs.map (·.data.toList)) sep.data.toList).length ≤ 140737488355328) :
    Calls Tryd.prog 13 #[.slice (some ⟨bk, o, none⟩) xs.length c, .string sep] w fun e w' => e = .returned (.string ⟨(Lib.join (xs.map (·.data.toList)) sep.data.toList).toArray⟩) ∧ Below w.heap.size w w' := Any.strings_Join jlays jextra bk o c xs sep w hcells hbk hN hcap hlen

set_option maxHeartbeats 1000000 in
set_option maxRecDepth 100000 in
theorem IndexByte_w (s : ByteArray) (c : Int) (w : World) :
    Calls Tryd.prog 48 #[.string s, .int .u8 c] w fun e w' => e = .returned (.int .i64 (Lib.indexByte s.data.toList c.toNat.toUInt8)) ∧ w' = w := by
  go_enter Tryd.func48, Tryd.ntmps48
  go_wp2
  rw [run_callFunc_extern Tryd.func76 (by kernel_rfl) (by kernel_rfl) (by kernel_rfl) (e := Extern.BytealgIndexByte.indexByte) (by kernel_rfl), Lib.run_indexByteString]
  simp only [Result.andThen]
  rw [Oper.upon_value]
  go_wp2
  go_ret
  exact ⟨rfl, rfl⟩

set_option maxHeartbeats 2000000 in
set_option maxRecDepth 100000 in
theorem slIndex_w (s : ByteArray) (c : UInt8) (w : World) :
    Calls Tryd.prog 33 #[.string s, .string ⟨#[c]⟩] w fun e w' => e = .returned (.int .i64 (Lib.indexByte s.data.toList c)) ∧ w' = w := by
  go_enter Tryd.func33, Tryd.ntmps33
  go_wp2_with (go_at_call 48; refine (IndexByte_w _ _ _).mono ?_; rintro e w' ⟨rfl, rfl⟩)
  · have h : ([c] == s.toList) = true := by assumption
    go_ret
    refine ⟨?_, rfl⟩
    have e : s.data.toList = [c] := by rw [← Lib.toList_data]; exact (beq_iff_eq.1 h).symm
    rw [e]
    simp [Lib.indexByte]
  · go_ret
    exact ⟨rfl, rfl⟩

set_option maxHeartbeats 1000000 in
theorem Index_w (s : ByteArray) (c : UInt8) (w : World) :
    Calls Tryd.prog 24 #[.string s, .string ⟨#[c]⟩] w fun e w' => e = .returned (.int .i64 (Lib.indexByte s.data.toList c)) ∧ w' = w := by
  go_enter Tryd.func24, Tryd.ntmps24
  go_wp2_with (go_at_call 33; refine (slIndex_w _ _ _).mono ?_; rintro e w' ⟨rfl, rfl⟩)
  go_ret
  exact ⟨rfl, rfl⟩

theorem parts_cons (b : UInt8) (l : List UInt8) : parts (b :: l) = if b = 32 then [] :: parts l else match parts l with
    | p :: ps => (b :: p) :: ps
    | [] => [[b]] := rfl

theorem wrap_in {n : Int} (h0 : 0 ≤ n) (h1 : n < 9223372036854775808) : wrap64 n = n := by unfold wrap64; omega

theorem parts_idx : ∀ l : List UInt8, (Lib.indexByte l 32 = -1 ∧ parts l = [l]) ∨ ∃ k : Nat, Lib.indexByte l 32 = (k : Int) ∧ k < l.length ∧ parts l = l.take k :: parts (l.drop (k + 1))
  | [] => .inl ⟨rfl, rfl⟩
  | b :: l => by
    rw [parts_cons]
    unfold Lib.indexByte
    by_cases hb : b = 32
    · rw [if_pos (by rw [hb]; rfl), if_pos hb]
      exact .inr ⟨0, rfl, by simp, by simp⟩
    · rw [if_neg (by rw [beq_iff_eq]; exact hb), if_neg hb]
      rcases parts_idx l with ⟨h1, h2⟩ | ⟨k, h1, h2, h3⟩
      · exact .inl ⟨by rw [h1]; rfl, by rw [h2]⟩
      · refine .inr ⟨k + 1, by rw [h1, if_neg (by rw [beq_iff_eq]; omega)]; rfl, by simp; omega, ?_⟩
        rw [h3]
        simp

def leftS (W : World) (Bs : Nat) : Nat := match W.cell? ⟨Bs, 0, none⟩ with
  | some (.string c) => c.size
  | _ => 0

set_option maxHeartbeats 4000000 in
set_option maxRecDepth 100000 in
theorem iter_in (n : Nat) (hn : 1 ≤ n) (l Bs Bp Bz : Nat) (hne1 : Bp ≠ Bs) (hne2 : Bz ≠ Bs) (J Jx : List (List UInt8) → World → Prop)
    (hJs : ∀ pre W c c', J pre W → Boxed W Bs 9 (.string c) → J pre (W.setCell ⟨Bs, 0, none⟩ (.string c')))
    (s : ByteArray) (hY : ∀ pre x W, pre ++ [x.data.toList] <+: parts s.data.toList → J pre W → YieldAt Fence.wide (n - 1) Tryd.prog l #[.string x] W fun e W' =>
      (e = .returned (.bool true) ∧ J (pre ++ [x.data.toList]) W' ∧ ∀ k t v, (k = Bs ∨ k = Bp ∨ k = Bz) → Boxed W k t v → Boxed W' k t v) ∨ (e = .returned (.bool false) ∧ Jx (pre ++ [x.data.toList]) W'))
    (W : World) (hs : s.size ≤ 4611686018427387904) (b1 : Boxed W Bs 9 (.string s)) (b2 : Boxed W Bp 9 (.string ⟨#[32]⟩)) (b3 : Boxed W Bz 3 (.int .i64 0)) (h0 : J [] W) :
    CallsIn Fence.wide n Tryd.prog 22 #[.func (.yield l) #[] #[], .pointer (some ⟨Bp, 0, none⟩), .pointer (some ⟨Bs, 0, none⟩), .pointer (some ⟨Bz, 0, none⟩)] W fun e W' =>
      (∃ v, e = .returned v) ∧ (J (parts s.data.toList) W' ∨ ∃ pre, pre <+: parts s.data.toList ∧ Jx pre W') := by
  refine callsIn_of_wp Tryd.func22 rfl trivial ?_ rfl
  simp only [Tryd.ntmps22, List.size_toArray, List.length_cons, List.length_nil, Nat.reduceAdd, Nat.reduceSub, Array.replicate_succ, Array.replicate_zero, List.push_toArray, List.append_toArray, List.nil_append, List.cons_append]
  have c1 := b1.cell
  have c2 := b2.cell
  have c3 := b3.cell
  gi_wp2
  gi_loopw [7] (fun i wr => ∃ (pre : List (List UInt8)) (cur : ByteArray), Boxed wr Bs 9 (.string cur) ∧ Boxed wr Bp 9 (.string ⟨#[32]⟩) ∧ Boxed wr Bz 3 (.int .i64 0) ∧ J pre wr ∧ parts s.data.toList = pre ++ parts cur.data.toList ∧ cur.size ≤ s.size)
    (fun _ wr => leftS wr Bs)
  case atStart =>
    exact ⟨[], s, b1, b2, b3, h0, rfl, Nat.le_refl _⟩
  case round =>
    obtain ⟨pre, cur, d1, d2, d3, hj, hp, hc⟩ := hrel
    have e1 := d1.cell
    have e2 := d2.cell
    have e3 := d3.cell
    have hsz : cur.data.toList.length = cur.size := rfl
    rcases parts_idx cur.data.toList with ⟨h1, h2⟩ | ⟨k, h1, h2, h3⟩
    · obtain ⟨f1, t1, a1, q1, hy1, hR1⟩ := hY pre cur wr (by rw [hp, h2]; exact List.prefix_refl _) hj
      have hpc : parts s.data.toList = pre ++ [cur.data.toList] := by rw [hp, h2]
      gi_wp2_with (first
        | (refine ⟨trivial, ?_⟩; gi_at_call 24; refine ((callsIn_wide (n := n - 1)).2 (Index_w _ _ _)).mono ?_; rintro e w' ⟨rfl, rfl⟩; rw [h1])
        | gi_in)
      refine hR1.mono ?_
      rintro e W3 (⟨rfl, hJ3, hk3⟩ | ⟨rfl, hJx3⟩)
      · gi_wp2
        go_end0
        exact ⟨⟨_, rfl⟩, .inl (by rw [hpc]; exact hJ3)⟩
      · gi_wp2
        go_end0
        exact ⟨⟨_, rfl⟩, .inr ⟨_, by rw [hpc]; exact List.prefix_refl _, hJx3⟩⟩
    · have hfrag : (cur.extract 0 k).data.toList = cur.data.toList.take k := by
        rw [Lib.extract_data]; simp
      obtain ⟨f2, t2, a2, q2, hy2, hR2⟩ := hY pre (cur.extract 0 k) wr (by rw [hp, h3, hfrag]; exact ⟨_, by rw [List.append_assoc]; rfl⟩) hj
      have hw1 : wrap64 (k : Int) = k := wrap_in (by omega) (by omega)
      have hw2 : wrap64 ((k : Int) + 1) = ((k + 1 : Nat) : Int) := wrap_in (by omega) (by omega)
      have hrest : (cur.extract (k + 1) cur.size).data.toList = cur.data.toList.drop (k + 1) := by
        rw [Lib.extract_data, List.take_of_length_le]
        rw [List.length_drop]; omega
      gi_wp2_with (first
        | (refine ⟨trivial, ?_⟩; gi_at_call 24; refine ((callsIn_wide (n := n - 1)).2 (Index_w _ _ _)).mono ?_; rintro e w' ⟨rfl, rfl⟩; rw [h1])
        | gi_in)
      refine hR2.mono ?_
      rintro e W3 (⟨rfl, hJ3, hk3⟩ | ⟨rfl, hJx3⟩)
      · have g1 : Boxed W3 Bs 9 (.string cur) := hk3 _ _ _ (.inl rfl) d1
        have g2 : Boxed W3 Bp 9 (.string ⟨#[32]⟩) := hk3 _ _ _ (.inr (.inl rfl)) d2
        have g3 : Boxed W3 Bz 3 (.int .i64 0) := hk3 _ _ _ (.inr (.inr rfl)) d3
        have k1 := g1.cell
        have k2 := g2.cell
        have k3 := g3.cell
        have k4 := g1.frozen
        gi_wp2
        have s1 := g1.set (.string (cur.extract (k + 1) cur.size))
        have hl := congrArg List.length hrest
        rw [List.length_drop] at hl
        have hl2 : (cur.extract (k + 1) cur.size).size = cur.data.toList.length - (k + 1) := hl
        refine ⟨⟨pre ++ [cur.data.toList.take k], _, s1, g2.kept (grownBy_setCell' _ _ _) (by simpa using hne1), g3.kept (grownBy_setCell' _ _ _) (by simpa using hne2), hJs _ _ _ _ (by rw [← hfrag]; exact hJ3) g1, ?_, by omega⟩, ?_⟩
        · rw [hp, h3, hrest, List.append_assoc]; rfl
        · unfold leftS
          rw [s1.cell, d1.cell]
          show (cur.extract (k + 1) cur.size).size < cur.size
          omega
      · gi_wp2
        refine bodyPost_ret (results_none rfl _ _ _) rfl ?_
        exact ⟨⟨_, rfl⟩, .inr ⟨_, by rw [hp, h3, hfrag]; exact ⟨_, by rw [List.append_assoc]; rfl⟩, hJx3⟩⟩

set_option maxHeartbeats 1000000 in
theorem wp_range {g : Operand} {ps : Array Tmp} {assign body : Code} {Q : Exit → Act → World → Prop} {a : Act} {w : World} {n : Nat} (hn : 1 ≤ n) {lb : Array Value} (hg : a.eval g = .func (.func 22) #[] lb) (hps : ps.size = 1)
    (I Ix : List (List UInt8) → World → Prop) (hIa : ∀ W o, Below w.heap.size w W → I [] W → I [] (W.alloc o)) (hI : ∀ pre W j o o', I pre W → w.heap.size ≤ j → W.heap[j]? = some o → o.isCells = false → I pre (W.putObj j o')) (hIx : ∀ pre W j o o', Ix pre W → w.heap.size ≤ j → W.heap[j]? = some o → o.isCells = false → Ix pre (W.putObj j o')) (h0 : I [] w) (Bs Bp Bz : Nat) (full : List (List UInt8))
    (hIs : ∀ pre W c c', I pre W → Boxed W Bs 9 (.string c) → I pre (W.setCell ⟨Bs, 0, none⟩ (.string c')))
    (hcall : ∀ (l : Nat) (W1 : World) (J Jx : List (List UInt8) → World → Prop), w.grownBy W1 none →
      (∀ pre W c c', J pre W → Boxed W Bs 9 (.string c) → J pre (W.setCell ⟨Bs, 0, none⟩ (.string c'))) →
      (∀ pre x W, pre ++ [x.data.toList] <+: full → J pre W → YieldAt Fence.wide (n - 1 - 1) Tryd.prog l #[.string x] W fun e W' =>
        (e = .returned (.bool true) ∧ J (pre ++ [x.data.toList]) W' ∧ ∀ k t v, (k = Bs ∨ k = Bp ∨ k = Bz) → Boxed W k t v → Boxed W' k t v) ∨ (e = .returned (.bool false) ∧ Jx (pre ++ [x.data.toList]) W')) →
      J [] W1 → CallsIn Fence.wide (n - 1) Tryd.prog 22 (#[.func (.yield l) #[] #[]] ++ lb) W1 fun e W' => (∃ v, e = .returned v) ∧ (J full W' ∨ ∃ pre, pre <+: full ∧ Jx pre W'))
    (a₁ : ByteArray → Act)
    (hassign : ∀ (l : Nat) (x : ByteArray) (W : World) (K : Act → World → Prop), K (a₁ x) W →
      assign.wpIn (Fence.wide.inRound l) (n - 1 - 1) Tryd.prog (Exit.then K (fun _ _ _ => False)) { tmps := (ps.zip #[.string x]).foldl (fun t (p, v) => t.setIfInBounds p v) a.tmps, defers := [] } W)
    (hbody : ∀ (l : Nat) (pre : List (List UInt8)) (x : ByteArray) (W : World), pre ++ [x.data.toList] <+: full → I pre W → body.wpIn (Fence.wide.inRound l) (n - 1 - 1) Tryd.prog
      (fun e _ W' => KeepsOthers W W' ∧ (∀ k t v, (k = Bs ∨ k = Bp ∨ k = Bz) → Boxed W k t v → Boxed W' k t v) ∧ ((e = .normal ∧ I (pre ++ [x.data.toList]) W') ∨ (e = .ret ∧ Ix (pre ++ [x.data.toList]) W'))) (a₁ x) W)
    (hdone : ∀ (D : Nat) (W : World), I full W → W.heap[D]? = some (.deferred (some [])) → w.heap.size ≤ D → Q .normal { a with defers := { target := .collected D, args := #[] } :: a.defers } W)
    (hstop : ∀ (D : Nat) (pre : List (List UInt8)) (W : World), pre <+: full → Ix pre W → W.heap[D]? = some (.deferred (some [])) → w.heap.size ≤ D → Code.ret.wpIn Fence.wide n Tryd.prog Q { a with defers := { target := .collected D, args := #[] } :: a.defers } W) :
    (Code.rangeFunc g ps assign body).wpIn Fence.wide n Tryd.prog Q a w := by
  refine wpIn_rangeFunc ?_
  intro fn _
  obtain ⟨rec, hrec⟩ : ∃ rec : LoopState → Option Code → Loop, rec = fun st pe => { state := st, pending := pe, fn, tmps := a.tmps, params := ps, assign, body, defers := w.heap.size } := ⟨_, rfl⟩
  obtain ⟨W1, hW1⟩ : ∃ W1, (w.alloc (.deferred (some []))).alloc (.loop (rec .ready none)) = W1 := ⟨_, rfl⟩
  have hL1 : W1.heap[w.heap.size + 1]? = some (.loop (rec .ready none)) := by
    rw [← hW1]; have := World.alloc_heap_new (w.alloc (.deferred (some []))) (.loop (rec .ready none)); rwa [World.size_alloc] at this
  have hK1 : W1.heap[w.heap.size]? = some (.deferred (some [])) := by
    rw [← hW1]; exact (Below.heap_alloc _ _ _ (by simp)).trans (World.alloc_heap_new w _)
  have hI1 : I [] W1 := by rw [← hW1]; exact hIa _ _ ((Below.refl w.heap.size w).alloc (Nat.le_refl _) _) (hIa _ _ (Below.refl _ _) h0)
  have hgr : w.grownBy W1 none := by
    have b := (((Below.refl w.heap.size w).alloc (Nat.le_refl _) (.deferred (some []))).alloc (by simp) (.loop (rec .ready none)))
    rw [hW1] at b
    exact ⟨b.os, b.tape, b.output, b.size, fun k hk _ => b.block k hk⟩
  refine ⟨w.heap.size + 1, [{ target := .collected w.heap.size, args := #[] }], W1, { target := .fn (.func 22) lb, args := #[.func (.yield (w.heap.size + 1)) #[] #[]] }, W1, 22,
    #[.func (.yield (w.heap.size + 1)) #[] #[]] ++ lb, W1, ?_, ?_, fun f' _ => trivial, ?_, fun _ => hn, ?_⟩
  · rw [← hW1, hrec]; exact run_enterLoop_outer _ _ _ _ _
  · simp only [resolve, hg]
    simp [go_sem]
  · have eg : ∀ args w, (callFunc 22 args).run Tryd.prog w = .ok (.enter 22 args) w := enters_of Tryd.func22 (by kernel_rfl) rfl
    simp [invoke, go_sem, eg]
  · have ncell : ∀ {W : World} {k : Nat} {o : Obj} {c : ByteArray}, W.heap[k]? = some o → o.isCells = false → Boxed W Bs 9 (.string c) → k ≠ Bs := by
      intro W k o c h1 h2 h3 e
      rw [e, show W.heap[Bs]? = _ from h3] at h1
      cases h1; cases h2
    have other : ∀ {W : World} {k : Nat} (v : Value), k ≠ Bs → (W.setCell ⟨Bs, 0, none⟩ v).heap[k]? = W.heap[k]? := fun v hk => Below.heap_setCell _ _ _ _ hk
    refine (hcall (w.heap.size + 1) W1
      (fun pre W => I pre W ∧ W.heap[w.heap.size + 1]? = some (.loop (rec .ready none)) ∧ W.heap[w.heap.size]? = some (.deferred (some [])))
      (fun pre W => Ix pre W ∧ W.heap[w.heap.size + 1]? = some (.loop (rec .done (some .ret))) ∧ W.heap[w.heap.size]? = some (.deferred (some [])))
      hgr (fun pre W c c' hj hb => ⟨hIs pre W c c' hj.1 hb, (other _ (ncell hj.2.1 rfl hb)).trans hj.2.1, (other _ (ncell hj.2.2 rfl hb)).trans hj.2.2⟩) ?_ ⟨hI1, hL1, hK1⟩).mono ?_
    · rintro pre x W hpre ⟨hi, hl, hk⟩
      have hlt : w.heap.size + 1 < W.heap.size := (Array.getElem?_eq_some_iff.1 hl).1
      have hy := run_yield (P := Tryd.prog) (args := #[.string x]) hl (by rw [hrec]; simp [hps])
      rw [hrec] at hy
      refine ⟨fn, _, assign, body, hy, roundIn_of_wpIn trivial (hassign _ x W _ ⟨_, run_beginRound hl (by rw [hrec]), ?_⟩)⟩
      have hl2 : (W.putObj (w.heap.size + 1) (.loop { rec .ready none with state := .busy })).heap[w.heap.size + 1]? = some (.loop { rec .ready none with state := .busy }) := World.putObj_heap_same hlt
      have hk2 : (W.putObj (w.heap.size + 1) (.loop { rec .ready none with state := .busy })).heap[w.heap.size]? = some (.deferred (some [])) := (World.putObj_heap_other (by omega)).trans hk
      have box : ∀ {W : World} {j : Nat} {o : Obj} (o' : Obj) {k : Nat} {t : TypeId} {v : Value}, W.heap[j]? = some o → o.isCells = false → Boxed W k t v → Boxed (W.putObj j o') k t v := by
        intro W j o o' k t v h1 h2 h3
        refine (World.putObj_heap_other ?_).trans h3
        intro e
        rw [← e, show W.heap[k]? = _ from h3] at h1
        cases h1; cases h2
      refine wpIn_mono (hbody _ pre x _ hpre (hI _ _ _ _ _ hi (by omega) hl rfl)) ?_
      have fin : ∀ (jump : Option Code) (W3 : World), KeepsOthers (W.putObj (w.heap.size + 1) (.loop { rec .ready none with state := .busy })) W3 →
          (Instr.endRound (w.heap.size + 1) jump).run Tryd.prog W3 = .ok (.bool jump.isNone) (W3.putObj (w.heap.size + 1) (.loop (rec (if jump.isNone then .ready else .done) jump))) ∧
          W3.heap[w.heap.size + 1]? = some (.loop { rec .ready none with state := .busy }) ∧
          (W3.putObj (w.heap.size + 1) (.loop (rec (if jump.isNone then .ready else .done) jump))).heap[w.heap.size + 1]? = some (.loop (rec (if jump.isNone then .ready else .done) jump)) ∧
          (W3.putObj (w.heap.size + 1) (.loop (rec (if jump.isNone then .ready else .done) jump))).heap[w.heap.size]? = some (.deferred (some [])) := fun jump W3 hk3 => by
        have hl3 := hk3.same _ _ hl2 rfl
        have := run_endRound (P := Tryd.prog) jump hl3
        rw [hrec] at this ⊢
        exact ⟨this, by rw [hrec] at hl3; exact hl3, World.putObj_heap_same (Array.getElem?_eq_some_iff.1 hl3).1, (World.putObj_heap_other (by omega)).trans (hk3.same _ _ hk2 rfl)⟩
      rintro e a3 W3 ⟨hk3, hb3, (⟨rfl, hi3⟩ | ⟨rfl, hi3⟩)⟩
      · obtain ⟨hr, hl3, hl4, hk4⟩ := fin none W3 hk3
        exact ⟨_, _, hr, .inl ⟨rfl, ⟨hI _ _ _ _ _ hi3 (by omega) hl3 rfl, hl4, hk4⟩, fun k t v hk hb => box _ hl3 rfl (hb3 k t v hk (box _ hl rfl hb))⟩⟩
      · obtain ⟨hr, hl3, hl4, hk4⟩ := fin (some .ret) W3 hk3
        exact ⟨_, _, hr, .inr ⟨rfl, hIx _ _ _ _ _ hi3 (by omega) hl3 rfl, hl4, hk4⟩⟩
    · rintro e W2 ⟨⟨v, rfl⟩, (⟨hi, hl, hk⟩ | ⟨pre, hSp, hi, hl, hk⟩)⟩
      · exact ⟨none, _, by have := run_endLoop (P := Tryd.prog) hl (by rw [hrec]; simp); rw [hrec] at this; exact this, hdone _ _ (hI _ _ _ _ _ hi (by omega) hl rfl) ((World.putObj_heap_other (by omega)).trans hk) (Nat.le_refl _)⟩
      · exact ⟨some .ret, _, by have := run_endLoop (P := Tryd.prog) hl (by rw [hrec]; simp); rw [hrec] at this; exact this, hstop _ pre _ hSp (hIx _ _ _ _ _ hi (by omega) hl rfl) ((World.putObj_heap_other (by omega)).trans hk) (Nat.le_refl _)⟩

set_option maxHeartbeats 1000000 in
theorem splitSeq_w (s sep : ByteArray) (w : World) :
    Calls Tryd.prog 14 #[.string s, .string sep, .int .i64 0] w fun e w' => e = .returned (.func (.func 22) #[] #[.pointer (some ⟨w.heap.size + 1, 0, none⟩), .pointer (some ⟨w.heap.size, 0, none⟩), .pointer (some ⟨w.heap.size + 1 + 1, 0, none⟩)]) ∧
      w' = ((w.alloc (.cells #[.string s] 9)).alloc (.cells #[.string sep] 9)).alloc (.cells #[.int .i64 0] 3) := by
  go_enter Tryd.func14, Tryd.ntmps14
  go_wp2
  go_ret
  exact ⟨rfl, rfl⟩

set_option maxHeartbeats 1000000 in
theorem SplitSeq_w (s sep : ByteArray) (w : World) :
    Calls Tryd.prog 9 #[.string s, .string sep] w fun e w' => e = .returned (.func (.func 22) #[] #[.pointer (some ⟨w.heap.size + 1, 0, none⟩), .pointer (some ⟨w.heap.size, 0, none⟩), .pointer (some ⟨w.heap.size + 1 + 1, 0, none⟩)]) ∧
      w' = ((w.alloc (.cells #[.string s] 9)).alloc (.cells #[.string sep] 9)).alloc (.cells #[.int .i64 0] 3) := by
  go_enter Tryd.func9, Tryd.ntmps9
  go_wp2_with (go_at_call 14; refine (splitSeq_w _ _ _).mono ?_; rintro e w' ⟨rfl, rfl⟩)
  go_ret
  exact ⟨rfl, rfl⟩

theorem picksOf_snoc (x : List UInt8) : ∀ pre : List (List UInt8), picksOf (pre ++ [x]) = match picksOf pre with
    | none => none
    | some l => if pickOf x = 24 then none else some (l ++ [(pickOf x : Int)])
  | [] => by
    show (if pickOf x = 24 then none else _) = if pickOf x = 24 then none else _
    rfl
  | y :: pre => by
    rw [List.cons_append]
    unfold picksOf
    by_cases hy : pickOf y = 24
    · rw [if_pos hy, if_pos hy]
    · rw [if_neg hy, if_neg hy, picksOf_snoc x pre]
      cases picksOf pre with
      | none => rfl
      | some l =>
        dsimp only [Option.map]
        by_cases hx : pickOf x = 24
        · rw [if_pos hx, if_pos hx]
        · rw [if_neg hx, if_neg hx]; rfl

theorem picksOf_none (pre t : List (List UInt8)) (h : picksOf pre = none) : picksOf (pre ++ t) = none := by
  induction t generalizing pre with
  | nil => rw [List.append_nil]; exact h
  | cons x t ih =>
    rw [show pre ++ x :: t = (pre ++ [x]) ++ t by simp]
    exact ih _ (by rw [picksOf_snoc, h])

theorem picksOf_len (l : List (List UInt8)) : ∀ {r : List Int}, picksOf l = some r → r.length = l.length := by
  induction l with
  | nil => intro r h; cases h; rfl
  | cons x l ih =>
    intro r h
    unfold picksOf at h
    split at h
    · cases h
    · cases hp : picksOf l with
      | none => rw [hp] at h; cases h
      | some q => rw [hp] at h; cases h; rw [List.length_cons, List.length_cons, ih hp]

theorem pickOf_eq {x : List UInt8} {k : Nat} (hk : k ≤ 24) (h : ∀ j : Nat, j < k → (nameOf (j : Int)).data.toList ≠ x) (he : k = 24 ∨ (nameOf (k : Int)).data.toList = x) : pickOf x = k := by
  unfold pickOf
  by_cases h24 : k = 24
  · subst h24
    have : ((List.range 24).find? fun (i : Nat) => decide ((nameOf (i : Int)).data.toList = x)) = none := by
      rw [List.find?_eq_none]
      intro j hj
      rw [List.mem_range] at hj
      simpa using h j hj
    rw [this]; rfl
  · have : ((List.range 24).find? fun (i : Nat) => decide ((nameOf (i : Int)).data.toList = x)) = some k := by
      rw [List.find?_range_eq_some]
      refine ⟨by simpa using he.resolve_left h24, by rw [List.mem_range]; omega, fun j hj => by simpa using h j hj⟩
    rw [this]; rfl

def PI (w : World) (pre : List (List UInt8)) (W : World) : Prop := ∃ l, picksOf pre = some l ∧ Boxed W w.heap.size 23 (.slice none 0 0) ∧ Boxed W (w.heap.size + 1) 4 (.bool false) ∧
  (∃ v, Boxed W (w.heap.size + 1 + 1) 23 v ∧ W.ownsRow (w.heap.size + 6) 3 1 v l.length (l.map (Value.int .i64))) ∧ Below w.heap.size w W ∧ w.heap.size + 6 ≤ W.heap.size

theorem ownsRow_low {W : World} {b b' : Nat} {e : TypeId} {size : Nat} {v : Value} {k : Nat} {xs : List Value} (h : W.ownsRow b e size v k xs) (hb : b' ≤ b) : W.ownsRow b' e size v k xs :=
  ⟨h.1, h.2.imp id fun ⟨g, cap, cur, q1, q2, q3⟩ => ⟨g, cap, cur, q1, by omega, q3⟩⟩

def PIx (w : World) (pre : List (List UInt8)) (W : World) : Prop := picksOf pre = none ∧ Boxed W w.heap.size 23 (.slice none 0 0) ∧ Boxed W (w.heap.size + 1) 4 (.bool false) ∧ Below w.heap.size w W

theorem Boxed.notCells {W : World} {j : Nat} {o : Obj} (h1 : W.heap[j]? = some o) (h2 : o.isCells = false) {k : Nat} {t : TypeId} {v : Value} (h3 : Boxed W k t v) : some k ≠ some j := by
  intro e
  obtain rfl : k = j := Option.some.inj e
  rw [show W.heap[k]? = _ from h3] at h1
  cases h1; cases h2

theorem Below.put {B : Nat} {w W : World} {j : Nat} (o : Obj) (h : Below B w W) (hj : B ≤ j) (hlt : j < W.heap.size) : Below B w (W.putObj j o) :=
  h.trans ((Below.refl B W).grown (grownBy_putObj' W j o) (by have := h.size; omega) (fun k e => by cases e; exact hj))

theorem PI.put {w : World} {pre : List (List UInt8)} {W : World} {j : Nat} {o : Obj} (o' : Obj) (h : PI w pre W) (hj : w.heap.size ≤ j) (h1 : W.heap[j]? = some o) (h2 : o.isCells = false) : PI w pre (W.putObj j o') := by
  obtain ⟨l, a1, a2, a3, ⟨v, a4, a5⟩, a6, a7⟩ := h
  have hlt : j < W.heap.size := (Array.getElem?_eq_some_iff.1 h1).1
  exact ⟨l, a1, a2.kept (grownBy_putObj' W j o') (Boxed.notCells h1 h2 a2), a3.kept (grownBy_putObj' W j o') (Boxed.notCells h1 h2 a3), ⟨v, a4.kept (grownBy_putObj' W j o') (Boxed.notCells h1 h2 a4), ownsRow_putObj a5 o' h1 h2⟩, Below.put o' a6 hj hlt, by simpa using a7⟩

theorem PIx.put {w : World} {pre : List (List UInt8)} {W : World} {j : Nat} {o : Obj} (o' : Obj) (h : PIx w pre W) (hj : w.heap.size ≤ j) (h1 : W.heap[j]? = some o) (h2 : o.isCells = false) : PIx w pre (W.putObj j o') := by
  obtain ⟨a1, a2, a3, a6⟩ := h
  have hlt : j < W.heap.size := (Array.getElem?_eq_some_iff.1 h1).1
  exact ⟨a1, a2.kept (grownBy_putObj' W j o') (Boxed.notCells h1 h2 a2), a3.kept (grownBy_putObj' W j o') (Boxed.notCells h1 h2 a3), Below.put o' a6 hj hlt⟩

theorem PI.grown {w : World} {pre : List (List UInt8)} {W W' : World} (h : PI w pre W) (hg : W.grownBy W' none) (hb : Below w.heap.size w W') : PI w pre W' := by
  obtain ⟨l, a1, a2, a3, ⟨v, a4, a5⟩, a6, a7⟩ := h
  refine ⟨l, a1, a2.kept hg (by simp), a3.kept hg (by simp), ⟨v, a4.kept hg (by simp), a5.kept hg ?_⟩, hb, by have := hg.size; omega⟩
  rcases a5.2 with ⟨rfl, _⟩ | ⟨g, cap, cur, rfl, _⟩
  · exact .inl rfl
  · exact .inr (by simp [Value.ownBlock])

theorem PI.set {w : World} {pre : List (List UInt8)} {W : World} {B : Nat} {c : Value} (c' : Value) (h : PI w pre W) (hB : w.heap.size + 1 + 1 < B) (hb : Boxed W B 9 c) : PI w pre (W.setCell ⟨B, 0, none⟩ c') := by
  obtain ⟨l, a1, a2, a3, ⟨v, a4, a5⟩, a6, a7⟩ := h
  have hg := grownBy_setCell' W B c'
  refine ⟨l, a1, a2.kept hg (by simp; omega), a3.kept hg (by simp; omega), ⟨v, a4.kept hg (by simp; omega), a5.kept hg (.inr (hb.not_row (by decide) a5).symm)⟩, a6.setCell (p := ⟨B, 0, none⟩) (by simp; omega) c', by have := hg.size; omega⟩

theorem results_two (tmps : Array Value) (W : World) (b c : Nat) (u v : Value) (h1 : tmps.getD 2 undef = .pointer (some ⟨b, 0, none⟩)) (h2 : tmps.getD 3 undef = .pointer (some ⟨c, 0, none⟩)) (hu : W.cell? ⟨b, 0, none⟩ = some u) (hv : W.cell? ⟨c, 0, none⟩ = some v) :
    (results Tryd.f6 tmps).run Tryd.prog W = .ok (.tuple #[u, v]) W := by
  have a22 : ∀ w, (isAgg 23).run Tryd.prog w = .ok false w := fun w => by kernel_rfl
  have a4 : ∀ w, (isAgg 4).run Tryd.prog w = .ok false w := fun w => by kernel_rfl
  have := Jq.run_results (fn := Tryd.f6) (tmps := tmps) (us := [u, v]) (P := Tryd.prog) (w := W) (by
    show (List.mapM (Jq.readR tmps) [.cell 2 23, .cell 3 4]).run _ _ = _
    simp [Jq.readR, h1, h2, asAddr, loadVar, a22, a4, hu, hv])
  rw [this]
  rfl

set_option maxHeartbeats 4000000 in
set_option maxRecDepth 100000 in
theorem Parse_w (s : ByteArray) (w : World) (hs : s.size ≤ 4611686018427387904) (h0 : s.size ≠ 0) (hb : ((parts s.data.toList).length + 1) * 8 ≤ 140737488355328)
    (hN : ∀ (i : Nat) (W : World), i < 24 → Below w.heap.size w W → Calls Tryd.prog 10 #[.int .i64 i] W fun e W' => e = .returned (.string (nameOf i)) ∧ Below W.heap.size W W') :
    Calls Tryd.prog 6 #[.string s] w (PPost 3 s w) := by
  refine (callsIn_wide (n := 5)).1 ?_
  refine callsIn_of_wp_marks Tryd.func6 rfl trivial ?_ rfl
  simp only [Tryd.ntmps6, List.size_toArray, List.length_cons, List.length_nil, Nat.reduceAdd, Nat.reduceSub, Array.replicate_succ, Array.replicate_zero, List.push_toArray, List.append_toArray, List.nil_append, List.cons_append]
  have hne : (s.toList == []) = false := by
    rw [Lib.toList_data]
    cases h : s.data.toList with
    | nil => exact absurd (show s.data.toList.length = 0 by rw [h]; rfl) h0
    | cons a t => rfl
  gi_wp2_with (first
    | (refine ⟨trivial, ?_⟩; gi_at_call 9; refine ((callsIn_wide (n := 5 - 1)).2 (SplitSeq_w _ _ _)).mono ?_; rintro e w' ⟨rfl, rfl⟩)
    | gi_in)
  obtain ⟨W0, hW0⟩ : ∃ W0, ((((((w.alloc (.cells #[.slice none 0 0] 23)).alloc (.cells #[.bool false] 4)).alloc (.cells #[.slice none 0 0] 23)).alloc (.cells #[.string s] 9)).alloc (.cells #[.string ⟨#[32]⟩] 9)).alloc (.cells #[.int .i64 0] 3)) = W0 := ⟨_, rfl⟩
  rw [hW0]
  have q0 : Boxed W0 w.heap.size 23 (.slice none 0 0) := by
    rw [← hW0]; exact (((((Boxed.new w 23 _).alloc _).alloc _).alloc _).alloc _).alloc _
  have q1 : Boxed W0 (w.heap.size + 1) 4 (.bool false) := by
    rw [← hW0]; have := Boxed.new (w.alloc (.cells #[.slice none 0 0] 23)) 4 (.bool false); rw [World.size_alloc] at this
    exact ((((this).alloc _).alloc _).alloc _).alloc _
  have q2 : Boxed W0 (w.heap.size + 1 + 1) 23 (.slice none 0 0) := by
    rw [← hW0]; have := Boxed.new ((w.alloc (.cells #[.slice none 0 0] 23)).alloc (.cells #[.bool false] 4)) 23 (.slice none 0 0); rw [World.size_alloc, World.size_alloc] at this
    exact (((this).alloc _).alloc _).alloc _
  have q3 : Boxed W0 (w.heap.size + 1 + 1 + 1) 9 (.string s) := by
    rw [← hW0]; have := Boxed.new (((w.alloc (.cells #[.slice none 0 0] 23)).alloc (.cells #[.bool false] 4)).alloc (.cells #[.slice none 0 0] 23)) 9 (.string s); rw [World.size_alloc, World.size_alloc, World.size_alloc] at this
    exact ((this).alloc _).alloc _
  have q4 : Boxed W0 (w.heap.size + 1 + 1 + 1 + 1) 9 (.string ⟨#[32]⟩) := by
    rw [← hW0]; have := Boxed.new ((((w.alloc (.cells #[.slice none 0 0] 23)).alloc (.cells #[.bool false] 4)).alloc (.cells #[.slice none 0 0] 23)).alloc (.cells #[.string s] 9)) 9 (.string ⟨#[32]⟩); rw [World.size_alloc, World.size_alloc, World.size_alloc, World.size_alloc] at this
    exact (this).alloc _
  have q5 : Boxed W0 (w.heap.size + 1 + 1 + 1 + 1 + 1) 3 (.int .i64 0) := by
    rw [← hW0]; have := Boxed.new (((((w.alloc (.cells #[.slice none 0 0] 23)).alloc (.cells #[.bool false] 4)).alloc (.cells #[.slice none 0 0] 23)).alloc (.cells #[.string s] 9)).alloc (.cells #[.string ⟨#[32]⟩] 9)) 3 (.int .i64 0); rw [World.size_alloc, World.size_alloc, World.size_alloc, World.size_alloc, World.size_alloc] at this
    exact this
  have qB : Below w.heap.size w W0 := by
    rw [← hW0]
    exact ((((((Below.refl w.heap.size w).alloc (by simp) _).alloc (by simp) _).alloc (by simp; omega) _).alloc (by simp; omega) _).alloc (by simp; omega) _).alloc (by simp; omega) _
  have qs : W0.heap.size = w.heap.size + 6 := by rw [← hW0]; simp
  clear hW0
  refine wp_range (n := 5) (by omega) (lb := #[.pointer (some ⟨w.heap.size + 1 + 1 + 1 + 1, 0, none⟩), .pointer (some ⟨w.heap.size + 1 + 1 + 1, 0, none⟩), .pointer (some ⟨w.heap.size + 1 + 1 + 1 + 1 + 1, 0, none⟩)]) rfl rfl (PI w) (PIx w)
    (fun W o hb h => h.grown (World.grownBy_alloc W o none) (qB.trans (((hb.trans (Below.refl _ _)).mono (by omega)).alloc (by have := hb.size; omega) o)))
    (fun pre W j o o' h hj h1 h2 => h.put o' (by omega) h1 h2) (fun pre W j o o' h hj h1 h2 => h.put o' (by omega) h1 h2)
    ⟨[], rfl, q0, q1, ⟨_, q2, World.ownsRow_nil _ _ _ _⟩, qB, by omega⟩ (w.heap.size + 1 + 1 + 1) (w.heap.size + 1 + 1 + 1 + 1) (w.heap.size + 1 + 1 + 1 + 1 + 1) (parts s.data.toList)
    (fun pre W c c' h hb => h.set _ (by omega) hb)
    (fun l W1 J Jx hg hJs hY h0 => iter_in (5 - 1) (by omega) l _ _ _ (by omega) (by omega) J Jx hJs s hY W1 hs (q3.kept hg (by simp)) (q4.kept hg (by simp)) (q5.kept hg (by simp)) h0)
    (fun x => { tmps := #[.string s, undef, .pointer (some ⟨w.heap.size, 0, none⟩), .pointer (some ⟨w.heap.size + 1, 0, none⟩), .pointer (some ⟨w.heap.size + 1 + 1, 0, none⟩), .string x, undef, .string s, .bool false, .string s,
      .func (.func 22) #[] #[.pointer (some ⟨w.heap.size + 1 + 1 + 1 + 1, 0, none⟩), .pointer (some ⟨w.heap.size + 1 + 1 + 1, 0, none⟩), .pointer (some ⟨w.heap.size + 1 + 1 + 1 + 1 + 1, 0, none⟩)],
      .string x, undef, undef, undef, undef, undef, undef, undef, undef, undef, undef, undef, undef, undef, undef, undef, undef, undef], defers := [] }) ?assign ?body ?done ?stop
  case assign =>
    intro l x W K hK
    gi_wp2
    exact hK
  case body =>
    rintro l pre x W hpre ⟨l', hl', c0, c1, ⟨v, c2, hrow⟩, hB, hsz⟩
    have hd : 1 ≤ 5 - 1 - 1 := by omega
    have hlen : l'.length + 1 ≤ (parts s.data.toList).length := by
      have := hpre.length_le
      rw [List.length_append, List.length_singleton] at this
      rw [picksOf_len _ hl']; exact this
    have box : ∀ {W' : World} {B : Nat} {t : TypeId} {v : Value}, Below W.heap.size W W' → Boxed W B t v → Boxed W' B t v := fun h b => (h.block _ b.lt).trans b
    have keep : ∀ {W' : World}, Below W.heap.size W W' → KeepsOthers W W' := fun h => ⟨h.size, fun k o hk _ => (h.block k (Array.getElem?_eq_some_iff.1 hk).1).trans hk⟩
    have grow : ∀ {W' : World}, Below W.heap.size W W' → W.grownBy W' none := fun h => ⟨h.os, h.tape, h.output, h.size, fun k hk _ => h.block k hk⟩
    obtain ⟨i0, hi, hz0, hz1, hz2⟩ := info_parts (show (Tryd.prog.info? 3).map (fun i => (i.zero, i.size, i.bytes)) = some (some (.int .i64 0), 1, 8) by kernel_rfl)
    gi_wp2
    gi_loopw [6] (fun iv wr => ∃ k : Nat, iv = .int .i64 k ∧ k ≤ 24 ∧ (∀ j : Nat, j < k → (nameOf (j : Int)).data.toList ≠ x.data.toList) ∧ Below W.heap.size W wr) (fun iv _ => (24 - intOf iv).toNat)
    case atStart =>
      exact ⟨0, rfl, by omega, fun j hj => by omega, Below.refl _ _⟩
    case round =>
      obtain ⟨k, rfl, hk, hno, hb⟩ := hrel
      by_cases h24 : k = 24
      · subst h24
        have d0 := (box hb c0).cell; have f0 := (box hb c0).frozen; have d1 := (box hb c1).cell; have f1 := (box hb c1).frozen
        gi_wp2_with (first
          | (refine ⟨trivial, ?_⟩; gi_at_call 10; refine (CallsIn.inRound l ((callsIn_wide (n := 5 - 1 - 1 - 1)).2 (hN 24 _ (by omega) (hB.trans (hb.mono hB.size))))).mono ?_; rintro e w' ⟨rfl, hb'⟩)
          | gi_in)
        refine ⟨trivial, ?_⟩
        gi_wp2
        have p1 := grownBy_setCell' wr w.heap.size (.slice none 0 0)
        have p2 := grownBy_setCell' (wr.setCell ⟨w.heap.size, 0, none⟩ (.slice none 0 0)) (w.heap.size + 1) (.bool false)
        refine ⟨((keep hb).trans (KeepsOthers.setCell _ _ _)).trans (KeepsOthers.setCell _ _ _), fun k t v hk b => ((box hb b).kept p1 (by simp; omega)).kept p2 (by simp; omega), ?_, ((box hb c0).set _).kept p2 (by simp), ((box hb c1).kept p1 (by simp)).set _, ?_⟩
        · rw [picksOf_snoc, hl']
          dsimp only
          rw [if_pos (pickOf_eq (Nat.le_refl 24) hno (.inl rfl))]
        · exact ((hB.trans (hb.mono hB.size)).setCell (p := ⟨w.heap.size, 0, none⟩) (by simp) _).setCell (p := ⟨w.heap.size + 1, 0, none⟩) (by simp) _
      · have hk4 : k < 24 := by omega
        have hw1 : wrap64 ((k : Int) + 1) = ((k + 1 : Nat) : Int) := wrap_in (by omega) (by omega)
        have hk5 : ((k : Int) == 24) = false := by rw [beq_eq_false_iff_ne]; omega
        by_cases hx : (nameOf (k : Int)).data.toList = x.data.toList
        · have hx2 : ((nameOf (k : Int)).toList == x.toList) = true := by rw [Lib.toList_data, Lib.toList_data, hx]; simp
          gi_wp2_with (first
            | (refine ⟨trivial, ?_⟩; gi_at_call 10; refine (CallsIn.inRound l ((callsIn_wide (n := 5 - 1 - 1 - 1)).2 (hN k _ hk4 (hB.trans (hb.mono hB.size))))).mono ?_; rintro e w' ⟨rfl, hb'⟩; have hbb := hb.trans (hb'.mono hb.size); have d2 := (box hbb c2).cell; have f2 := (box hbb c2).frozen; have hrow2 := hrow.kept (grow hbb) (by rcases hrow.2 with ⟨rfl, _⟩ | ⟨g, cap, cur, rfl, _⟩; exact .inl rfl; exact .inr (by simp [Value.ownBlock])))
            | (gi_at_builtin; refine wpListIn_append_own _ rfl _ _ 23 rfl (w.heap.size + 6) 3 i0 (.int .i64 0) 1 8 Tryd.underlying23 hi hz0 hz1 hz2 rfl (by decide) _ _ _ rfl (hrow2.alloc _) ⟨_, 0, none⟩ 1 1 [.int .i64 k] rfl rfl (cell_one_new _ _ _) (by simp [Value.oneCell']) (by unfold maxLen; omega) (by omega) (by have := hbb.size; simp; omega) ?_; intro v' w1 hown' hgrow _; obtain ⟨g', cap', rfl⟩ := ownsRow_succ hown'; obtain ⟨hv1, hv2, hr2, hk2, hb2⟩ := (box hbb c2).appended (by decide) (ownsRow_low hrow2 (show w.heap.size ≤ _ by omega)) (by have := hbb.size; omega) (by omega) (ownsRow_low hown' (show w.heap.size ≤ _ by omega)) hgrow; have hc1 := hv1.cell; have hf1 := hv1.frozen)
            | gi_in)
          have rowLt : ∀ j, v.ownBlock = some j → w.heap.size + 6 ≤ j := fun j e => (hrow.lt j e).1
          have oth : ∀ {B : Nat} {t : TypeId} {u : Value}, Boxed W B t u → B < w.heap.size + 6 → B ≠ w.heap.size + 1 + 1 → Boxed (w1.setCell ⟨w.heap.size + 1 + 1, 0, none⟩ (.slice (some ⟨g', 0, none⟩) (l'.length + 1) cap')) B t u := fun {B t u} b h1 h2 =>
            (((box hbb b).alloc _).kept hgrow (fun e => by have := rowLt B e.symm; omega)).kept (grownBy_setCell' _ _ _) (by simpa using h2)
          refine ⟨(keep hbb).trans hk2, fun k t v hk b => oth b (by omega) (by omega), ⟨l' ++ [(k : Int)], ?_, oth c0 (by omega) (by omega), oth c1 (by omega) (by omega), ⟨_, hv2, ?_⟩, (hB.trans (hbb.mono hB.size)).trans hb2, ?_⟩⟩
          · rw [picksOf_snoc, hl']
            dsimp only
            rw [if_neg (by rw [pickOf_eq hk hno (.inr hx)]; exact h24), pickOf_eq hk hno (.inr hx)]
          · have hr3 := hown'.kept (grownBy_setCell' w1 (w.heap.size + 1 + 1) (.slice (some ⟨g', 0, none⟩) (l'.length + 1) cap')) (.inr (hv1.not_row (by decide) hown').symm)
            rw [List.length_append, List.length_singleton, List.map_append]
            exact hr3
          · have := hb2.size; have := hbb.size; omega
        · have hx2 : ((nameOf (k : Int)).toList == x.toList) = false := by rw [Lib.toList_data, Lib.toList_data, beq_eq_false_iff_ne]; exact hx
          gi_wp2_with (first
            | (refine ⟨trivial, ?_⟩; gi_at_call 10; refine (CallsIn.inRound l ((callsIn_wide (n := 5 - 1 - 1 - 1)).2 (hN k _ hk4 (hB.trans (hb.mono hB.size))))).mono ?_; rintro e w' ⟨rfl, hb'⟩)
            | gi_in)
          refine ⟨⟨k + 1, rfl, by omega, fun j hj => ?_, hb.trans (hb'.mono hb.size)⟩, ?_⟩
          · rcases Nat.lt_or_ge j k with c | c
            · exact hno j c
            · obtain rfl : j = k := by omega
              exact hx
          · show (24 - ((k : Int) + 1)).toNat < (24 - (k : Int)).toNat
            omega
  case done =>
    rintro D W ⟨l', hl', c0, c1, ⟨v, c2, hrow⟩, hB, hsz⟩ hK hD
    have d0 := c0.cell; have f0 := c0.frozen; have d1 := c1.cell; have f1 := c1.frozen; have d2 := c2.cell; have f2 := c2.frozen
    have p1 := grownBy_setCell' W w.heap.size v
    have p2 := grownBy_setCell' (W.setCell ⟨w.heap.size, 0, none⟩ v) (w.heap.size + 1) (.bool true)
    have e0 := ((c0.set v).kept p2 (by simp)).cell
    have e1 := ((c1.kept p1 (by simp)).set (.bool true)).cell
    have hb2 := (hB.setCell (p := ⟨w.heap.size, 0, none⟩) (by simp) v).setCell (p := ⟨w.heap.size + 1, 0, none⟩) (by simp) (.bool true)
    have hr2 := ((ownsRow_low hrow (show w.heap.size ≤ _ by omega)).kept p1 (by
      rcases h : v.ownBlock with _ | j
      · exact .inl rfl
      · exact .inr (by have := (hrow.lt j h).1; simp; omega))).kept p2 (by
      rcases h : v.ownBlock with _ | j
      · exact .inl rfl
      · exact .inr (by have := (hrow.lt j h).1; simp; omega))
    have hK2 : ((W.setCell ⟨w.heap.size, 0, none⟩ v).setCell ⟨w.heap.size + 1, 0, none⟩ (.bool true)).heap[D]? = some (.deferred (some [])) := ((KeepsOthers.setCell _ _ _).trans (KeepsOthers.setCell _ _ _)).same D _ hK rfl
    have hDlt := (Array.getElem?_eq_some_iff.1 hK2).1
    have hv : ∃ a b c, v = .slice a b c := by
      rcases hrow.2 with ⟨rfl, _⟩ | ⟨g, cap, cur, rfl, _⟩
      · exact ⟨_, _, _, rfl⟩
      · exact ⟨_, _, _, rfl⟩
    obtain ⟨a, b, c, rfl⟩ := hv
    dsimp only
    gi_wp2
    refine ⟨by simp, .inl ⟨_, _, rfl, run_takeDeferred hK2, ?_⟩⟩
    have pD := grownBy_putObj' ((W.setCell ⟨w.heap.size, 0, none⟩ (.slice a b c)).setCell ⟨w.heap.size + 1, 0, none⟩ (.bool true)) D (.deferred none)
    refine ⟨_, results_two _ _ _ _ _ _ rfl rfl (((((c0.set _).kept p2 (by simp))).kept pD (by simp; omega)).cell) ((((c1.kept p1 (by simp)).set _).kept pD (by simp; omega)).cell), ?_⟩
    unfold PPost
    rw [hl']
    exact ⟨Below.put _ hb2 (by omega) hDlt, _, rfl, ownsRow_putObj hr2 _ hK2 rfl⟩
  case stop =>
    rintro D pre W hpre ⟨hn', c0, c1, hB⟩ hK hD
    have d0 := c0.cell; have f0 := c0.frozen; have d1 := c1.cell; have f1 := c1.frozen
    dsimp only
    gi_wp2
    refine ⟨by simp, .inl ⟨_, _, rfl, run_takeDeferred hK, ?_⟩⟩
    have pD := grownBy_putObj' W D (.deferred none)
    refine ⟨_, results_two _ _ _ _ _ _ rfl rfl ((c0.kept pD (by simp; omega)).cell) ((c1.kept pD (by simp; omega)).cell), ?_⟩
    obtain ⟨t, ht⟩ := hpre
    unfold PPost
    rw [← ht, picksOf_none _ _ hn']
    exact ⟨Below.put _ hB (by omega) (Array.getElem?_eq_some_iff.1 hK).1, rfl⟩

set_option maxHeartbeats 1000000 in
set_option maxRecDepth 100000 in
theorem Parse_w0 (s : ByteArray) (w : World) (h0 : s.size = 0) : Calls Tryd.prog 6 #[.string s] w fun e w' => Below w.heap.size w w' ∧ e = .returned (.tuple #[.slice none 0 0, .bool true]) := by
  refine (callsIn_wide (n := 5)).1 ?_
  refine callsIn_of_wp_marks Tryd.func6 rfl trivial ?_ rfl
  simp only [Tryd.ntmps6, List.size_toArray, List.length_cons, List.length_nil, Nat.reduceAdd, Nat.reduceSub, Array.replicate_succ, Array.replicate_zero, List.push_toArray, List.append_toArray, List.nil_append, List.cons_append]
  have hne : (s.toList == []) = true := by
    rw [Lib.toList_data]
    cases h : s.data.toList with
    | nil => rfl
    | cons a t => exact absurd (show s.data.toList.length = 0 from h0) (by rw [h]; simp)
  gi_wp2_with gi_in
  have n0 : Boxed ((w.alloc (.cells #[.slice none 0 0] 23)).alloc (.cells #[.bool true] 4)) w.heap.size 23 (.slice none 0 0) := (Boxed.new w 23 _).alloc _
  have n1 : Boxed ((w.alloc (.cells #[.slice none 0 0] 23)).alloc (.cells #[.bool true] 4)) (w.heap.size + 1) 4 (.bool true) := by
    have := Boxed.new (w.alloc (.cells #[.slice none 0 0] 23)) 4 (.bool true); rwa [World.size_alloc] at this
  exact ⟨_, results_two _ _ _ _ _ _ rfl rfl n0.cell n1.cell, ((Below.refl w.heap.size w).alloc (by simp) _).alloc (by simp) _, rfl⟩

end PX
end Go.Proofs

/- The seat: where the functions that are reached lie in the given program, and that each is the given one. -/
namespace Go.Proofs.YtlfhmbifgdhckaaDoor.LPlayTexts
open Go Jq

def seatFn : Nat → Nat
  | 17 => 39
  | 18 => 44
  | 19 => 68
  | 45 => 15
  | 46 => 25
  | 47 => 34
  | 48 => 52
  | 49 => 53
  | 50 => 54
  | 51 => 55
  | 80 => 72
  | 94 => 37
  | 102 => 56
  | 105 => 42
  | 106 => 73
  | 108 => 86
  | 109 => 70
  | 113 => 67
  | 114 => 66
  | 119 => 65
  | 124 => 88
  | 125 => 87
  | 139 => 91
  | 148 => 59
  | 155 => 60
  | 156 => 83
  | 158 => 57
  | 159 => 62
  | 163 => 84
  | 164 => 85
  | 167 => 10
  | 168 => 5
  | 171 => 26
  | 172 => 29
  | 173 => 27
  | 174 => 18
  | 175 => 17
  | 187 => 12
  | 188 => 35
  | 189 => 36
  | 190 => 38
  | 191 => 43
  | 192 => 45
  | 193 => 40
  | 194 => 41
  | 195 => 28
  | 200 => 58
  | 201 => 61
  | 202 => 63
  | 203 => 64
  | 204 => 75
  | 205 => 69
  | 206 => 71
  | 207 => 74
  | 260 => 6
  | 261 => 7
  | 262 => 8
  | 264 => 4
  | 271 => 11
  | 272 => 13
  | 278 => 16
  | _ => 0

def envFn : Nat → Option Jq.Fn
  | 17 => some set_Set_Has
  | 18 => some set_Set_With
  | 19 => some set_bit
  | 45 => some strconv_Itoa
  | 46 => some istrconv_Itoa
  | 47 => some istrconv_FormatInt
  | 48 => some istrconv_small
  | 80 => some event_Writes
  | 94 => some prog_Start
  | 102 => some prog_Size
  | 105 => some prog_Next
  | 106 => some prog_After
  | 108 => some prog_Value
  | 109 => some event_Of
  | 113 => some prog_thread
  | 114 => some prog_normal
  | 119 => some slices_Clone_sIns_Ins
  | 124 => some prog_set
  | 125 => some num_Do
  | 139 => some num_one
  | 148 => some well_Jumps
  | 155 => some slices_ContainsFunc_sIns_Ins
  | 156 => some slices_IndexFunc_sIns_Ins
  | 158 => some print_IsLoc
  | 159 => some print_Fields
  | 163 => some print_isOperand
  | 164 => some print_isReg
  | 167 => some vm_Name
  | 168 => some jacquardref16_Name
  | 171 => some vm_New
  | 172 => some vm_VM_Enabled
  | 173 => some vm_VM_Pick
  | 174 => some vm_VM_Done
  | 175 => some vm_VM_Steps
  | 187 => some jacquardlaw12_SB
  | 188 => some prog_Ok
  | 189 => some vm_copied
  | 190 => some buf_New
  | 191 => some buf_Buf_Empty
  | 192 => some buf_Buf_Oldest
  | 193 => some vm_VM_thread
  | 194 => some vm_VM_flush
  | 195 => some slices_Clone_sStep_Step
  | 200 => some prog_Ok_1
  | 201 => some prog_Ok_2
  | 202 => some slices_Clone_sbyte_byte
  | 203 => some slices_Clone_sint64_int64
  | 204 => some buf_Buf_oldest
  | 205 => some buf_Buf_Newest
  | 206 => some buf_Buf_Put
  | 207 => some buf_Buf_Drop
  | 261 => some jacquardlaw17_awake
  | 262 => some play_Text
  | 264 => some jacquardlaw17_PlayTexts
  | 271 => some play_Run
  | 278 => some play_run
  | _ => none

def seatTab : Nat → List Cell := fun _ => []
noncomputable def seat : Seat := { P := Tryd.prog, fn := seatFn, gl := fun _ => 5, tab := seatTab }
def env : Env := { fn := envFn, tab := seatTab, ext := ext17 }

theorem mixed : true = true → seat.P.follows .mixedOrders = true := fun _ => by kernel_rfl

theorem ok_17 : FnOk seat 17 set_Set_Has := ⟨⟨Tryd.f39, _, drK seat true, Tryd.func39, rfl, by kernel_rfl, by kernel_rfl, by kernel_rfl, by kernel_rfl, fun _ _ h => draw_sound mixed h⟩⟩
theorem ok_18 : FnOk seat 18 set_Set_With := ⟨⟨Tryd.f44, _, drK seat true, Tryd.func44, rfl, by kernel_rfl, by kernel_rfl, by kernel_rfl, by kernel_rfl, fun _ _ h => draw_sound mixed h⟩⟩
theorem ok_19 : FnOk seat 19 set_bit := ⟨⟨Tryd.f68, _, drK seat true, Tryd.func68, rfl, by kernel_rfl, by kernel_rfl, by kernel_rfl, by kernel_rfl, fun _ _ h => draw_sound mixed h⟩⟩
theorem ok_45 : FnOk seat 45 strconv_Itoa := ⟨⟨Tryd.f15, _, drK seat true, Tryd.func15, rfl, by kernel_rfl, by kernel_rfl, by kernel_rfl, by kernel_rfl, fun _ _ h => draw_sound mixed h⟩⟩
theorem ok_46 : FnOk seat 46 istrconv_Itoa := ⟨⟨Tryd.f25, _, drK seat true, Tryd.func25, rfl, by kernel_rfl, by kernel_rfl, by kernel_rfl, by kernel_rfl, fun _ _ h => draw_sound mixed h⟩⟩
theorem ok_47 : FnOk seat 47 istrconv_FormatInt := ⟨⟨Tryd.f34, _, drK seat true, Tryd.func34, rfl, by kernel_rfl, by kernel_rfl, by kernel_rfl, by kernel_rfl, fun _ _ h => draw_sound mixed h⟩⟩
theorem ok_48 : FnOk seat 48 istrconv_small := ⟨⟨Tryd.f52, _, drK seat true, Tryd.func52, rfl, by kernel_rfl, by kernel_rfl, by kernel_rfl, by kernel_rfl, fun _ _ h => draw_sound mixed h⟩⟩
theorem ok_80 : FnOk seat 80 event_Writes := ⟨⟨Tryd.f72, _, drK seat true, Tryd.func72, rfl, by kernel_rfl, by kernel_rfl, by kernel_rfl, by kernel_rfl, fun _ _ h => draw_sound mixed h⟩⟩
theorem ok_94 : FnOk seat 94 prog_Start := ⟨⟨Tryd.f37, _, drK seat true, Tryd.func37, rfl, by kernel_rfl, by kernel_rfl, by kernel_rfl, by kernel_rfl, fun _ _ h => draw_sound mixed h⟩⟩
theorem ok_102 : FnOk seat 102 prog_Size := ⟨⟨Tryd.f56, _, drK seat true, Tryd.func56, rfl, by kernel_rfl, by kernel_rfl, by kernel_rfl, by kernel_rfl, fun _ _ h => draw_sound mixed h⟩⟩
theorem ok_105 : FnOk seat 105 prog_Next := ⟨⟨Tryd.f42, _, drK seat true, Tryd.func42, rfl, by kernel_rfl, by kernel_rfl, by kernel_rfl, by kernel_rfl, fun _ _ h => draw_sound mixed h⟩⟩
theorem ok_106 : FnOk seat 106 prog_After := ⟨⟨Tryd.f73, _, drK seat true, Tryd.func73, rfl, by kernel_rfl, by kernel_rfl, by kernel_rfl, by kernel_rfl, fun _ _ h => draw_sound mixed h⟩⟩
theorem ok_108 : FnOk seat 108 prog_Value := ⟨⟨Tryd.f86, _, drK seat true, Tryd.func86, rfl, by kernel_rfl, by kernel_rfl, by kernel_rfl, by kernel_rfl, fun _ _ h => draw_sound mixed h⟩⟩
theorem ok_109 : FnOk seat 109 event_Of := ⟨⟨Tryd.f70, _, drK seat true, Tryd.func70, rfl, by kernel_rfl, by kernel_rfl, by kernel_rfl, by kernel_rfl, fun _ _ h => draw_sound mixed h⟩⟩
theorem ok_113 : FnOk seat 113 prog_thread := ⟨⟨Tryd.f67, _, drK seat true, Tryd.func67, rfl, by kernel_rfl, by kernel_rfl, by kernel_rfl, by kernel_rfl, fun _ _ h => draw_sound mixed h⟩⟩
theorem ok_114 : FnOk seat 114 prog_normal := ⟨⟨Tryd.f66, _, drK seat true, Tryd.func66, rfl, by kernel_rfl, by kernel_rfl, by kernel_rfl, by kernel_rfl, fun _ _ h => draw_sound mixed h⟩⟩
theorem ok_119 : FnOk seat 119 slices_Clone_sIns_Ins := ⟨⟨Tryd.f65, _, drK seat true, Tryd.func65, rfl, by kernel_rfl, by kernel_rfl, by kernel_rfl, by kernel_rfl, fun _ _ h => draw_sound mixed h⟩⟩
theorem ok_124 : FnOk seat 124 prog_set := ⟨⟨Tryd.f88, _, drK seat true, Tryd.func88, rfl, by kernel_rfl, by kernel_rfl, by kernel_rfl, by kernel_rfl, fun _ _ h => draw_sound mixed h⟩⟩
theorem ok_125 : FnOk seat 125 num_Do := ⟨⟨Tryd.f87, _, drK seat true, Tryd.func87, rfl, by kernel_rfl, by kernel_rfl, by kernel_rfl, by kernel_rfl, fun _ _ h => draw_sound mixed h⟩⟩
theorem ok_139 : FnOk seat 139 num_one := ⟨⟨Tryd.f91, _, drK seat true, Tryd.func91, rfl, by kernel_rfl, by kernel_rfl, by kernel_rfl, by kernel_rfl, fun _ _ h => draw_sound mixed h⟩⟩
theorem ok_148 : FnOk seat 148 well_Jumps := ⟨⟨Tryd.f59, _, drK seat true, Tryd.func59, rfl, by kernel_rfl, by kernel_rfl, by kernel_rfl, by kernel_rfl, fun _ _ h => draw_sound mixed h⟩⟩
theorem ok_155 : FnOk seat 155 slices_ContainsFunc_sIns_Ins := ⟨⟨Tryd.f60, _, drK seat true, Tryd.func60, rfl, by kernel_rfl, by kernel_rfl, by kernel_rfl, by kernel_rfl, fun _ _ h => draw_sound mixed h⟩⟩
theorem ok_156 : FnOk seat 156 slices_IndexFunc_sIns_Ins := ⟨⟨Tryd.f83, _, drK seat true, Tryd.func83, rfl, by kernel_rfl, by kernel_rfl, by kernel_rfl, by kernel_rfl, fun _ _ h => draw_sound mixed h⟩⟩
theorem ok_158 : FnOk seat 158 print_IsLoc := ⟨⟨Tryd.f57, _, drK seat true, Tryd.func57, rfl, by kernel_rfl, by kernel_rfl, by kernel_rfl, by kernel_rfl, fun _ _ h => draw_sound mixed h⟩⟩
theorem ok_159 : FnOk seat 159 print_Fields := ⟨⟨Tryd.f62, _, drK seat true, Tryd.func62, rfl, by kernel_rfl, by kernel_rfl, by kernel_rfl, by kernel_rfl, fun _ _ h => draw_sound mixed h⟩⟩
theorem ok_163 : FnOk seat 163 print_isOperand := ⟨⟨Tryd.f84, _, drK seat true, Tryd.func84, rfl, by kernel_rfl, by kernel_rfl, by kernel_rfl, by kernel_rfl, fun _ _ h => draw_sound mixed h⟩⟩
theorem ok_164 : FnOk seat 164 print_isReg := ⟨⟨Tryd.f85, _, drK seat true, Tryd.func85, rfl, by kernel_rfl, by kernel_rfl, by kernel_rfl, by kernel_rfl, fun _ _ h => draw_sound mixed h⟩⟩
theorem ok_167 : FnOk seat 167 vm_Name := ⟨⟨Tryd.f10, _, drK seat true, Tryd.func10, rfl, by kernel_rfl, by kernel_rfl, by kernel_rfl, by kernel_rfl, fun _ _ h => draw_sound mixed h⟩⟩
theorem ok_168 : FnOk seat 168 jacquardref16_Name := ⟨⟨Tryd.f5, _, drK seat true, Tryd.func5, rfl, by kernel_rfl, by kernel_rfl, by kernel_rfl, by kernel_rfl, fun _ _ h => draw_sound mixed h⟩⟩
theorem ok_171 : FnOk seat 171 vm_New := ⟨⟨Tryd.f26, _, drK seat true, Tryd.func26, rfl, by kernel_rfl, by kernel_rfl, by kernel_rfl, by kernel_rfl, fun _ _ h => draw_sound mixed h⟩⟩
theorem ok_172 : FnOk seat 172 vm_VM_Enabled := ⟨⟨Tryd.f29, _, drK seat true, Tryd.func29, rfl, by kernel_rfl, by kernel_rfl, by kernel_rfl, by kernel_rfl, fun _ _ h => draw_sound mixed h⟩⟩
theorem ok_173 : FnOk seat 173 vm_VM_Pick := ⟨⟨Tryd.f27, _, drK seat true, Tryd.func27, rfl, by kernel_rfl, by kernel_rfl, by kernel_rfl, by kernel_rfl, fun _ _ h => draw_sound mixed h⟩⟩
theorem ok_174 : FnOk seat 174 vm_VM_Done := ⟨⟨Tryd.f18, _, drK seat true, Tryd.func18, rfl, by kernel_rfl, by kernel_rfl, by kernel_rfl, by kernel_rfl, fun _ _ h => draw_sound mixed h⟩⟩
theorem ok_175 : FnOk seat 175 vm_VM_Steps := ⟨⟨Tryd.f17, _, drK seat true, Tryd.func17, rfl, by kernel_rfl, by kernel_rfl, by kernel_rfl, by kernel_rfl, fun _ _ h => draw_sound mixed h⟩⟩
theorem ok_187 : FnOk seat 187 jacquardlaw12_SB := ⟨⟨Tryd.f12, _, drK seat true, Tryd.func12, rfl, by kernel_rfl, by kernel_rfl, by kernel_rfl, by kernel_rfl, fun _ _ h => draw_sound mixed h⟩⟩
theorem ok_188 : FnOk seat 188 prog_Ok := ⟨⟨Tryd.f35, _, drK seat true, Tryd.func35, rfl, by kernel_rfl, by kernel_rfl, by kernel_rfl, by kernel_rfl, fun _ _ h => draw_sound mixed h⟩⟩
theorem ok_189 : FnOk seat 189 vm_copied := ⟨⟨Tryd.f36, _, drK seat true, Tryd.func36, rfl, by kernel_rfl, by kernel_rfl, by kernel_rfl, by kernel_rfl, fun _ _ h => draw_sound mixed h⟩⟩
theorem ok_190 : FnOk seat 190 buf_New := ⟨⟨Tryd.f38, _, drK seat true, Tryd.func38, rfl, by kernel_rfl, by kernel_rfl, by kernel_rfl, by kernel_rfl, fun _ _ h => draw_sound mixed h⟩⟩
theorem ok_191 : FnOk seat 191 buf_Buf_Empty := ⟨⟨Tryd.f43, _, drK seat true, Tryd.func43, rfl, by kernel_rfl, by kernel_rfl, by kernel_rfl, by kernel_rfl, fun _ _ h => draw_sound mixed h⟩⟩
theorem ok_192 : FnOk seat 192 buf_Buf_Oldest := ⟨⟨Tryd.f45, _, drK seat true, Tryd.func45, rfl, by kernel_rfl, by kernel_rfl, by kernel_rfl, by kernel_rfl, fun _ _ h => draw_sound mixed h⟩⟩
theorem ok_193 : FnOk seat 193 vm_VM_thread := ⟨⟨Tryd.f40, _, drK seat true, Tryd.func40, rfl, by kernel_rfl, by kernel_rfl, by kernel_rfl, by kernel_rfl, fun _ _ h => draw_sound mixed h⟩⟩
theorem ok_194 : FnOk seat 194 vm_VM_flush := ⟨⟨Tryd.f41, _, drK seat true, Tryd.func41, rfl, by kernel_rfl, by kernel_rfl, by kernel_rfl, by kernel_rfl, fun _ _ h => draw_sound mixed h⟩⟩
theorem ok_195 : FnOk seat 195 slices_Clone_sStep_Step := ⟨⟨Tryd.f28, _, drK seat true, Tryd.func28, rfl, by kernel_rfl, by kernel_rfl, by kernel_rfl, by kernel_rfl, fun _ _ h => draw_sound mixed h⟩⟩
theorem ok_200 : FnOk seat 200 prog_Ok_1 := ⟨⟨Tryd.f58, _, drK seat true, Tryd.func58, rfl, by kernel_rfl, by kernel_rfl, by kernel_rfl, by kernel_rfl, fun _ _ h => draw_sound mixed h⟩⟩
theorem ok_201 : FnOk seat 201 prog_Ok_2 := ⟨⟨Tryd.f61, _, drK seat true, Tryd.func61, rfl, by kernel_rfl, by kernel_rfl, by kernel_rfl, by kernel_rfl, fun _ _ h => draw_sound mixed h⟩⟩
theorem ok_202 : FnOk seat 202 slices_Clone_sbyte_byte := ⟨⟨Tryd.f63, _, drK seat true, Tryd.func63, rfl, by kernel_rfl, by kernel_rfl, by kernel_rfl, by kernel_rfl, fun _ _ h => draw_sound mixed h⟩⟩
theorem ok_203 : FnOk seat 203 slices_Clone_sint64_int64 := ⟨⟨Tryd.f64, _, drK seat true, Tryd.func64, rfl, by kernel_rfl, by kernel_rfl, by kernel_rfl, by kernel_rfl, fun _ _ h => draw_sound mixed h⟩⟩
theorem ok_204 : FnOk seat 204 buf_Buf_oldest := ⟨⟨Tryd.f75, _, drK seat true, Tryd.func75, rfl, by kernel_rfl, by kernel_rfl, by kernel_rfl, by kernel_rfl, fun _ _ h => draw_sound mixed h⟩⟩
theorem ok_205 : FnOk seat 205 buf_Buf_Newest := ⟨⟨Tryd.f69, _, drK seat true, Tryd.func69, rfl, by kernel_rfl, by kernel_rfl, by kernel_rfl, by kernel_rfl, fun _ _ h => draw_sound mixed h⟩⟩
theorem ok_206 : FnOk seat 206 buf_Buf_Put := ⟨⟨Tryd.f71, _, drK seat true, Tryd.func71, rfl, by kernel_rfl, by kernel_rfl, by kernel_rfl, by kernel_rfl, fun _ _ h => draw_sound mixed h⟩⟩
theorem ok_207 : FnOk seat 207 buf_Buf_Drop := ⟨⟨Tryd.f74, _, drK seat true, Tryd.func74, rfl, by kernel_rfl, by kernel_rfl, by kernel_rfl, by kernel_rfl, fun _ _ h => draw_sound mixed h⟩⟩
theorem ok_261 : FnOk seat 261 jacquardlaw17_awake := ⟨⟨Tryd.f7, _, drK seat true, Tryd.func7, rfl, by kernel_rfl, by kernel_rfl, by kernel_rfl, by kernel_rfl, fun _ _ h => draw_sound mixed h⟩⟩
theorem ok_262 : FnOk seat 262 play_Text := ⟨⟨Tryd.f8, _, drK seat true, Tryd.func8, rfl, by kernel_rfl, by kernel_rfl, by kernel_rfl, by kernel_rfl, fun _ _ h => draw_sound mixed h⟩⟩
theorem ok_264 : FnOk seat 264 jacquardlaw17_PlayTexts := ⟨⟨Tryd.f4, _, drK seat true, Tryd.func4, rfl, by kernel_rfl, by kernel_rfl, by kernel_rfl, by kernel_rfl, fun _ _ h => draw_sound mixed h⟩⟩
theorem ok_271 : FnOk seat 271 play_Run := ⟨⟨Tryd.f11, _, drK seat true, Tryd.func11, rfl, by kernel_rfl, by kernel_rfl, by kernel_rfl, by kernel_rfl, fun _ _ h => draw_sound mixed h⟩⟩
theorem ok_278 : FnOk seat 278 play_run := ⟨⟨Tryd.f16, _, drK seat true, Tryd.func16, rfl, by kernel_rfl, by kernel_rfl, by kernel_rfl, by kernel_rfl, fun _ _ h => draw_sound mixed h⟩⟩

theorem allOk : ∀ g fn, env.fn g = some fn → FnOk seat g fn := by
  intro g fn h
  unfold env envFn at h
  dsimp only at h
  split at h
  · cases h; exact ok_17
  · cases h; exact ok_18
  · cases h; exact ok_19
  · cases h; exact ok_45
  · cases h; exact ok_46
  · cases h; exact ok_47
  · cases h; exact ok_48
  · cases h; exact ok_80
  · cases h; exact ok_94
  · cases h; exact ok_102
  · cases h; exact ok_105
  · cases h; exact ok_106
  · cases h; exact ok_108
  · cases h; exact ok_109
  · cases h; exact ok_113
  · cases h; exact ok_114
  · cases h; exact ok_119
  · cases h; exact ok_124
  · cases h; exact ok_125
  · cases h; exact ok_139
  · cases h; exact ok_148
  · cases h; exact ok_155
  · cases h; exact ok_156
  · cases h; exact ok_158
  · cases h; exact ok_159
  · cases h; exact ok_163
  · cases h; exact ok_164
  · cases h; exact ok_167
  · cases h; exact ok_168
  · cases h; exact ok_171
  · cases h; exact ok_172
  · cases h; exact ok_173
  · cases h; exact ok_174
  · cases h; exact ok_175
  · cases h; exact ok_187
  · cases h; exact ok_188
  · cases h; exact ok_189
  · cases h; exact ok_190
  · cases h; exact ok_191
  · cases h; exact ok_192
  · cases h; exact ok_193
  · cases h; exact ok_194
  · cases h; exact ok_195
  · cases h; exact ok_200
  · cases h; exact ok_201
  · cases h; exact ok_202
  · cases h; exact ok_203
  · cases h; exact ok_204
  · cases h; exact ok_205
  · cases h; exact ok_206
  · cases h; exact ok_207
  · cases h; exact ok_261
  · cases h; exact ok_262
  · cases h; exact ok_264
  · cases h; exact ok_271
  · cases h; exact ok_278
  · cases h

theorem in_168 : jacquardref16_Name_In env := { fn := rfl }
theorem in_187 : jacquardlaw12_SB_In env := { fn := rfl }
theorem in_48 : istrconv_small_In env := { fn := rfl }
theorem in_47 : istrconv_FormatInt_In env := { fn := rfl, c48 := in_48 }
theorem in_46 : istrconv_Itoa_In env := { fn := rfl, c47 := in_47 }
theorem in_45 : strconv_Itoa_In env := { fn := rfl, c46 := in_46 }
theorem in_167 : vm_Name_In env := { fn := rfl, c45 := in_45 }
theorem in_262 : play_Text_In env := { fn := rfl, c167 := in_167, x272 := rfl }
theorem in_19 : set_bit_In env := { fn := rfl }
theorem in_18 : set_Set_With_In env := { fn := rfl, c19 := in_19 }
theorem in_113 : prog_thread_In env := { fn := rfl }
theorem in_105 : prog_Next_In env := { fn := rfl, c113 := in_113 }
theorem in_191 : buf_Buf_Empty_In env := { fn := rfl }
theorem in_204 : buf_Buf_oldest_In env := { fn := rfl }
theorem in_192 : buf_Buf_Oldest_In env := { fn := rfl, c204 := in_204 }
theorem in_172 : vm_VM_Enabled_In env := { fn := rfl, c18 := in_18, c105 := in_105, c191 := in_191, c192 := in_192 }
theorem in_174 : vm_VM_Done_In env := { fn := rfl, c172 := in_172 }
theorem in_195 : slices_Clone_sStep_Step_In env := { fn := rfl }
theorem in_175 : vm_VM_Steps_In env := { fn := rfl, c195 := in_195 }
theorem in_108 : prog_Value_In env := { fn := rfl }
theorem in_124 : prog_set_In env := { fn := rfl }
theorem in_139 : num_one_In env := { fn := rfl }
theorem in_125 : num_Do_In env := { fn := rfl, c139 := in_139 }
theorem in_114 : prog_normal_In env := { fn := rfl, c108 := in_108, c124 := in_124, c125 := in_125 }
theorem in_94 : prog_Start_In env := { fn := rfl, c113 := in_113, c114 := in_114 }
theorem in_102 : prog_Size_In env := { fn := rfl }
theorem in_148 : well_Jumps_In env := { fn := rfl }
theorem in_156 : slices_IndexFunc_sIns_Ins_In env := { fn := rfl }
theorem in_155 : slices_ContainsFunc_sIns_Ins_In env := { fn := rfl, c156 := in_156 }
theorem in_158 : print_IsLoc_In env := { fn := rfl }
theorem in_200 : prog_Ok_1_In env := { fn := rfl }
theorem in_164 : print_isReg_In env := { fn := rfl }
theorem in_163 : print_isOperand_In env := { fn := rfl, c164 := in_164 }
theorem in_159 : print_Fields_In env := { fn := rfl, c163 := in_163, c164 := in_164 }
theorem in_201 : prog_Ok_2_In env := { fn := rfl, c159 := in_159 }
theorem in_188 : prog_Ok_In env := { fn := rfl, c102 := in_102, c148 := in_148, c155 := in_155, c158 := in_158, c200 := in_200, c201 := in_201 }
theorem in_119 : slices_Clone_sIns_Ins_In env := { fn := rfl }
theorem in_202 : slices_Clone_sbyte_byte_In env := { fn := rfl }
theorem in_203 : slices_Clone_sint64_int64_In env := { fn := rfl }
theorem in_189 : vm_copied_In env := { fn := rfl, c119 := in_119, c202 := in_202, c203 := in_203 }
theorem in_190 : buf_New_In env := { fn := rfl }
theorem in_171 : vm_New_In env := { fn := rfl, c94 := in_94, c188 := in_188, c189 := in_189, c190 := in_190 }
theorem in_17 : set_Set_Has_In env := { fn := rfl, c19 := in_19 }
theorem in_80 : event_Writes_In env := { fn := rfl }
theorem in_106 : prog_After_In env := { fn := rfl, c105 := in_105, c113 := in_113, c114 := in_114, c124 := in_124 }
theorem in_109 : event_Of_In env := { fn := rfl, c108 := in_108 }
theorem in_205 : buf_Buf_Newest_In env := { fn := rfl }
theorem in_206 : buf_Buf_Put_In env := { fn := rfl }
theorem in_193 : vm_VM_thread_In env := { fn := rfl, c80 := in_80, c105 := in_105, c106 := in_106, c109 := in_109, c205 := in_205, c206 := in_206 }
theorem in_207 : buf_Buf_Drop_In env := { fn := rfl, c204 := in_204 }
theorem in_194 : vm_VM_flush_In env := { fn := rfl, c192 := in_192, c207 := in_207 }
theorem in_173 : vm_VM_Pick_In env := { fn := rfl, c17 := in_17, c172 := in_172, c193 := in_193, c194 := in_194 }
theorem in_278 : play_run_In env := { fn := rfl, c171 := in_171, c173 := in_173 }
theorem in_271 : play_Run_In env := { fn := rfl, c174 := in_174, c175 := in_175, c278 := in_278 }
theorem in_261 : jacquardlaw17_awake_In env := { fn := rfl, x260 := rfl, c187 := in_187, c262 := in_262, c271 := in_271 }
theorem in_264 : jacquardlaw17_PlayTexts_In env := { fn := rfl, x260 := rfl, c168 := in_168, c261 := in_261, c262 := in_262 }

def env0 : Env := { fn := envFn, tab := seatTab }
theorem in0_48 : istrconv_small_In env0 := { fn := rfl }
theorem in0_47 : istrconv_FormatInt_In env0 := { fn := rfl, c48 := in0_48 }
theorem in0_46 : istrconv_Itoa_In env0 := { fn := rfl, c47 := in0_47 }
theorem in0_45 : strconv_Itoa_In env0 := { fn := rfl, c46 := in0_46 }
theorem in0_167 : vm_Name_In env0 := { fn := rfl, c45 := in0_45 }
theorem ext17ok : Ext17 env := ⟨fun _ _ => rfl, fun _ _ => rfl⟩
theorem extOk : SoundC seat ext17 := ext17_sound
  (join_sound ⟨_, _, Tryd.func13, rfl, by kernel_rfl⟩ (fun a c sep w => PX.Join_none a c sep w) (fun bk o c xs sep w h1 h2 h3 h4 h5 => PX.Join_w bk o c xs sep w h1 h2 h3 h4 h5))
  (parse_sound (T := 3) ⟨_, _, Tryd.func6, rfl, by kernel_rfl⟩ (fun s w h => PX.Parse_w0 s w h)
    (fun s w ρ hi h1 h2 h3 => PX.Parse_w s w h1 h2 h3 fun i W _ hb =>
      text_calls (S := seat) (R_sound (S := seat) (E := env0) rfl allOk) (g := 167) (args := [.c (.int .i64 (i : Int))]) (vals := #[.int .i64 (i : Int)]) (VName_R in0_167 (i : Int) []) (hi.below0 hb) (L2.cons rfl L2.nil)))

end Go.Proofs.YtlfhmbifgdhckaaDoor.LPlayTexts

/- Programs made of numbers may be run. -/
namespace Jq
open Go

theorem locs_rise (S : Nat → Bool) (n : Nat) : (locsF S n).Pairwise (· < ·) := by
  unfold locsF
  refine List.Pairwise.map _ (fun a b (hab : a < b) => ?_) (List.Pairwise.filter _ List.pairwise_lt_range)
  omega

theorem locs_ok (S : Nat → Bool) : (List.range (locsF S 26).length).any (atB (locsF S 26) (locBad (locsF S 26))) = false := by
  have hp := locs_rise S 26
  have hm : ∀ x ∈ locsF S 26, 97 ≤ x ∧ x ≤ 122 := fun x h => by
    obtain ⟨c, h1, _, rfl⟩ := locsF_mem.1 h
    omega
  generalize locsF S 26 = l at *
  rw [List.any_eq_false]
  intro i hi
  rw [List.mem_range] at hi
  rw [atB_ok (List.getElem?_eq_getElem hi)]
  have h1 := hm _ (List.getElem_mem hi)
  have h2 : 0 < i → l.getD (i - 1) 0 < l[i] := fun h0 => by
    rw [List.getD_eq_getElem?_getD, List.getElem?_eq_getElem (by omega)]
    exact List.pairwise_iff_getElem.1 hp (i - 1) i (by omega) hi (by omega)
  unfold locBad locB
  rw [decide_eq_true h1.1, decide_eq_true h1.2]
  by_cases h0 : 0 < i
  · have := h2 h0
    rw [decide_eq_false (p := l[i] ≤ _) (by omega)]; simp
  · rw [decide_eq_false (p := (i : Int) > 0) (by omega)]; simp

theorem sumLen_le {c : Nat} : ∀ l : List (List Ins), (∀ x ∈ l, x.length ≤ c) → (l.map List.length).sum ≤ l.length * c
  | [], _ => by simp
  | x :: l, h => by
    have := sumLen_le l fun y hy => h y (List.mem_cons_of_mem _ hy)
    have h1 := h x List.mem_cons_self
    rw [List.map_cons, List.sum_cons, List.length_cons, Nat.succ_mul]; omega

theorem opdOk.opB {o : Opd} (h : opdOk o) : opB o = true := by
  unfold Jq.opB regB
  rcases h with ⟨h1, _⟩ | ⟨h1 | h1, h2⟩ <;> rw [h1] <;> simp [*]

/-- What an instruction of a test made of numbers is, made ready. -/
theorem SmI.fld {L : Int} {T : PTest} {i : Ins} (s : SmI L i) (hin : i.loc ≠ 0 → i.loc ∈ locsT T) : fldB (hasB (compT T)) (compI (locsT T) i) = true := by
  have hl : i.loc ≠ 0 → compI (locsT T) i = { i with loc := plc (locsT T) i.loc 0 } ∧ hasB (compT T) (plc (locsT T) i.loc 0) = true := fun h => by
    refine ⟨by unfold compI; rw [if_pos h], ?_⟩
    obtain ⟨j, hj, hg⟩ := plc_get (locsT T) 0 (hin h)
    have := getI_lt hg
    rw [hj]
    unfold hasB
    rw [show (compT T).locs = locsT T from rfl, decide_eq_true (by omega), decide_eq_true (by omega)]; rfl
  rcases s with ⟨h1, h2, h3, h4, h5, h6, h7⟩ | ⟨h1, h2, h3, h4, h5, h6, h7⟩ | rfl | ⟨h1, h2, h3, h4, h5, h6, h7⟩ | ⟨h1, h2, h3, h4, h5, h6, h7⟩ | ⟨h1, h2, h3, h4, h5, h6, h7⟩
  · obtain ⟨e, hh⟩ := hl (by omega)
    rw [e]
    unfold fldB
    dsimp only
    rw [if_pos h1, hh, h4.opB, h1, h2, h5, h6, h7]
    simp [Ins.cs]
  · obtain ⟨e, hh⟩ := hl (by omega)
    rw [e]
    unfold fldB regB
    dsimp only
    rw [if_neg (by omega), if_pos h1, hh, h1, h4, h5, h6, h7, decide_eq_true (by omega), decide_eq_true (by omega)]
    simp [Ins.cs]
  · rfl
  · obtain ⟨e, hh⟩ := hl (by omega)
    rw [e]
    unfold fldB regB
    dsimp only
    rw [if_neg (by omega), if_neg (by omega), if_neg (by omega), if_pos h1, hh, h4.opB, h1, h5, h6, h7, decide_eq_true (by omega), decide_eq_true (by omega)]
    simp [Ins.cs, opB]
  · have e : compI (locsT T) i = i := by unfold compI; rw [if_neg (by omega)]
    rw [e]
    unfold fldB regB
    rw [if_neg (by omega), if_neg (by omega), if_neg (by omega), if_neg (by omega), if_pos h1, h4.opB, h1, h5, h6, decide_eq_true (by omega), decide_eq_true (by omega)]
    simp [Ins.cs, opB, h1, h3, h5, h6, h7]
  · have e : compI (locsT T) i = i := by unfold compI; rw [if_neg (by omega)]
    rw [e]
    unfold fldB
    rw [if_neg (by omega), if_neg (by omega), if_neg (by omega), if_neg (by omega), if_neg (by omega), if_pos h1, h4.opB, h1, h6, h7]
    simp [Ins.cs, opB, h1, h2, h3, h5, h6, h7]

theorem there_loc {T : PTest} {c : List Ins} (hc : c ∈ T.thr) {i : Ins} (hi : i ∈ c) (hl : 97 ≤ i.loc ∧ i.loc ≤ 122) : i.loc ∈ locsT T := by
  unfold locsT
  refine locsF_mem.2 ⟨(i.loc - 97).toNat, by omega, ?_, by omega⟩
  unfold thereT
  rw [Bool.or_eq_true, Bool.or_eq_true]
  refine .inl (.inr (List.any_eq_true.2 ⟨c, hc, List.any_eq_true.2 ⟨i, hi, ?_⟩⟩))
  rw [beq_iff_eq]; omega

theorem SkipOk.jmp {c : List Ins} (s : SkipOk c) (h1 : ∀ i ∈ c, i.kind = 6 → i.n = 1) : jmpB c = true := by
  unfold jmpB
  rw [List.all_eq_true]
  intro k hk
  cases hq : c[k]? with
  | none => rfl
  | some i =>
    dsimp only
    by_cases h6 : i.kind = 6
    · have a := s k i hq h6
      have b := h1 i (List.mem_of_getElem? hq) h6
      rw [decide_eq_false (p := i.n < 1) (by omega), decide_eq_false (p := i.n > _) (by omega)]; simp
    · rw [beq_false_of_ne h6]; rfl

structure RunP (P : PProg) : Prop where
  pok : pokB P = true
  fld : ∀ c ∈ P.thr, ∀ i ∈ c, fldB (hasB P) i = true

theorem GoodT.run {most : Nat} {T : PTest} (g : GoodT most T) : RunP (compT T) := by
  have gp := g.goodP
  obtain ⟨L, hL, hc⟩ := g.code
  have hf : ∀ c ∈ (compT T).thr, ∀ i ∈ c, fldB (hasB (compT T)) i = true := fun c hcm i hi => by
    obtain ⟨d, hd, rfl⟩ := List.mem_map.1 hcm
    obtain ⟨j, hj, rfl⟩ := List.mem_map.1 hi
    obtain ⟨k, hk, ht⟩ := hc d hd
    have := ht.all j hj
    refine this.fld fun h0 => there_loc hd hj ?_
    have := this.loc; omega
  refine ⟨?_, hf⟩
  have hgn := gp.n
  have hgl := gp.locs
  have hgi := gp.init
  have hsum := sumLen_le (c := 6) (compT T).thr gp.code
  have hs : sizeBad (compT T) = false := by
    unfold sizeBad sumL
    rw [beq_false_of_ne (by omega), decide_eq_false (p := ((compT T).thr.length : Int) > 4) (by omega), decide_eq_false (p := ((compT T).locs.length : Int) > 4) (by omega), decide_eq_false (p := _ > (24 : Int)) (by omega), show (((compT T).init.length : Int) != ((compT T).locs.length : Int)) = false by simp [hgl]]
    rfl
  unfold pokB
  rw [if_neg (by rw [hs]; simp), if_neg (by rw [show (compT T).locs = locsF (thereT T) 26 from rfl, locs_ok]; simp), Bool.not_eq_true', List.any_eq_false]
  intro c hcm
  have hj : jmpB c = true := (gp.skip c hcm).jmp fun i hi h6 => by
    obtain ⟨d, hd, rfl⟩ := List.mem_map.1 hcm
    obtain ⟨j, hj, rfl⟩ := List.mem_map.1 hi
    obtain ⟨k, hk, ht⟩ := hc d hd
    rw [compI_kn.1] at h6
    rw [compI_kn.2]
    exact (ht.all j hj).skip h6
  have hcl := gp.code c hcm
  unfold thrBad
  rw [hj, decide_eq_false (by omega), show (c.any fun i => !fldB (hasB (compT T)) i) = false by
    rw [List.any_eq_false]; intro i hi; rw [hf c hcm i hi]; simp]
  simp

section
variable {E : Env}

end
end Jq

/- Machines: what the laws' loops share. -/
namespace Jq
open Go

theorem take_keep {n : Nat} {h h' : AHeap} (hk : Kp n h h') : h'.take n = h.take n := by
  refine List.ext_getElem? fun j => ?_
  rw [List.getElem?_take, List.getElem?_take]
  split
  · exact hk.2 j (by assumption)
  · rfl

theorem VmAt.keep {n : Nat} {h h' : AHeap} {k : Nat} {x : Cell} {pc : List Cell} {V : MV} (a : VmAt n h k x pc V) (hk : Kp h.length h h') : VmAt n h' k x pc V :=
  ⟨Nat.le_trans a.hn hk.1, a.nk, by rw [take_keep (hk.mono a.hn)]; exact a.prog, by rw [hk.blk (blk_lt' a.blk)]; exact a.blk, a.st.keepK hk, a.sep⟩

/-- What does not belong to a machine leaves it as it was. -/
theorem VmAt.other {n : Nat} {h h' : AHeap} {k : Nat} {x : Cell} {pc : List Cell} {V : MV} (a : VmAt n h k x pc V) (hl : h.length ≤ h'.length) (hn : Kp n h h') (hk : blk? h' k = blk? h k) (hx : ∀ j, isBlk x j → blk? h' j = blk? h j) : VmAt n h' k x pc V := by
  refine ⟨Nat.le_trans a.hn hl, a.nk, by rw [take_keep hn]; exact a.prog, by rw [hk]; exact a.blk, ⟨a.st.1, a.st.2.imp id ?_⟩, a.sep⟩
  rintro ⟨j, rfl, h1, h2⟩
  exact ⟨j, rfl, h1, by rw [hx j rfl]; exact h2⟩

theorem GoodP.inv {most : Nat} {P : PProg} (g : GoodP most P) (r : RunP P) {m : Int} (hm : 1 ≤ m ∧ m ≤ 3) : (MV.new P m).Inv :=
  MV.new_inv hm g.small r.fld (by have := g.locs; have := g.init; omega) (by have := g.init; omega) (fun c hc => by have := g.code c hc; omega)

section
variable {E : Env}

theorem ptr_nil {α : Type} {k : Nat} {f : Bool → Option α} : eqNilK false (.ptr k 329 0) .nilp f = f false := rfl

end
end Jq

/- VmWaits: what waits is told by what may be picked. -/
namespace Jq
open Go

/-- How many wait there. -/
def MV.cnt (V : MV) (q : Nat) : Int :=
  if V.m = 2 ∧ 4 ≤ q ∧ q < 8 then ((V.b (q - 4)).length : Int)
  else if V.m = 3 ∧ 8 ≤ q ∧ q < 24 then ((V.b ((q - 8) / 4)).countP (oldP 3 (((q - 8) % 4 : Nat) : Int)) : Int) else 0

theorem MV.cnt2 {V : MV} (hm : V.m = 2) (q : Nat) : V.cnt q = if 4 ≤ q ∧ q < 8 then ((V.b (q - 4)).length : Int) else 0 := by
  unfold MV.cnt
  by_cases h : 4 ≤ q ∧ q < 8
  · rw [if_pos ⟨hm, h⟩, if_pos h]
  · rw [if_neg (fun c => h c.2), if_neg (fun c => by omega), if_neg h]
theorem MV.cnt3 {V : MV} (hm : V.m = 3) (q : Nat) : V.cnt q = if 8 ≤ q ∧ q < 24 then ((V.b ((q - 8) / 4)).countP (oldP 3 (((q - 8) % 4 : Nat) : Int)) : Int) else 0 := by
  unfold MV.cnt
  rw [if_neg (fun c => by omega)]
  by_cases h : 8 ≤ q ∧ q < 24
  · rw [if_pos ⟨hm, h⟩, if_pos h]
  · rw [if_neg (fun c => h c.2), if_neg h]

def cntC (V : MV) : List Cell := (List.range 24).map fun q => .int .i64 (V.cnt q)

theorem MV.may_cnt (V : MV) {k : Nat} (h4 : 4 ≤ k) (h24 : k < 24) : V.may k = decide (V.cnt k > 0) := by
  unfold MV.may MV.cnt
  rw [if_neg (by omega)]
  by_cases h8 : k < 8
  · rw [if_pos h8]
    unfold MV.mayF
    by_cases hm : V.m = 2
    · rw [if_pos ⟨hm, h4, h8⟩, hm]
      cases V.b (k - 4) with
      | nil => rfl
      | cons e l => rw [decide_eq_true (by rw [List.length_cons]; omega)]; rfl
    · rw [if_neg (fun q => hm q.1), if_neg (show ¬ (V.m = 3 ∧ 8 ≤ k ∧ k < 24) by omega), beq_false_of_ne hm]; rfl
  · rw [if_neg h8, if_pos h24, if_neg (by omega)]
    unfold MV.mayL
    by_cases hm : V.m = 3
    · rw [if_pos ⟨hm, by omega, h24⟩, hm, Bool.eq_iff_iff, decide_eq_true_eq]
      have : ((3 : Int) == 3) = true := rfl
      rw [this, Bool.true_and, List.find?_isSome]
      constructor
      · rintro ⟨e, he, hp⟩
        have := List.countP_pos_iff.2 ⟨e, he, hp⟩
        omega
      · intro hp
        obtain ⟨e, he, hp⟩ := List.countP_pos_iff.1 (show 0 < (V.b ((k - 8) / 4)).countP (oldP 3 (((k - 8) % 4 : Nat) : Int)) by omega)
        exact ⟨e, he, hp⟩
    · rw [if_neg (fun q => hm q.1), beq_false_of_ne hm]; rfl

/-- Where a step's stores are counted. -/
def qOf (m : Int) (s : Stp) : Nat := if m = 3 then 8 + (4 * s.t.toNat + s.loc.toNat) else 4 + s.t.toNat

section
variable {E : Env}

end
end Jq

/- Each thread comes to its end. -/
namespace Jq
open Go

section
variable {E : Env}

end
end Jq

/- The document's check of a test. -/
namespace Jq
open Go

def sumM (l : List (List Ins)) : Int := ((l.map fun c => min c.length 100).sum : Nat)
def jmpAt (len : Nat) (k : Nat) (i : Ins) : Bool := i.kind == 6 && (decide (i.n < 1) || decide (i.n > (len : Int) - k - 1))
section
variable {E : Env}

end
end Jq

/- The document's check of a test: the whole. -/
namespace Jq
open Go

section
variable {E : Env}

end
end Jq

namespace Jq
open Go


end Jq

/- Threads step by step, of any test. -/
namespace Jq
open Go

def shOpd : Sh := .agg (.cons (.i .i64) (.cons (.i .i64) .nil))
def shIns : Sh := .agg (.cons (.i .i64) (.cons (.i .i64) (.cons (.i .i64) (.cons shOpd (.cons (.i .i64) (.cons shOpd (.cons (.i .i64) .nil)))))))
def shAtm : Sh := .agg (.cons (.i .i64) (.cons (.i .i64) (.cons (.i .i64) (.cons (.i .i64) .nil))))
def shCond : Sh := .agg (.cons (.i .i64) (.cons (.sl (.sl shAtm)) .nil))
def shTest : Sh := .agg (.cons .s (.cons (.sl shPair) (.cons (.sl (.sl shIns)) (.cons shCond .nil))))
def shLcl : Sh := .agg (.cons (.i .i64) (.cons (.agg (Sh.rep (.i .i64) 4)) .nil))

/-- Is a test of few parts? -/
def fewB (T : PTest) : Bool := !(((decide ((T.thr.length : Int) > 6) || decide ((T.inits.length : Int) > 40)) || decide ((T.name.size : Int) > 60)) || decide ((T.any.length : Int) > 12)) && !(T.thr.any fun c => decide ((c.length : Int) > 30)) && !(T.any.any fun c => decide ((c.length : Int) > 12))

section
variable {E : Env}

end

end Jq

/- Threads step by step, of any test: the law. -/
namespace Jq
open Go

section
variable {E : Env}

end
end Jq

/- A test is made ready as the document says, or refused. -/
namespace Jq
open Go

theorem SlAt.cells1 {h : AHeap} {x : Cell} {cs : List Cell} {len : Nat} (s : SlAt h x 1 cs len) : slCells h 1 x = some cs := by
  have hl := s.1
  rcases s.2 with ⟨rfl, rfl⟩ | ⟨k, N, off, rfl, hb⟩
  · have : cs = [] := List.length_eq_zero_iff.1 (by omega)
    rw [this]; rfl
  · unfold slCells
    dsimp only
    by_cases h0 : len = 0
    · have : cs = [] := List.length_eq_zero_iff.1 (by omega)
      rw [if_pos h0, this]
    · rw [if_neg h0]
      rcases hb with hb | ⟨b, hb, hN, hle, hat⟩
      · exact absurd hb h0
      · rw [hb]
        simp only
        rw [if_pos ⟨hN, hle⟩]
        congr 1
        refine List.ext_getElem? fun j => ?_
        rw [List.getElem?_take, List.getElem?_drop]
        by_cases hj : j < len * 1
        · rw [if_pos hj, hat j hj]
        · rw [if_neg hj, List.getElem?_eq_none (by omega)]

section
variable {E : Env}

end
end Jq

/- Machines: how long one goes on. -/
namespace Jq
open Go

def MV.sumB (V : MV) : Int := (V.b 0).length + (V.b 1).length + (V.b 2).length + (V.b 3).length
def MV.sumP (V : MV) : Int := (V.l 0).pc + (V.l 1).pc + (V.l 2).pc + (V.l 3).pc
def isSt (m : Int) (s : Stp) : Bool := s.kind == 2 && m != 1
def isFl (s : Stp) : Bool := s.kind == 6
def MV.skips (V : MV) : Prop := ∀ c ∈ V.P.thr, SkipOk c

structure MV.Inv2 (V : MV) : Prop where
  le : ∀ t, t < 4 → (V.l t).pc ≤ (V.P.code t).length
  ms : (V.st.length : Int) + V.sumB ≤ 2 * V.sumP
  m1 : V.m = 1 → ∀ t, V.b t = []
  bal : (V.st.countP (isSt V.m) : Int) = V.st.countP isFl + V.sumB

/-- All of a program's instructions. -/
theorem sum_codes {P : PProg} (h4 : P.thr.length ≤ 4) : ((P.code 0).length : Int) + (P.code 1).length + (P.code 2).length + (P.code 3).length = sumL P.thr := by
  have hc : ∀ t : Nat, P.code (t : Int) = P.thr.getD t [] := fun t => by unfold PProg.code; rw [if_pos (by omega), Int.toNat_natCast]
  have e0 := hc 0; have e1 := hc 1; have e2 := hc 2; have e3 := hc 3
  rw [show ((0 : Nat) : Int) = 0 from rfl] at e0
  rw [show ((1 : Nat) : Int) = 1 from rfl] at e1
  rw [show ((2 : Nat) : Int) = 2 from rfl] at e2
  rw [show ((3 : Nat) : Int) = 3 from rfl] at e3
  rw [e0, e1, e2, e3]
  unfold sumL
  generalize P.thr = l at *
  match l with
  | [] => rfl
  | [a] => simp
  | [a, b] => simp
  | [a, b, c] => simp <;> omega
  | [a, b, c, d] => simp <;> omega
  | a :: b :: c :: d :: e :: r => simp at h4

theorem MV.Inv2.most {V : MV} (w : V.Inv2) (h4 : V.P.thr.length ≤ 4) : (V.st.length : Int) ≤ 2 * sumL V.P.thr := by
  have := w.ms
  have h := sum_codes h4
  have l0 := w.le 0 (by omega); have l1 := w.le 1 (by omega); have l2 := w.le 2 (by omega); have l3 := w.le 3 (by omega)
  rw [show ((0 : Nat) : Int) = 0 from rfl] at l0
  rw [show ((1 : Nat) : Int) = 1 from rfl] at l1
  rw [show ((2 : Nat) : Int) = 2 from rfl] at l2
  rw [show ((3 : Nat) : Int) = 3 from rfl] at l3
  unfold MV.sumB MV.sumP at this
  omega

/-- If nothing may be picked nothing waits. -/
theorem MV.Inv.done {V : MV} (v : V.Inv) (w : V.Inv2) (h0 : V.word = 0) : V.sumB = 0 := by
  have hno : ∀ i, V.may i = false := fun i => by rw [← MV.word_bit, h0, Nat.zero_testBit]
  have hb : ∀ t, t < 4 → V.b t = [] := fun t ht => by
    have hm := v.fit.m
    rcases (show V.m = 1 ∨ V.m = 2 ∨ V.m = 3 by omega) with h1 | h2 | h3
    · exact w.m1 h1 t
    · have := hno (4 + t)
      rw [MV.may_cnt V (by omega) (by omega), MV.cnt2 h2, if_pos ⟨by omega, by omega⟩, show 4 + t - 4 = t by omega, decide_eq_false_iff_not] at this
      exact List.length_eq_zero_iff.1 (by omega)
    · cases hbb : V.b t with
      | nil => rfl
      | cons e l =>
        exfalso
        have he := v.mem_b (t := t) (e := e) (by rw [hbb]; exact List.mem_cons_self)
        have := hno (8 + (4 * t + e.loc.toNat))
        rw [MV.may_cnt V (by omega) (by omega), MV.cnt3 h3, if_pos ⟨by omega, by omega⟩, show (8 + (4 * t + e.loc.toNat) - 8) / 4 = t by omega, show (8 + (4 * t + e.loc.toNat) - 8) % 4 = e.loc.toNat by omega, decide_eq_false_iff_not, hbb, List.countP_cons, if_pos (show oldP 3 ((e.loc.toNat : Nat) : Int) e = true by unfold oldP; simp; omega)] at this
        omega
  unfold MV.sumB
  rw [hb 0 (by omega), hb 1 (by omega), hb 2 (by omega), hb 3 (by omega)]; rfl
end Jq

/- Machines of the document: how one lies in memory. -/
namespace Jq
open Go

/-- The block. -/
def rvC (pc : List Cell) (V : MV) (bs : List Cell) (x : Cell) : List Cell :=
  pc ++ (([.int .i64 V.m] : List Cell) ++ (intC .i64 V.mem ++ (intC .i64 V.frm ++ (V.lc.flatMap Lcl.cs ++ (bs ++ [x])))))

section
variable {V : MV} {pc bs : List Cell} {x : Cell} (f : V.Fit) (hpc : pc.length = 3) (hbs : bs.length = 4)

include f hpc

theorem rv_lensB : ∃ A : List Cell, A.length = 0 + 32 ∧ ∀ bs x, rvC pc V bs x = A ++ (bs ++ [x]) := by
  have e2 := flat_len (f.lcs hpc)
  have := f.lc; have := f.mem; have := f.frm
  refine ⟨pc ++ (([.int .i64 V.m] : List Cell) ++ (intC .i64 V.mem ++ (intC .i64 V.frm ++ V.lc.flatMap Lcl.cs))), ?_, fun bs x => ?_⟩
  · simp only [List.length_append, e2, hpc, List.length_cons, List.length_nil, intC_len]; omega
  · unfold rvC; simp only [List.append_assoc]

include hbs

theorem rv_len : (rvC pc V bs x).length = 37 := by
  obtain ⟨A, hA, e⟩ := rv_lensB f hpc
  rw [e]
  simp only [List.length_append, hA, hbs, List.length_cons, List.length_nil]

end

/-- It lies there. -/
structure RvAt (n : Nat) (h : AHeap) (k : Nat) (x : Cell) (bs pc : List Cell) (V : MV) : Prop where
  hn : n ≤ h.length
  nk : n ≤ k
  prog : ProgAt (h.take n) pc V.P
  blk : blk? h k = some ⟨true, 0, rvC pc V bs x⟩
  st : Own n h x 7 (stepsC V.st) V.st.length
  sep : ¬ isBlk x k
  bl : bs.length = 4
  bf : ∀ t, t < 4 → Own n h (bs.getD t .nils) 3 (entsC (V.b t)) (V.b t).length ∧ ¬ isBlk (bs.getD t .nils) k ∧ ∀ j, isBlk (bs.getD t .nils) j → ¬ isBlk x j

/-- What may be picked, of any number. -/
def mayI (V : MV) (i : Int) : Bool := decide (0 ≤ i) && V.may i.toNat

theorem mayI_has (V : MV) (i : Int) : mayI V i = hasI V.word i := by
  unfold mayI hasI
  by_cases h0 : 0 ≤ i
  · rw [decide_eq_true h0, Bool.true_and, Bool.true_and, MV.word_bit]
    by_cases h : i < 64
    · rw [decide_eq_true h, Bool.and_true]
    · rw [decide_eq_false h, Bool.and_false, MV.may_out (by omega)]
  · rw [decide_eq_false h0]; rfl

section
variable {E : Env}

/-- Whose flush, of which location. -/
def fluOf (m i : Int) : Int × Int × Bool :=
  if m = 2 ∧ 4 ≤ i ∧ i < 8 then (i - 4, -1, true) else if m = 3 ∧ 8 ≤ i ∧ i < 24 then ((i - 8) / 4, (i - 8) % 4, true) else (0, 0, false)

end
end Jq

/- Machines of the document: a pick is taken. -/
namespace Jq
open Go

theorem Own.via {n : Nat} {h h' : AHeap} {y : Cell} {esz len : Nat} {cs : List Cell} (o : Own n h y esz cs len) (hf : ∀ j b, isBlk y j → blk? h j = some b → blk? h' j = some b) : Own n h' y esz cs len := by
  refine ⟨o.1, o.2.imp id ?_⟩
  rintro ⟨j, rfl, h1, h2⟩
  exact ⟨j, rfl, h1, hf j _ rfl h2⟩

section
variable {E : Env}

end
end Jq

/- Machines of the document: a thread's pick; any pick. -/
namespace Jq
open Go

section
variable {E : Env}

end
end Jq

/- Machines of the document: at the beginning; what is told of them. -/
namespace Jq
open Go

theorem RvAt.keep {n : Nat} {h h' : AHeap} {k : Nat} {x : Cell} {bs pc : List Cell} {V : MV} (a : RvAt n h k x bs pc V) (hk : Kp h.length h h') : RvAt n h' k x bs pc V :=
  ⟨Nat.le_trans a.hn hk.1, a.nk, by rw [take_keep (hk.mono a.hn)]; exact a.prog, by rw [hk.blk (blk_lt' a.blk)]; exact a.blk, a.st.keepK hk, a.sep, a.bl, fun t ht => by
    obtain ⟨q1, q2, q3⟩ := a.bf t ht
    exact ⟨q1.keepK hk, q2, q3⟩⟩

/-- What does not belong to it leaves it as it was. -/
theorem RvAt.other {n : Nat} {h h' : AHeap} {k : Nat} {x : Cell} {bs pc : List Cell} {V : MV} (a : RvAt n h k x bs pc V) (hl : h.length ≤ h'.length) (hn : Kp n h h') (hk : ∀ j b, blk? h j = some b → j = k ∨ isBlk x j ∨ (∃ t, t < 4 ∧ isBlk (bs.getD t .nils) j) → blk? h' j = some b) : RvAt n h' k x bs pc V :=
  ⟨Nat.le_trans a.hn hl, a.nk, by rw [take_keep hn]; exact a.prog, hk k _ a.blk (.inl rfl), a.st.via fun j b q1 q2 => hk j b q2 (.inr (.inl q1)), a.sep, a.bl, fun t ht => by
    obtain ⟨q1, q2, q3⟩ := a.bf t ht
    exact ⟨q1.via fun j b s1 s2 => hk j b s2 (.inr (.inr ⟨t, ht, s1⟩)), q2, q3⟩⟩

def lcU (P : PProg) (t : Nat) : List Lcl := [if 0 < t then startL P 0 else Lcl.zero, if 1 < t then startL P 1 else Lcl.zero, if 2 < t then startL P 2 else Lcl.zero, if 3 < t then startL P 3 else Lcl.zero]

def MV.raw (P : PProg) (m : Int) (lc : List Lcl) (mem : List Int) : MV := ⟨P, m, lc, mem, [-1, -1, -1, -1], [[], [], [], []], []⟩

section
variable {E : Env}

def finU (V : MV) (t : Nat) : List Cell := (V.lc.take t).flatMap regsC ++ (List.replicate (16 - t * 4) (.int .i64 0) ++ intC .i64 V.mem)

end
end Jq

/- VmEnds: however it is picked a machine is done. -/
namespace Jq
open Go

section
variable {E : Env}

end
end Jq

/- Two machines that stand alike. -/
namespace Jq
open Go

theorem Own.has {n : Nat} {h : AHeap} {y : Cell} {esz len : Nat} {cs : List Cell} (o : Own n h y esz cs len) {j : Nat} (hj : isBlk y j) : blk? h j = some ⟨true, esz, cs⟩ := by
  rcases o.2 with ⟨e, _⟩ | ⟨j', e, _, hb⟩
  · rw [e] at hj; exact absurd hj (by simp [isBlk])
  · have : j' = j := by rw [e] at hj; exact hj
    subst this; exact hb

structure Both (n : Nat) (h : AHeap) (k : Nat) (x : Cell) (pc : List Cell) (V : MV) (n' k' : Nat) (x' : Cell) (bs pc' : List Cell) (W : MV) : Prop where
  a : VmAt n h k x pc V
  b : RvAt n' h k' x' bs pc' W
  nn : n ≤ n'
  d : ∀ j, isBlk x j → ¬ isBlk x' j
  fV : V.Fit
  fW : W.Fit

section both
variable {n : Nat} {h : AHeap} {k : Nat} {x : Cell} {pc : List Cell} {V : MV} {n' k' : Nat} {x' : Cell} {bs pc' : List Cell} {W : MV} (B : Both n h k x pc V n' k' x' bs pc' W)
include B

theorem Both.kk : k' ≠ k := fun e => by
  have h1 := B.a.blk
  have h2 := B.b.blk
  rw [e, h1] at h2
  have h3 := Blk.mk.inj (Option.some.inj h2)
  have l1 := vm_len (x := x) B.fV B.a.prog.len
  have l2 := rv_len (x := x') B.fW B.b.prog.len B.b.bl
  rw [h3.2.2, l2] at l1
  omega

theorem Both.xk : ¬ isBlk x k' := fun q => by
  have h1 := B.a.st.has q
  rw [B.b.blk] at h1
  have := (Blk.mk.inj (Option.some.inj h1)).2.1
  omega
theorem Both.x'k : ¬ isBlk x' k := fun q => by
  have h1 := B.b.st.has q
  rw [B.a.blk] at h1
  have := (Blk.mk.inj (Option.some.inj h1)).2.1
  omega
theorem Both.bk {t : Nat} (ht : t < 4) : ¬ isBlk (bs.getD t .nils) k := fun q => by
  have h1 := (B.b.bf t ht).1.has q
  rw [B.a.blk] at h1
  have := (Blk.mk.inj (Option.some.inj h1)).2.1
  omega
theorem Both.bx {t : Nat} (ht : t < 4) {j : Nat} (q : isBlk (bs.getD t .nils) j) : ¬ isBlk x j := fun q2 => by
  have h1 := (B.b.bf t ht).1.has q
  rw [B.a.st.has q2] at h1
  have := (Blk.mk.inj (Option.some.inj h1)).2.1
  omega

theorem Both.keep {h' : AHeap} (hk : Kp h.length h h') : Both n h' k x pc V n' k' x' bs pc' W := ⟨B.a.keep hk, B.b.keep hk, B.nn, B.d, B.fV, B.fW⟩

/-- The one goes on. -/
theorem Both.vm {h' : AHeap} {x1 : Cell} {V' : MV} (kv : KpV n k x x1 h h') (a' : VmAt n h' k x1 pc V') (f' : V'.Fit) (hp : ProgAt (h'.take n') pc' W.P) : Both n h' k x1 pc V' n' k' x' bs pc' W := by
  have b := B.b
  refine ⟨a', ⟨Nat.le_trans b.hn kv.kp.1, b.nk, hp, (kv.old _ _ b.blk B.kk B.xk).1, b.st.via fun j c q1 q2 => (kv.old j c q2 (fun e => B.x'k (e ▸ q1)) (fun q => B.d j q q1)).1, b.sep, b.bl, fun t ht => ?_⟩, B.nn, fun j q1 q2 => ?_, f', B.fW⟩
  · obtain ⟨q1, q2, q3⟩ := b.bf t ht
    exact ⟨q1.via fun j c s1 s2 => (kv.old j c s2 (fun e => B.bk ht (e ▸ s1)) (B.bx ht s1)).1, q2, q3⟩
  · exact (kv.old j _ (b.st.has q2) (fun e => B.x'k (e ▸ q2)) (fun q => B.d j q q2)).2 q1

/-- The other goes on. -/
theorem Both.rv {h' : AHeap} {x1 : Cell} {bs1 : List Cell} {W' : MV} (kv : KpV n' k' x' x1 h h') (b' : RvAt n' h' k' x1 bs1 pc' W') (f' : W'.Fit) : Both n h' k x pc V n' k' x1 bs1 pc' W' := by
  have a := B.a
  refine ⟨⟨Nat.le_trans a.hn kv.kp.1, a.nk, by rw [take_keep (kv.kp.mono B.nn)]; exact a.prog, (kv.old _ _ a.blk (fun e => B.kk e.symm) B.x'k).1, a.st.via fun j c q1 q2 => (kv.old j c q2 (fun e => B.xk (e ▸ q1)) (B.d j q1)).1, a.sep⟩, b', B.nn, fun j q1 q2 => ?_, B.fV, f'⟩
  exact (kv.old j _ (a.st.has q1) (fun e => B.xk (e ▸ q1)) (B.d j q1)).2 q2
end both

section
variable {E : Env}

end
end Jq

/- VmCopies: a copy goes on by itself. -/
namespace Jq
open Go

/-- Rows of picks, up to the first that may not be. -/
def MV.runG (V : MV) : List Int → MV × Nat
  | [] => (V, 0)
  | p :: ps => if mayI V p = true then (((V.nx p.toNat).runG ps).1, ((V.nx p.toNat).runG ps).2 + 1) else (V, 0)

theorem mayI_at {V : MV} {p : Int} (h : mayI V p = true) : ∃ j : Nat, p = (j : Int) ∧ V.may j = true ∧ p.toNat = j := by
  unfold mayI at h
  rw [Bool.and_eq_true] at h
  obtain ⟨j, rfl⟩ := Int.eq_ofNat_of_zero_le (of_decide_eq_true h.1)
  exact ⟨j, rfl, h.2, rfl⟩

theorem MV.runG_inv {V : MV} (v : V.Inv) : ∀ l : List Int, (V.runG l).1.Inv ∧ (V.runG l).1.P = V.P ∧ (V.runG l).1.m = V.m ∧ (V.runG l).1.st.length = V.st.length + (V.runG l).2 ∧ (V.runG l).2 ≤ l.length
  | [] => ⟨v, rfl, rfl, rfl, Nat.le_refl _⟩
  | p :: ps => by
    unfold MV.runG
    by_cases h : mayI V p = true
    · obtain ⟨j, rfl, hj, hn⟩ := mayI_at h
      rw [if_pos h, hn]
      obtain ⟨h1, h2, h3, h4, h5⟩ := MV.runG_inv (v.nx hj) ps
      refine ⟨h1, h2.trans (V.nx_P j).1, h3.trans (V.nx_P j).2, ?_, by dsimp only; rw [List.length_cons]; omega⟩
      dsimp only
      rw [h4, V.nx_st, List.length_append, List.length_singleton]; omega
    · rw [if_neg h]
      exact ⟨v, rfl, rfl, rfl, by dsimp only; omega⟩

def ptr37 (k : Nat) : Cell := .ptr k 37 0

section
variable {E : Env}

end

section both
variable {n : Nat} {h : AHeap} {k : Nat} {x : Cell} {pc : List Cell} {V : MV} {n' k' : Nat} {x' : Cell} {bs pc' : List Cell} {W : MV}

end both

section
variable {E : Env}

/-- What is kept of a copy. -/
def CopyOk (n : Nat) (h : AHeap) (k : Nat) (x : Cell) (P : PProg) (cs : List Cell) (pc : List Cell) (x12 x13 : Cell) : Prop :=
  x12 = .nilp ∨ ∃ (kc : Nat) (xc : Cell) (W : MV) (n' k' : Nat) (x' : Cell) (bs : List Cell), x12 = .ptr kc 329 0 ∧ x13 = .ptr k' 37 0 ∧ Both n h kc xc pc W n' k' x' bs cs W ∧ kc ≠ k ∧ (∀ j, isBlk x j → ¬ isBlk xc j) ∧ (∀ j, isBlk x j → ¬ isBlk x' j) ∧ W.P = P ∧ W.st.length ≤ 100

end
end Jq

/- A copy of the document's machine. -/
namespace Jq
open Go

theorem Own.cellsG {n : Nat} {h : AHeap} {x : Cell} {esz len : Nat} {cs : List Cell} (o : Own n h x esz cs len) : slCells h esz x = some cs := by
  have hl := o.1
  rcases o.2 with ⟨rfl, h0⟩ | ⟨k, rfl, _, hb⟩
  · have : cs = [] := List.length_eq_zero_iff.1 (by rw [hl, h0]; simp)
    rw [this]; rfl
  · unfold slCells
    dsimp only
    by_cases h0 : len = 0
    · have : cs = [] := List.length_eq_zero_iff.1 (by rw [hl, h0]; simp)
      rw [if_pos h0, this]
    · rw [if_neg h0, hb]
      simp only
      rw [if_pos ⟨by trivial, by omega⟩, List.drop_zero, List.take_of_length_le (by omega)]

section
variable {E : Env}

end
end Jq

namespace Jq
open Go

/- jacquard/jacquardlaw17.awake: 261 -/
set_option maxRecDepth 100000 in
theorem jacquardlaw17_awake_eq (C : CallF) (L : LoopF) (G : Glo)  (h0 : AHeap) :
    jacquardlaw17_awake.body C L G [] h0 =
    c2 (C 260 [(.c (.str (ByteArray.mk #[116, 48, 32, 102, 48, 32, 102, 49, 46, 49])))] h0) fun y_2 y_3 h_1 => asC y_2 fun x_4 => asB y_3 fun b_5 => c1 (C 187 [] h_1) fun y_7 h_6 => asA y_7 fun l_8 => if (splice (splice (splice [Cell.int .i64 0, Cell.int .i64 0, Cell.int .i64 0] 0 ([(.int .i64 0)] : List Cell)) 1 ([(.int .i64 0)] : List Cell)) 2 ([(.int .i64 0)] : List Cell)).length = 3 * 1 then c3 (C 271 [(.agg l_8), (.c (.int .i64 1)), (.c (.sl h_6.length ((splice (splice (splice [Cell.int .i64 0, Cell.int .i64 0, Cell.int .i64 0] 0 ([(.int .i64 0)] : List Cell)) 1 ([(.int .i64 0)] : List Cell)) 2 ([(.int .i64 0)] : List Cell)).length) 0 3))] (h_6 ++ [some (Blk.mk true 1 (splice (splice (splice [Cell.int .i64 0, Cell.int .i64 0, Cell.int .i64 0] 0 ([(.int .i64 0)] : List Cell)) 1 ([(.int .i64 0)] : List Cell)) 2 ([(.int .i64 0)] : List Cell)))])) fun y_10 y_11 y_12 h_9 => asC y_10 fun x_13 => asI .i64 y_11 fun n_14 => asB y_12 fun b_15 => scK b_5 true (lenK x_4 fun n_16 => some ((n_16 == 3), h_9)) false h_9 fun b_17 h_18 => scK b_17 true (idxSK 1 x_4 2 fun k_19 N_20 o_21 => rdH h_18 k_19 N_20 fun l_22 => atK l_22 o_21 fun q_23 => asI .i64 (.c q_23) fun n_24 => some ((n_24 == 13), h_18)) false h_18 fun b_25 h_26 => scK b_25 true (if (splice (splice (splice [Cell.int .i64 0, Cell.int .i64 0, Cell.int .i64 0] 0 ([(.int .i64 0)] : List Cell)) 1 ([(.int .i64 4)] : List Cell)) 2 ([(.int .i64 13)] : List Cell)).length = 3 * 1 then c1 (C 262 [(.c (.sl h_26.length ((splice (splice (splice [Cell.int .i64 0, Cell.int .i64 0, Cell.int .i64 0] 0 ([(.int .i64 0)] : List Cell)) 1 ([(.int .i64 4)] : List Cell)) 2 ([(.int .i64 13)] : List Cell)).length) 0 3))] (h_26 ++ [some (Blk.mk true 1 (splice (splice (splice [Cell.int .i64 0, Cell.int .i64 0, Cell.int .i64 0] 0 ([(.int .i64 0)] : List Cell)) 1 ([(.int .i64 4)] : List Cell)) 2 ([(.int .i64 13)] : List Cell)))])) fun y_28 h_27 => asS y_28 fun z_29 => some ((ByteArray.toList z_29 == ByteArray.toList (ByteArray.mk #[116, 48, 32, 102, 48, 32, 102, 49, 46, 49])), h_27) else none) false h_26 fun b_30 h_31 => scK b_30 true (lenK x_13 fun n_32 => some ((n_32 == 2), h_31)) false h_31 fun b_33 h_34 => scK b_33 true (some ((n_14 == 2), h_34)) false h_34 fun b_35 h_36 => scK b_35 true (some ((!b_15), h_36)) false h_36 fun b_37 h_38 => finish true h0 [(.c (.bool b_37))] h_38 else none := by kernel_rfl

/- jacquard/jacquardlaw17.PlayTexts: 264 -/
def jacquardlaw17_PlayTexts_k2 (C : CallF) (L : LoopF) (G : Glo) (h0 : AHeap) : Ex → St → Option (List AV × AHeap) :=
  kSeq (fun st => jacquardlaw17_PlayTexts_p1.exec C L G st (jacquardlaw17_PlayTexts.fin G h0)) (jacquardlaw17_PlayTexts.fin G h0)
def jacquardlaw17_PlayTexts_k3 (C : CallF) (L : LoopF) (G : Glo) (h0 : AHeap) : Ex → St → Option (List AV × AHeap) :=
  kBlk 0 (jacquardlaw17_PlayTexts_k2 C L G h0)
def jacquardlaw17_PlayTexts_s1 (x0 : Cell) (z1 : ByteArray) (z5 : ByteArray) (b6 : Bool) (a7 : Int) (h : AHeap) : St := ⟨[.v (.c x0), .v (.c (.str z1)), .top, .top, .top, .v (.c (.str z5)), .v (.c (.bool b6)), .v (.c (.int .i64 a7)), .top, .top, .top, .top, .top, .top, .top, .top, .top, .top, .top, .top, .top, .top, .top, .top, .top, .top, .top, .top, .top, .top, .top, .top, .top, .top, .top, .top, .top, .top, .top, .top, .top, .top, .top, .top, .top, .top, .top, .top, .top, .top, .top, .top, .top, .top, .top, .top, .top, .top, .top, .top, .top, .top, .top, .top, .top, .top, .top, .top, .top, .top, .top, .top, .top, .top, .top, .top, .top, .top, .top, .top, .top, .top, .top, .top, .top, .top, .top, .top, .top, .top, .top, .top, .top, .top, .top, .top, .top, .top, .top, .top, .top, .top, .top, .top, .top, .top, .top, .top, .top, .top, .top, .top, .top, .top, .top, .top, .top, .top, .top, .top, .top, .top], [], h⟩
def jacquardlaw17_PlayTexts_F1 (C : CallF) (L : LoopF) (G : Glo) : St → Option (Ex × St) :=
  roundF (fun st f => jacquardlaw17_PlayTexts_b1.exec C L G st f) [0, 1, 5, 6, 7] [] [(1, [0, 1, 5, 6], [])]
def jacquardlaw17_PlayTexts_x1_1 (x0 : Cell) (z1 : ByteArray) (z5 : ByteArray) (b6 : Bool) (h : AHeap) : St := ⟨[.v (.c x0), .v (.c (.str z1)), .top, .top, .top, .v (.c (.str z5)), .v (.c (.bool b6)), .top, .top, .top, .top, .top, .top, .top, .top, .top, .top, .top, .top, .top, .top, .top, .top, .top, .top, .top, .top, .top, .top, .top, .top, .top, .top, .top, .top, .top, .top, .top, .top, .top, .top, .top, .top, .top, .top, .top, .top, .top, .top, .top, .top, .top, .top, .top, .top, .top, .top, .top, .top, .top, .top, .top, .top, .top, .top, .top, .top, .top, .top, .top, .top, .top, .top, .top, .top, .top, .top, .top, .top, .top, .top, .top, .top, .top, .top, .top, .top, .top, .top, .top, .top, .top, .top, .top, .top, .top, .top, .top, .top, .top, .top, .top, .top, .top, .top, .top, .top, .top, .top, .top, .top, .top, .top, .top, .top, .top, .top, .top, .top, .top, .top, .top], [], h⟩
def jacquardlaw17_PlayTexts_k4 (C : CallF) (L : LoopF) (G : Glo) (h0 : AHeap) : Ex → St → Option (List AV × AHeap) :=
  kSeq (fun st => jacquardlaw17_PlayTexts_p2.exec C L G st (jacquardlaw17_PlayTexts.fin G h0)) (jacquardlaw17_PlayTexts.fin G h0)
def jacquardlaw17_PlayTexts_k5 (C : CallF) (L : LoopF) (G : Glo) (h0 : AHeap) : Ex → St → Option (List AV × AHeap) :=
  kBlk 2 (jacquardlaw17_PlayTexts_k4 C L G h0)
def jacquardlaw17_PlayTexts_s2 (x0 : Cell) (z1 : ByteArray) (b6 : Bool) (x9 : Cell) (a11 : Int) (h : AHeap) : St := ⟨[.v (.c x0), .v (.c (.str z1)), .top, .top, .top, .top, .v (.c (.bool b6)), .top, .top, .v (.c x9), .top, .v (.c (.int .i64 a11)), .top, .top, .top, .top, .top, .top, .top, .top, .top, .top, .top, .top, .top, .top, .top, .top, .top, .top, .top, .top, .top, .top, .top, .top, .top, .top, .top, .top, .top, .top, .top, .top, .top, .top, .top, .top, .top, .top, .top, .top, .top, .top, .top, .top, .top, .top, .top, .top, .top, .top, .top, .top, .top, .top, .top, .top, .top, .top, .top, .top, .top, .top, .top, .top, .top, .top, .top, .top, .top, .top, .top, .top, .top, .top, .top, .top, .top, .top, .top, .top, .top, .top, .top, .top, .top, .top, .top, .top, .top, .top, .top, .top, .top, .top, .top, .top, .top, .top, .top, .top, .top, .top, .top, .top, .top, .top, .top, .top, .top, .top], [], h⟩
def jacquardlaw17_PlayTexts_F2 (C : CallF) (L : LoopF) (G : Glo) : St → Option (Ex × St) :=
  roundF (fun st f => jacquardlaw17_PlayTexts_b2.exec C L G st f) [0, 1, 6, 9, 11] [] [(0, [4], []), (3, [1], [])]
def jacquardlaw17_PlayTexts_x2_0 (b4 : Bool) (h : AHeap) : St := ⟨[.top, .top, .top, .top, .v (.c (.bool b4)), .top, .top, .top, .top, .top, .top, .top, .top, .top, .top, .top, .top, .top, .top, .top, .top, .top, .top, .top, .top, .top, .top, .top, .top, .top, .top, .top, .top, .top, .top, .top, .top, .top, .top, .top, .top, .top, .top, .top, .top, .top, .top, .top, .top, .top, .top, .top, .top, .top, .top, .top, .top, .top, .top, .top, .top, .top, .top, .top, .top, .top, .top, .top, .top, .top, .top, .top, .top, .top, .top, .top, .top, .top, .top, .top, .top, .top, .top, .top, .top, .top, .top, .top, .top, .top, .top, .top, .top, .top, .top, .top, .top, .top, .top, .top, .top, .top, .top, .top, .top, .top, .top, .top, .top, .top, .top, .top, .top, .top, .top, .top, .top, .top, .top, .top, .top, .top], [], h⟩
def jacquardlaw17_PlayTexts_x2_3 (z1 : ByteArray) (h : AHeap) : St := ⟨[.top, .v (.c (.str z1)), .top, .top, .top, .top, .top, .top, .top, .top, .top, .top, .top, .top, .top, .top, .top, .top, .top, .top, .top, .top, .top, .top, .top, .top, .top, .top, .top, .top, .top, .top, .top, .top, .top, .top, .top, .top, .top, .top, .top, .top, .top, .top, .top, .top, .top, .top, .top, .top, .top, .top, .top, .top, .top, .top, .top, .top, .top, .top, .top, .top, .top, .top, .top, .top, .top, .top, .top, .top, .top, .top, .top, .top, .top, .top, .top, .top, .top, .top, .top, .top, .top, .top, .top, .top, .top, .top, .top, .top, .top, .top, .top, .top, .top, .top, .top, .top, .top, .top, .top, .top, .top, .top, .top, .top, .top, .top, .top, .top, .top, .top, .top, .top, .top, .top, .top, .top, .top, .top, .top, .top], [], h⟩
theorem jacquardlaw17_PlayTexts_r1 (C : CallF) (L : LoopF) (G : Glo) (x0 : Cell) (z1 : ByteArray) (z5 : ByteArray) (b6 : Bool) (a7 : Int) (h : AHeap) :
    jacquardlaw17_PlayTexts_F1 C L G (jacquardlaw17_PlayTexts_s1 x0 z1 z5 b6 a7 h) =
    lenK x0 fun n_5 => if (decide (a7 < n_5)) = true then idxSK 1 x0 a7 fun k_6 N_7 o_8 => rdH h k_6 N_7 fun l_9 => atK l_9 o_8 fun q_10 => asI .i64 (.c q_10) fun n_11 => c1 (C 168 [(.c (.int .i64 n_11))] h) fun y_13 h_12 => asS y_13 fun z_14 => scK b6 true (some ((!(ByteArray.toList z_14 == ByteArray.toList (ByteArray.mk #[]))), h_12)) false h_12 fun b_15 h_16 => if (decide (a7 > 0)) = true then if ByteArray.size z5 + ByteArray.size (ByteArray.mk #[32]) ≤ 1099511627776 then if ByteArray.size (z5 ++ (ByteArray.mk #[32])) + ByteArray.size z_14 ≤ 1099511627776 then some (.normal, (jacquardlaw17_PlayTexts_s1 x0 z1 ((z5 ++ (ByteArray.mk #[32])) ++ z_14) b_15 (G.wrap .i64 (a7 + 1)) h_16)) else none else none else if ByteArray.size z5 + ByteArray.size z_14 ≤ 1099511627776 then some (.normal, (jacquardlaw17_PlayTexts_s1 x0 z1 (z5 ++ z_14) b_15 (G.wrap .i64 (a7 + 1)) h_16)) else none else some ((.exit 0), (jacquardlaw17_PlayTexts_x1_1 x0 z1 z5 b6 h)) := by kernel_rfl
theorem jacquardlaw17_PlayTexts_r2 (C : CallF) (L : LoopF) (G : Glo) (x0 : Cell) (z1 : ByteArray) (b6 : Bool) (x9 : Cell) (a11 : Int) (h : AHeap) :
    jacquardlaw17_PlayTexts_F2 C L G (jacquardlaw17_PlayTexts_s2 x0 z1 b6 x9 a11 h) =
    lenK x9 fun n_43 => scK (decide (a11 < n_43)) true (some (b6, h)) false h fun b_44 h_45 => if b_44 = true then idxSK 1 x9 a11 fun k_46 N_47 o_48 => rdH h_45 k_46 N_47 fun l_49 => atK l_49 o_48 fun q_50 => asI .i64 (.c q_50) fun n_51 => idxSK 1 x0 a11 fun k_52 N_53 o_54 => rdH h_45 k_52 N_53 fun l_55 => atK l_55 o_54 fun q_56 => asI .i64 (.c q_56) fun n_57 => if (n_51 != n_57) = true then some (.ret, (jacquardlaw17_PlayTexts_x2_0 false h_45)) else some (.normal, (jacquardlaw17_PlayTexts_s2 x0 z1 b6 x9 (G.wrap .i64 (a11 + 1)) h_45)) else some ((.exit 2), (jacquardlaw17_PlayTexts_x2_3 z1 h_45)) := by kernel_rfl
theorem jacquardlaw17_PlayTexts_e2_0 (C : CallF) (L : LoopF) (G : Glo) (h0 : AHeap) (b4 : Bool) (h : AHeap) :
    (jacquardlaw17_PlayTexts_k5 C L G h0) .ret (jacquardlaw17_PlayTexts_x2_0 b4 h) =
    some ([(.c (.bool b4))], h) := by kernel_rfl
theorem jacquardlaw17_PlayTexts_e2_3 (C : CallF) (L : LoopF) (G : Glo) (h0 : AHeap) (z1 : ByteArray) (h : AHeap) :
    (jacquardlaw17_PlayTexts_k5 C L G h0) (.exit 2) (jacquardlaw17_PlayTexts_x2_3 z1 h) =
    c2 (C 260 [(.c (.str z1))] h) fun y_59 y_60 h_58 => asC y_59 fun x_61 => asB y_60 fun b_62 => scK (!b_62) false (c1 (C 262 [(.c x_61)] h_58) fun y_64 h_63 => asS y_64 fun z_65 => some ((ByteArray.toList z_65 == ByteArray.toList z1), h_63)) true h_58 fun b_66 h_67 => scK b_66 true (scK b_62 false (lenK x_61 fun n_68 => some ((n_68 == 0), h_67)) true h_67 fun b_69 h_70 => some (b_69, h_70)) false h_67 fun b_71 h_72 => scK b_71 true (c1 (C 261 [] h_72) fun y_74 h_73 => asB y_74 fun b_75 => some (b_75, h_73)) false h_72 fun b_76 h_77 => some ([(.c (.bool b_76))], h_77) := by kernel_rfl
theorem jacquardlaw17_PlayTexts_e1_1 (C : CallF) (L : LoopF) (G : Glo) (h0 : AHeap) (x0 : Cell) (z1 : ByteArray) (z5 : ByteArray) (b6 : Bool) (h : AHeap) :
    (jacquardlaw17_PlayTexts_k3 C L G h0) (.exit 0) (jacquardlaw17_PlayTexts_x1_1 x0 z1 z5 b6 h) =
    c1 (C 262 [(.c x0)] h) fun y_18 h_17 => asS y_18 fun z_19 => if (!(ByteArray.toList z_19 == ByteArray.toList z5)) = true then some ([(.c (.bool false))], h_17) else c2 (C 260 [(.c (.str z5))] h_17) fun y_21 y_22 h_20 => asC y_21 fun x_23 => asB y_22 fun b_24 => scK b6 true (scK (!b_24) false (lenK x_23 fun n_25 => lenK x0 fun n_26 => some ((n_25 != n_26), h_20)) true h_20 fun b_27 h_28 => some (b_27, h_28)) false h_20 fun b_29 h_30 => scK b_29 false (scK (!b6) true (some (b_24, h_30)) false h_30 fun b_31 h_32 => scK b_31 true (lenK x0 fun n_33 => some ((decide (n_33 > 0)), h_32)) false h_32 fun b_34 h_35 => scK b_34 true (c1 (C 262 [(.c x_23)] h_35) fun y_37 h_36 => asS y_37 fun z_38 => some ((!(ByteArray.toList z_38 == ByteArray.toList z5)), h_36)) false h_35 fun b_39 h_40 => some (b_39, h_40)) true h_30 fun b_41 h_42 => if b_41 = true then some ([(.c (.bool false))], h_42) else (L (jacquardlaw17_PlayTexts_F2 C L G) (jacquardlaw17_PlayTexts_s2 x0 z1 b6 x_23 0 h_42)).bind fun p_78 => (jacquardlaw17_PlayTexts_k5 C L G h0) p_78.1 p_78.2 := by kernel_rfl
set_option maxRecDepth 100000 in
theorem jacquardlaw17_PlayTexts_eq (C : CallF) (L : LoopF) (G : Glo) (x0 : Cell) (z1 : ByteArray) (h0 : AHeap) :
    jacquardlaw17_PlayTexts.body C L G [(.c x0), (.c (.str z1))] h0 =
    lenK x0 fun n_1 => if (decide (n_1 > 200)) = true then c1 (C 261 [] h0) fun y_3 h_2 => asB y_3 fun b_4 => some ([(.c (.bool b_4))], h_2) else (L (jacquardlaw17_PlayTexts_F1 C L G) (jacquardlaw17_PlayTexts_s1 x0 z1 (ByteArray.mk #[]) true 0 h0)).bind fun p_79 => (jacquardlaw17_PlayTexts_k3 C L G h0) p_79.1 p_79.2 := by kernel_rfl


end Jq

/- Any row of picks: each may be picked where it stands, and it goes on as long as something may. -/
namespace Jq
open Go

/-- Each pick of the row may be picked where it stands. -/
def MV.whole (V : MV) (l : List Int) : Prop := (V.runG l).2 = l.length
/-- Where the row comes to. -/
def MV.runs (V : MV) (l : List Int) : MV := (V.runG l).1

theorem MV.runs_inv {V : MV} (v : V.Inv) (l : List Int) : (V.runs l).Inv ∧ (V.runs l).P = V.P ∧ (V.runs l).m = V.m := ⟨(MV.runG_inv v l).1, (MV.runG_inv v l).2.1, (MV.runG_inv v l).2.2.1⟩
/-- A row of numbers is apart from a machine. -/
theorem RvAt.apart {n k : Nat} {h : AHeap} {x : Cell} {bs pc : List Cell} {V : MV} (a : RvAt n h k x bs pc V) {n1 len : Nat} {y : Cell} {cs : List Cell} (o : Own n1 h y 1 cs len) {j : Nat} (hj : isBlk y j) : j ≠ k ∧ ¬ isBlk x j ∧ ∀ t, t < 4 → ¬ isBlk (bs.getD t .nils) j := by
  have h1 := o.has hj
  refine ⟨fun e => ?_, fun q => ?_, fun t ht q => ?_⟩
  · rw [e, a.blk] at h1
    have := (Blk.mk.inj (Option.some.inj h1)).2.1
    omega
  · rw [a.st.has q] at h1
    have := (Blk.mk.inj (Option.some.inj h1)).2.1
    omega
  · rw [(a.bf t ht).1.has q] at h1
    have := (Blk.mk.inj (Option.some.inj h1)).2.1
    omega

section
variable {E : Env}

end
end Jq

/- Rows of picks are played. -/
namespace Jq
open Go

/-- What is asked of a program so that it may be played. -/
structure Plays (P : PProg) (m : Int) : Prop where
  small : P.small
  hu : ∀ x ∈ P.locs, 0 ≤ x ∧ x < 256
  ll : P.locs.length ≤ 1000
  il : P.init.length ≤ 4
  hm : 1 ≤ m ∧ m ≤ 3
  pok : pokB P = true
  inv : (MV.new P m).Inv
  good : P.good
  n4 : P.thr.length ≤ 4

section
variable {E : Env}

theorem mayI_no {V : MV} {q : Int} (h : mayI V q = false) : hasI V.word q = false := by rw [← mayI_has]; exact h

theorem prun_R (hE : play_run_In E) {h : AHeap} {pc : List Cell} {P : PProg} (p : ProgAt h pc P) {m : Int} (pl : Plays P m) {y : Cell} {l : List Int} (hy : SlAt h y 1 (intC .i64 l) l.length) (hlow : Low h.length y) (hlen : l.length < 90000) :
    ∃ n k x' pc' h', R E 278 [.agg pc, .c (.int .i64 m), .c y] h = some ([.c (.ptr k 329 0), .c (.int .i64 (((MV.new P m).runG l).2 : Int))], h') ∧ VmAt n h' k x' pc' ((MV.new P m).runs l) ∧ h.length ≤ n ∧ Kp h.length h h' := by
  obtain ⟨n, k0, pc', h1, r1, a1, hn, k1⟩ := VNew_R hE.c171 p pl.small pl.hu pl.ll pl.il pl.hm pl.pok
  have key : ∀ (t : List Int) (j : Nat) (V : MV) (x : Cell) (h2 : AHeap), l.drop j = t → j ≤ l.length → V.st.length = j → V.Inv → VmAt n h2 k0 x pc' V → Kp h.length h h2 →
      ∃ x' h3, (Lim (play_run_F1 (R E) Lim E.glob) (play_run_s1 y (.ptr k0 329 0) y (l.length : Int) (j : Int) h2)).bind (fun p_17 => (play_run_k3 (R E) Lim E.glob h) p_17.1 p_17.2) = some ([.c (.ptr k0 329 0), .c (.int .i64 ((j + (V.runG t).2 : Nat) : Int))], h3) ∧ VmAt n h3 k0 x' pc' (V.runG t).1 ∧ Kp h.length h h3 := by
    intro t
    induction t with
    | nil =>
      intro j V x h2 hd hj hst v a kk
      have hjl : j = l.length := by
        have := congrArg List.length hd
        rw [List.length_drop, List.length_nil] at this; omega
      subst hjl
      have hy2 := hy.keep hlow kk
      have e1 : play_run_F1 (R E) Lim E.glob (play_run_s1 y (.ptr k0 329 0) y (l.length : Int) (l.length : Int) h2) = some (.exit 0, play_run_x1_1 y (.ptr k0 329 0) h2) := by
        rw [play_run_r1, if_neg (by simp)]
      refine ⟨x, h2, ?_, a, kk⟩
      rw [Lim_exit e1, bind_ok]
      dsimp only
      rw [play_run_e1_1, hy2.len]
      rfl
    | cons q t ih =>
      intro j V x h2 hd hj hst v a kk
      have hjl : j < l.length := by
        rcases Nat.lt_or_ge j l.length with c | c
        · exact c
        · rw [List.drop_of_length_le c] at hd; cases hd
      have hq : l[j]? = some q := by
        have := congrArg (fun z => z[0]?) hd
        simp only [List.getElem?_drop, List.getElem?_cons_zero, Nat.add_zero] at this
        exact this
      have hd2 : l.drop (j + 1) = t := by
        have := congrArg (List.drop 1) hd
        rw [List.drop_drop] at this
        simpa using this
      have hy2 := hy.keep hlow kk
      unfold MV.runG
      by_cases hm : mayI V q = true
      · obtain ⟨i, rfl, hi, hin⟩ := mayI_at hm
        rw [if_pos hm, hin]
        obtain ⟨x3, h3, r3, a3, k3⟩ := Pick_R hE.c173 a v (by omega) hi
        have e1 : play_run_F1 (R E) Lim E.glob (play_run_s1 y (.ptr k0 329 0) y (l.length : Int) (j : Int) h2) = some (.normal, play_run_s1 y (.ptr k0 329 0) y (l.length : Int) ((j + 1 : Nat) : Int) h3) := by
          rw [play_run_r1, if_pos (by simp; omega), hy2.get1 hjl (intC_get hq), asI_ok, r3, c2_ok, asA_ok, asB_ok, if_pos (by exact ⟨rfl, rfl, rfl⟩), if_neg (by simp), g_succ (by omega)]
        obtain ⟨x4, h4, r4, a4, k4⟩ := ih (j + 1) (V.nx i) x3 h3 hd2 (by omega) (by rw [V.nx_st, List.length_append, List.length_singleton, hst]) (v.nx hi) a3 (kk.trans (k3.kp.mono hn))
        refine ⟨x4, h4, ?_, a4, k4⟩
        have hL : ∀ r, Lim (play_run_F1 (R E) Lim E.glob) (play_run_s1 y (.ptr k0 329 0) y (l.length : Int) ((j + 1 : Nat) : Int) h3) = some r → Lim (play_run_F1 (R E) Lim E.glob) (play_run_s1 y (.ptr k0 329 0) y (l.length : Int) (j : Int) h2) = some r := fun r hr => Lim_next e1 hr
        cases hl : Lim (play_run_F1 (R E) Lim E.glob) (play_run_s1 y (.ptr k0 329 0) y (l.length : Int) ((j + 1 : Nat) : Int) h3) with
        | none => rw [hl] at r4; cases r4
        | some r =>
          rw [hl] at r4
          rw [hL r hl, r4, show j + 1 + ((V.nx i).runG t).2 = j + (((V.nx i).runG t).2 + 1) by omega]
      · rw [if_neg hm]
        have hm' : mayI V q = false := by simpa using hm
        have r3 := Pick_no hE.c173 a v (mayI_no hm')
        have e1 : play_run_F1 (R E) Lim E.glob (play_run_s1 y (.ptr k0 329 0) y (l.length : Int) (j : Int) h2) = some (.ret, play_run_x1_0 (.ptr k0 329 0) (j : Int) h2) := by
          rw [play_run_r1, if_pos (by simp; omega), hy2.get1 hjl (intC_get hq), asI_ok, r3, c2_ok, asA_ok, asB_ok, if_pos (by exact ⟨rfl, rfl, rfl⟩), if_pos (by simp)]
        refine ⟨x, h2, ?_, a, kk⟩
        rw [Lim_ret e1, bind_ok]
        dsimp only
        rw [play_run_e1_0]
        rfl
  obtain ⟨x', h3, e1, e2, e3⟩ := key l 0 (MV.new P m) .nils h1 rfl (by omega) rfl pl.inv a1 k1
  refine ⟨n, k0, x', pc', h3, R_intro hE.fn ?_, e2, hn, e3⟩
  rw [play_run_eq, if_pos (by exact ⟨rfl, p.len⟩), r1, c2_ok, asC_ok, asI_ok, if_neg (by simp), hy.len]
  rw [Nat.zero_add, show ((0 : Nat) : Int) = 0 from rfl] at e1
  exact e1

theorem PRun_R (hE : play_Run_In E) {h : AHeap} {pc : List Cell} {P : PProg} (p : ProgAt h pc P) {m : Int} (pl : Plays P m) {y : Cell} {l : List Int} (hy : SlAt h y 1 (intC .i64 l) l.length) (hlow : Low h.length y) (hlen : l.length < 90000) :
    ∃ z h', R E 271 [.agg pc, .c (.int .i64 m), .c y] h = some ([.c z, .c (.int .i64 (((MV.new P m).runG l).2 : Int)), .c (.bool (((MV.new P m).runs l).word == 0))], h') ∧ Own h.length h' z 7 (stepsC ((MV.new P m).runs l).st) ((MV.new P m).runs l).st.length ∧ Kp h.length h h' := by
  obtain ⟨n, k, x', pc', h1, r1, a1, hn, k1⟩ := prun_R hE.c278 p pl hy hlow hlen
  obtain ⟨v, vP, vm⟩ := MV.runs_inv pl.inv l
  have vst := (MV.runG_inv pl.inv l).2.2.2
  have hst : ((MV.new P m).runs l).st.length ≤ 100000 := by
    show ((MV.new P m).runG l).1.st.length ≤ 100000
    rw [vst.1, show (MV.new P m).st.length = 0 from rfl]
    have := vst.2
    omega
  obtain ⟨z, h2, r2, o2, k2⟩ := Steps_R hE.c175 a1 v.fit hst
  have a2 := a1.keep k2
  have r3 := Done_R hE.c174 a2.blk v.fit (prog_at a2.prog a2.hn (Kp.refl n h2))
  refine ⟨z, h2, R_intro hE.fn ?_, o2.monoN k1.1, k1.trans (k2.mono k1.1)⟩
  rw [play_Run_eq, if_pos (by exact ⟨rfl, p.len⟩), r1, c2_ok, asC_ok, asI_ok]
  rw [ptr_nil, if_neg (by simp), r2, c1_ok, asC_ok, r3, c1_ok, asB_ok]
end
end Jq

/- Whether a row is maximal, and how it ends; always the least or the greatest of those that may be picked. -/
namespace Jq
open Go

/-- All of a row were taken, and nothing is left. -/
def maxB (P : PProg) (m : Int) (l : List Int) : Bool := ((MV.new P m).runG l).2 == l.length && ((MV.new P m).runs l).word == 0

/-- Always the one that is told. -/
structure Greedy (pk : MV → Nat) (V : MV) (l : List Int) : Prop where
  whole : V.whole l
  word : (V.runs l).word = 0
  at_ : ∀ i, i < l.length → l[i]? = some ((pk (V.runs (l.take i)) : Nat) : Int)

def pkF (V : MV) : Nat := (bitsL V.word).getD 0 0
def pkL (V : MV) : Nat := (bitsL V.word).getD ((bitsL V.word).length - 1) 0

section
variable {E : Env}

end
end Jq

/- Rows of picks: what the document fixes. -/
namespace Jq
open Go

theorem sb_good : sbP.good := by
  refine ⟨sb_small.fits, fun c hc => ?_⟩
  simp [sbP] at hc
  rcases hc with rfl | rfl <;>
  · intro i hi
    simp [sbC] at hi
    rcases hi with rfl | rfl <;> exact ⟨by decide, by decide, by decide, by decide⟩

def sbW : MV := MV.new sbP 1
theorem sbW_inv : sbW.Inv := MV.new_inv (by omega) sb_small sb_fld (by decide) (by decide) (fun c hc => by
  simp [sbP] at hc
  rcases hc with rfl | rfl <;> decide)

theorem sb_plays : Plays sbP 1 := ⟨sb_small, by decide, by decide, by decide, by omega, sb_pok, sbW_inv, sb_good, by decide⟩

theorem sb_run : (sbW.runG [0, 0, 0]).2 = 2 ∧ ((sbW.runs [0, 0, 0]).word == 0) = false ∧ (sbW.runs [0, 0, 0]).st.length = 2 := by decide +kernel

theorem picks_text : picksOf (parts [116, 48, 32, 102, 48, 32, 102, 49, 46, 49]) = some [0, 4, 13] := by decide +kernel
theorem text_picks : (ByteArray.toList (textOf [0, 4, 13]) == ByteArray.toList (ByteArray.mk #[116, 48, 32, 102, 48, 32, 102, 49, 46, 49])) = true := by kernel_rfl

section
variable {E : Env}

theorem awake17_R (hE : jacquardlaw17_awake_In E) (hx : Ext17 E) (h : AHeap) : R E 261 [] h = some ([.c (.bool true)], h) := by
  have hM : maxBytes = 1099511627776 := rfl
  have hp : parseX [.c (.str (ByteArray.mk #[116, 48, 32, 102, 48, 32, 102, 49, 46, 49]))] h = some ([.c (.sl h.length 3 0 3), .c (.bool true)], h ++ [some ⟨true, 1, intC .i64 [0, 4, 13]⟩]) := by
    unfold parseX
    dsimp only
    rw [if_neg (by decide), if_pos (by decide +kernel), picks_text]
    rfl
  have r1 := Parse_R hx hE.x260 hp
  generalize hH : h ++ [some (Blk.mk true 1 (intC .i64 [0, 4, 13]))] = H at r1
  have k1 : Kp h.length h H := by rw [← hH]; exact Kp.app _ (Nat.le_refl _)
  have o1 : Own h.length H (.sl h.length 3 0 3) 1 (intC .i64 [0, 4, 13]) 3 := ⟨rfl, .inr ⟨h.length, rfl, Nat.le_refl _, by rw [← hH]; exact blk_new _ _⟩⟩
  obtain ⟨cs, h2, r2, p2, k2⟩ := SB_R hE.c187 H
  have k3 : Kp h2.length h2 (h2 ++ [some (Blk.mk true 1 (intC .i64 [0, 0, 0]))]) := Kp.app _ (Nat.le_refl _)
  have o3 : SlAt (h2 ++ [some (Blk.mk true 1 (intC .i64 [0, 0, 0]))]) (.sl h2.length 3 0 3) 1 (intC .i64 [0, 0, 0]) 3 := SlAt.whole (blk_new _ _) rfl
  obtain ⟨z, h4, r4, o4, k4⟩ := PRun_R hE.c271 (p2.keep k3) sb_plays (y := .sl h2.length 3 0 3) (l := [0, 0, 0]) o3 (.inr (by simp)) (by decide)
  obtain ⟨s1, s2, s3⟩ := sb_run
  have e1 : ((MV.new sbP 1).runG [0, 0, 0]).2 = 2 := s1
  have e2 : (((MV.new sbP 1).runs [0, 0, 0]).word == 0) = false := s2
  have e3 : ((MV.new sbP 1).runs [0, 0, 0]).st.length = 2 := s3
  rw [e1, e2] at r4
  rw [e3] at o4
  have kk : Kp h.length h h4 := ((k1.trans (k2.mono k1.1)).trans (k3.mono (Nat.le_trans k1.1 k2.1))).trans (k4.mono (Nat.le_trans k1.1 (Nat.le_trans k2.1 k3.1)))
  have o1' : Own h.length h4 (.sl h.length 3 0 3) 1 (intC .i64 [0, 4, 13]) 3 := ((o1.keepK k2).keepK k3).keepK k4
  have k5 : Kp h4.length h4 (h4 ++ [some (Blk.mk true 1 (intC .i64 [0, 4, 13]))]) := Kp.app _ (Nat.le_refl _)
  have o5 : SlAt (h4 ++ [some (Blk.mk true 1 (intC .i64 [0, 4, 13]))]) (.sl h4.length 3 0 3) 1 (intC .i64 [0, 4, 13]) 3 := SlAt.whole (blk_new _ _) rfl
  obtain ⟨h6, r6, k6⟩ := Text_R hE.c262 hx (y := .sl h4.length 3 0 3) (l := [0, 4, 13]) o5 (.inr (by simp)) (by decide)
  have kk6 : Kp h.length h h6 := (kk.trans (k5.mono kk.1)).trans (k6.mono (Nat.le_trans kk.1 k5.1))
  have o4' : Own H.length h6 z 7 (stepsC ((MV.new sbP 1).runs [0, 0, 0]).st) 2 := ((o4.monoN (Nat.le_trans k2.1 k3.1)).keepK k5).keepK k6
  have a1 : splice (splice (splice [Cell.int .i64 0, Cell.int .i64 0, Cell.int .i64 0] 0 ([(.int .i64 0)] : List Cell)) 1 ([(.int .i64 0)] : List Cell)) 2 ([(.int .i64 0)] : List Cell) = intC .i64 [0, 0, 0] := rfl
  have a2 : splice (splice (splice [Cell.int .i64 0, Cell.int .i64 0, Cell.int .i64 0] 0 ([(.int .i64 0)] : List Cell)) 1 ([(.int .i64 4)] : List Cell)) 2 ([(.int .i64 13)] : List Cell) = intC .i64 [0, 4, 13] := rfl
  refine R_intro hE.fn ?_
  rw [jacquardlaw17_awake_eq, a1, a2, r1, c2_ok, asC_ok, asB_ok, r2, c1_ok, asA_ok, if_pos (by rfl), show (intC .i64 [0, 0, 0]).length = 3 from rfl, r4, c3_ok, asC_ok, asI_ok, asB_ok, scK_ok, o1'.at.len, bind_ok]
  dsimp only
  rw [show (((3 : Nat) : Int) == 3) = true from rfl, scK_ok]
  have g := o1'.at.get1 (i := 2) (by omega) (c := .int .i64 13) rfl (f := fun q_23 => asI .i64 (.c q_23) fun n_24 => some ((n_24 == 13), h4))
  rw [show ((2 : Nat) : Int) = 2 from rfl] at g
  rw [g, asI_ok, bind_ok]
  dsimp only
  rw [show (((13 : Int)) == 13) = true from rfl, scK_ok, if_pos (by rfl), show (intC .i64 [0, 4, 13]).length = 3 from rfl, r6, c1_ok, asS_ok, text_picks, bind_ok]
  dsimp only
  rw [scK_ok, o4'.at.len, bind_ok]
  dsimp only
  rw [show (((2 : Nat) : Int) == 2) = true from rfl, scK_and, scK_and]
  exact finish_gc kk6 (by simp [avOk, AV.cells, idOk])
end
end Jq

/- Names of picks: told and read again. -/
namespace Jq
open Go

theorem parts_none : ∀ {a : List UInt8}, (∀ b ∈ a, b ≠ 32) → parts a = [a]
  | [], _ => rfl
  | b :: a, h => by
    have h1 := parts_none (a := a) fun c hc => h c (List.mem_cons_of_mem _ hc)
    rw [parts, if_neg (h b List.mem_cons_self), h1]

theorem parts_app : ∀ {a : List UInt8} (r : List UInt8), (∀ b ∈ a, b ≠ 32) → parts (a ++ 32 :: r) = a :: parts r
  | [], r, _ => by rw [List.nil_append, parts, if_pos rfl]
  | b :: a, r, h => by
    have h1 := parts_app (a := a) r fun c hc => h c (List.mem_cons_of_mem _ hc)
    rw [List.cons_append, parts, if_neg (h b List.mem_cons_self), h1]

theorem parts_len : ∀ l : List UInt8, (parts l).length ≤ l.length + 1
  | [] => by simp [parts]
  | b :: l => by
    have h1 := parts_len l
    rw [parts]
    split
    · rw [List.length_cons, List.length_cons]; omega
    · split
      · rename_i p ps hp
        rw [hp, List.length_cons] at h1
        rw [List.length_cons, List.length_cons]; omega
      · simp

theorem join_parts : ∀ l : List UInt8, Lib.join (parts l) [32] = l
  | [] => rfl
  | b :: l => by
    have h1 := join_parts l
    have h2 := parts_ne l
    rw [parts]
    cases hp : parts l with
    | nil => exact absurd hp h2
    | cons p ps =>
      rw [hp, Lib.join_cons] at h1
      by_cases hb : b = 32
      · rw [if_pos hb, Lib.join_cons, List.nil_append]
        unfold Lib.joinTail at h1 ⊢
        rw [List.map_cons, List.flatten_cons, List.append_assoc, h1, hb]; rfl
      · rw [if_neg hb]
        dsimp only
        rw [Lib.join_cons, List.cons_append, h1]

theorem pickOf_name {w : List UInt8} (h : pickOf w ≠ 24) : pickOf w < 24 ∧ (nameOf (pickOf w : Int)).data.toList = w := by
  unfold pickOf at h ⊢
  cases hf : (List.range 24).find? fun (i : Nat) => decide ((nameOf (i : Int)).data.toList = w) with
  | none => rw [hf] at h; exact absurd rfl h
  | some i =>
    have h1 := List.find?_some hf
    have h2 := List.mem_of_find?_eq_some hf
    rw [List.mem_range] at h2
    exact ⟨h2, of_decide_eq_true h1⟩

theorem names_picks : ∀ {ws : List (List UInt8)} {l : List Int}, picksOf ws = some l → (namesOf l).map (·.data.toList) = ws ∧ l.length = ws.length
  | [], l, h => by cases h; exact ⟨rfl, rfl⟩
  | w :: ws, l, h => by
    unfold picksOf at h
    by_cases hw : pickOf w = 24
    · rw [if_pos hw] at h; cases h
    · rw [if_neg hw] at h
      cases hp : picksOf ws with
      | none => rw [hp] at h; cases h
      | some q =>
        rw [hp] at h; cases h
        obtain ⟨h1, h2⟩ := names_picks hp
        refine ⟨?_, by rw [List.length_cons, List.length_cons, h2]⟩
        unfold namesOf at h1 ⊢
        rw [List.map_cons, List.map_cons, h1, (pickOf_name hw).2]

/-- What is read is told as it was. -/
theorem text_picksOf {s : ByteArray} {l : List Int} (h : picksOf (parts s.data.toList) = some l) : textOf l = s := by
  unfold textOf joined
  rw [(names_picks h).1, show (ByteArray.mk #[32]).data.toList = [32] from rfl, join_parts]

theorem text_nil : textOf [] = ByteArray.mk #[] := rfl

theorem name_pick : ∀ i : Nat, i < 24 → pickOf (nameOf (i : Int)).data.toList = i := by decide +kernel
theorem name_blank : ∀ i : Nat, i < 24 → ∀ b ∈ (nameOf (i : Int)).data.toList, b ≠ 32 := by decide +kernel
theorem name_pos : ∀ i : Nat, i < 24 → (nameOf (i : Int)).data.toList ≠ [] := by decide +kernel

section
variable {E : Env}

/-- Any text, not too long, is a row of picks or none. -/
theorem Parse_any (hx : Ext17 E) (hn : E.fn 260 = none) {s : ByteArray} (hs : s.size ≤ 1000000000) (h : AHeap) :
    (∃ l z h', R E 260 [.c (.str s)] h = some ([.c z, .c (.bool true)], h') ∧ Own h.length h' z 1 (intC .i64 l) l.length ∧ Kp h.length h h' ∧ textOf l = s ∧ l.length ≤ s.size + 1 ∧ (s.size ≠ 0 → picksOf (parts s.data.toList) = some l) ∧ (s.size = 0 → l = [])) ∨
    (R E 260 [.c (.str s)] h = some ([.c .nils, .c (.bool false)], h) ∧ s.size ≠ 0 ∧ picksOf (parts s.data.toList) = none) := by
  have hpl := parts_len s.data.toList
  have hsz : s.data.toList.length = s.size := rfl
  by_cases h0 : s.size = 0
  · refine .inl ⟨[], .nils, h, Parse_R hx hn ?_, Own.nil _ _ _, Kp.refl _ _, ?_, by simp, fun e => absurd h0 e, fun _ => rfl⟩
    · unfold parseX
      dsimp only
      rw [if_pos h0]
    · have : s.data.toList = [] := List.length_eq_zero_iff.1 h0
      rw [text_nil]
      cases s with
      | mk d => rw [show d = #[] from Array.toList_inj.1 this]
  · cases hp : picksOf (parts s.data.toList) with
    | none =>
      refine .inr ⟨Parse_R hx hn ?_, h0, rfl⟩
      unfold parseX
      dsimp only
      rw [if_neg h0, if_pos ⟨by omega, by omega⟩, hp]
    | some l =>
      have hl := (names_picks hp).2
      refine .inl ⟨l, .sl h.length l.length 0 l.length, h ++ [some ⟨true, 1, intC .i64 l⟩], Parse_R hx hn ?_, ⟨by rw [intC_len, Nat.mul_one], .inr ⟨h.length, by rw [intC_len], Nat.le_refl _, blk_new _ _⟩⟩, Kp.app _ (Nat.le_refl _), text_picksOf hp, by omega, fun _ => rfl, fun e => absurd e h0⟩
      unfold parseX
      dsimp only
      rw [if_neg h0, if_pos ⟨by omega, by omega⟩, hp]
end
end Jq

/- PlayTexts: rows of picks are told and read again; any text is such a row or none. -/
namespace Jq
open Go

def textB (l : List Int) : List UInt8 := Lib.join ((namesOf l).map (·.data.toList)) [32]
theorem textOf_B (l : List Int) : textOf l = ⟨(textB l).toArray⟩ := rfl
theorem textOf_data (l : List Int) : (textOf l).data.toList = textB l := by rw [textOf_B]
theorem textB_len (l : List Int) : (textB l).length ≤ 5 * l.length := join_names l

theorem textB_snoc {l : List Int} (hl : l ≠ []) (q : Int) : textB (l ++ [q]) = textB l ++ 32 :: (nameOf q).data.toList := by
  cases l with
  | nil => exact absurd rfl hl
  | cons i r =>
    unfold textB namesOf
    rw [List.cons_append, List.map_cons, List.map_cons, List.map_cons, List.map_cons, Lib.join_cons, Lib.join_cons, List.map_append, List.map_append]
    unfold Lib.joinTail
    rw [List.map_append, List.flatten_append, List.append_assoc]
    simp

theorem textOf_snoc {l : List Int} (hl : l ≠ []) (q : Int) : textOf (l ++ [q]) = (textOf l ++ ByteArray.mk #[32]) ++ nameOf q := by
  rw [textOf_B, textOf_B, textB_snoc hl]
  apply ByteArray.ext
  apply Array.toList_inj.1
  simp [ByteArray.data_append]

theorem textOf_one (q : Int) : textOf [q] = ByteArray.mk #[] ++ nameOf q := by
  rw [textOf_B]
  apply ByteArray.ext
  apply Array.toList_inj.1
  simp [ByteArray.data_append, textB, namesOf, Lib.join_one]

def goodP (q : Int) : Bool := decide (0 ≤ q) && decide (q < 24)
theorem name_good (q : Int) : (!(ByteArray.toList (nameOf q) == ByteArray.toList (ByteArray.mk #[]))) = goodP q := by
  unfold goodP
  by_cases h : 0 ≤ q ∧ q < 24
  · obtain ⟨i, rfl⟩ := Int.eq_ofNat_of_zero_le h.1
    rw [name_some i (by omega)]
    simp; omega
  · rw [name_none h]
    simp; omega

/-- Good picks are read as they were. -/
theorem picks_good : ∀ {l : List Int}, l ≠ [] → l.all goodP = true → picksOf (parts (textB l)) = some l
  | [], h, _ => absurd rfl h
  | [q], _, hg => by
    have hq : goodP q = true := by simpa using hg
    unfold goodP at hq
    obtain ⟨i, rfl⟩ := Int.eq_ofNat_of_zero_le (show 0 ≤ q by simp at hq; omega)
    have hi : i < 24 := by simp at hq; omega
    have : textB [(i : Int)] = (nameOf (i : Int)).data.toList := by simp [textB, namesOf, Lib.join_one]
    rw [this, parts_none (name_blank i hi)]
    unfold picksOf picksOf
    rw [name_pick i hi, if_neg (by omega)]; rfl
  | q :: p :: l, _, hg => by
    rw [List.all_cons, Bool.and_eq_true] at hg
    have hq := hg.1
    unfold goodP at hq
    obtain ⟨i, rfl⟩ := Int.eq_ofNat_of_zero_le (show 0 ≤ q by simp at hq; omega)
    have hi : i < 24 := by simp at hq; omega
    have ih := picks_good (l := p :: l) (by simp) hg.2
    have : textB ((i : Int) :: p :: l) = (nameOf (i : Int)).data.toList ++ 32 :: textB (p :: l) := by
      unfold textB namesOf
      rw [List.map_cons, List.map_cons, List.map_cons, List.map_cons, Lib.join_cons, Lib.join_cons]
      unfold Lib.joinTail
      rw [List.map_cons, List.flatten_cons]
      simp
    rw [this, parts_app _ (name_blank i hi)]
    unfold picksOf
    rw [name_pick i hi, if_neg (by omega), ih]; rfl

section
variable {E : Env}

set_option maxHeartbeats 1000000 in
theorem PlayTexts_law (hx : Ext17 E) (hE : jacquardlaw17_PlayTexts_In E) {h : AHeap} {c0 c1' : List Cell} (o0 : okC h (.sl (.i .i64)) c0) (o1 : okC h .s c1') (hsz : ∀ s, av1 .s c1' = .c (.str s) → s.size ≤ 1048576) :
    ∃ h', R E 264 [av1 (.sl (.i .i64)) c0, av1 .s c1'] h = some ([.c (.bool true)], h') := by
  have hM : maxBytes = 1099511627776 := rfl
  obtain ⟨x, l, ha0, hx0, hlow, _, hml⟩ := arg_ints o0
  obtain ⟨s, ha1, _⟩ := arg_str o1
  have hs := hsz s ha1
  have aw : ∀ h', (R E 261 [] h') = some ([.c (.bool true)], h') := awake17_R hE.c261 hx
  rw [ha0, ha1]
  by_cases h200 : l.length > 200
  · refine ⟨h, R_intro hE.fn ?_⟩
    rw [jacquardlaw17_PlayTexts_eq, hx0.len, if_pos (by simp; omega), aw, c1_ok, asB_ok]
  · -- the text is told
    have lp1 : Lim (jacquardlaw17_PlayTexts_F1 (R E) Lim E.glob) (jacquardlaw17_PlayTexts_s1 x s (textOf (l.take 0)) ((l.take 0).all goodP) ((0 : Nat) : Int) h) = some (.exit 0, jacquardlaw17_PlayTexts_x1_1 x s (textOf l) (l.all goodP) h) := by
      refine Lim_count (F := jacquardlaw17_PlayTexts_F1 (R E) Lim E.glob) (fun i => jacquardlaw17_PlayTexts_s1 x s (textOf (l.take i)) ((l.take i).all goodP) (i : Int) h) 0 l.length (by omega) (fun i _ hi => ?_) (Lim_exit ?_)
      · have hq : l[i]? = some l[i] := List.getElem?_eq_getElem hi
        generalize l[i] = q at hq
        have hz : (textOf (l.take i)).size ≤ 1000 := by
          have h1 := textB_len (l.take i)
          rw [← textOf_data, List.length_take] at h1
          have h2 : (textOf (l.take i)).data.toList.length = (textOf (l.take i)).size := rfl
          omega
        have hn := name_size q
        have s32 : (ByteArray.mk #[32]).size = 1 := rfl
        rw [jacquardlaw17_PlayTexts_r1, hx0.len, if_pos (by simp; omega), hx0.get1 hi (intC_get hq), asI_ok, refName_R hE.c168, c1_ok, asS_ok, name_good, scK_and, takeI_succ hq, List.all_append, show ([q] : List Int).all goodP = goodP q by simp]
        by_cases h0 : i = 0
        · subst h0
          rw [if_neg (by simp), if_pos (by omega), g_succ (by omega), List.take_zero, List.nil_append, textOf_one]
          rfl
        · rw [if_pos (by simp; omega), if_pos (by omega), if_pos (by rw [ByteArray.size_append]; omega), g_succ (by omega), textOf_snoc (by
            intro e
            have := congrArg List.length e
            rw [List.length_take, List.length_nil] at this
            omega)]
      · rw [jacquardlaw17_PlayTexts_r1, hx0.len, if_neg (by simp), List.take_of_length_le (Nat.le_refl _)]
    rw [show ((0 : Nat) : Int) = 0 from rfl, List.take_zero, text_nil, show ([] : List Int).all goodP = true from rfl] at lp1
    have htz : (textOf l).size ≤ 1000 := by
      have h1 := textB_len l
      rw [← textOf_data] at h1
      have h2 : (textOf l).data.toList.length = (textOf l).size := rfl
      omega
    obtain ⟨h2, r2, k2⟩ := Text_R hE.c262 hx hx0 hlow (by omega)
    -- any text
    have fin : ∀ h', ∃ h'', (jacquardlaw17_PlayTexts_k5 (R E) Lim E.glob h) (.exit 2) (jacquardlaw17_PlayTexts_x2_3 s h') = some ([.c (.bool true)], h'') := by
      intro h'
      rcases Parse_any hx hE.x260 (show s.size ≤ 1000000000 by omega) h' with ⟨l3, z3, h3, r3, o3, k3, t3, hl3, _⟩ | ⟨r3, _⟩
      · obtain ⟨h4, r4, _⟩ := Text_R hE.c262 hx o3.at o3.low (by omega)
        refine ⟨h4, ?_⟩
        rw [jacquardlaw17_PlayTexts_e2_3, r3, c2_ok, asC_ok, asB_ok, show (!true) = false from rfl, scK_ok, r4, c1_ok, asS_ok, t3, beq_self_eq_true, bind_ok]
        dsimp only
        rw [scK_ok, scK_tf, bind_ok]
        dsimp only
        rw [scK_ok, aw, c1_ok, asB_ok, bind_ok]
      · refine ⟨h', ?_⟩
        rw [jacquardlaw17_PlayTexts_e2_3, r3, c2_ok, asC_ok, asB_ok, show (!false) = true from rfl, scK_tf, scK_ok, scK_ok, show ∀ {α : Type} {f : Int → Option α}, lenK .nils f = f 0 from fun {α f} => rfl, show ((0 : Int) == 0) = true from rfl, bind_ok]
        dsimp only
        rw [bind_ok]
        dsimp only
        rw [scK_ok, aw, c1_ok, asB_ok, bind_ok]
    -- the loop over what was read
    have done : ∀ (b : Bool) (z : Cell) (n : Nat) (h' : AHeap), (∀ {α : Type} {f : Int → Option α}, lenK z f = f (n : Int)) → (b = false ∨ (n = l.length ∧ SlAt h' z 1 (intC .i64 l) l.length ∧ SlAt h' x 1 (intC .i64 l) l.length)) →
        Lim (jacquardlaw17_PlayTexts_F2 (R E) Lim E.glob) (jacquardlaw17_PlayTexts_s2 x s b z 0 h') = some (.exit 2, jacquardlaw17_PlayTexts_x2_3 s h') := by
      intro b z n h' hn hb
      rcases hb with rfl | ⟨rfl, sz, sx⟩
      · refine Lim_exit ?_
        rw [jacquardlaw17_PlayTexts_r2, hn, scK_and, Bool.and_false, if_neg (by simp)]
      · have lc := Lim_count (F := jacquardlaw17_PlayTexts_F2 (R E) Lim E.glob) (fun i => jacquardlaw17_PlayTexts_s2 x s b z (i : Int) h') 0 (if b = true then l.length else 0) (by omega) (fun i _ hi => by
          cases b with
          | false => rw [if_neg (by simp)] at hi; omega
          | true =>
            rw [if_pos rfl] at hi
            have hq : l[i]? = some l[i] := List.getElem?_eq_getElem hi
            generalize l[i] = q at hq
            rw [jacquardlaw17_PlayTexts_r2, hn, scK_and, Bool.and_true, if_pos (by simp; omega), sz.get1 hi (intC_get hq), asI_ok, sx.get1 hi (intC_get hq), asI_ok, if_neg (by simp), g_succ (by omega)]) (p := (.exit 2, jacquardlaw17_PlayTexts_x2_3 s h')) (Lim_exit (by
          cases b with
          | false => rw [jacquardlaw17_PlayTexts_r2, hn, scK_and, Bool.and_false, if_neg (by simp)]
          | true => rw [if_pos rfl, jacquardlaw17_PlayTexts_r2, hn, scK_and, Bool.and_true, if_neg (by simp)]))
        exact lc
    have self : ∀ n : Int, (n != n) = false := fun n => by simp
    rcases Parse_any hx hE.x260 (show (textOf l).size ≤ 1000000000 by omega) h2 with ⟨l2, z, h3, r3, o3, k3, t3, hl2, q1, q2⟩ | ⟨r3, z0, q1⟩
    · have kk3 : Kp h.length h h3 := k2.trans (k3.mono k2.1)
      cases hg : l.all goodP with
      | true =>
        have hl : l2 = l := by
          by_cases hl0 : l = []
          · subst hl0
            exact q2 rfl
          · have h1 := picks_good hl0 hg
            rw [← textOf_data] at h1
            have hpos : (textOf l).size ≠ 0 := by
              intro e
              have he : (textOf l).data.toList = [] := List.length_eq_zero_iff.1 e
              rw [he] at h1
              have h3 := names_picks h1
              rw [show parts [] = [[]] from rfl] at h3
              have h4 := h3.1
              cases l with
              | nil => exact hl0 rfl
              | cons q r =>
                unfold namesOf at h4
                rw [List.map_cons, List.map_cons] at h4
                rw [List.all_cons, Bool.and_eq_true] at hg
                have hq := hg.1
                unfold goodP at hq
                obtain ⟨i, rfl⟩ := Int.eq_ofNat_of_zero_le (show 0 ≤ q by simp at hq; omega)
                exact name_pos i (by simp at hq; omega) (List.cons.inj h4).1
            have := q1 hpos
            rw [h1] at this
            exact (Option.some.inj this).symm
        subst hl
        obtain ⟨h9, e9⟩ := fin h3
        refine ⟨h9, R_intro hE.fn ?_⟩
        rw [jacquardlaw17_PlayTexts_eq, hx0.len, if_neg (by simp; omega), lp1, bind_ok]
        dsimp only
        rw [jacquardlaw17_PlayTexts_e1_1, r2, c1_ok, asS_ok, beq_self_eq_true, if_neg (by simp), r3, c2_ok, asC_ok, asB_ok, hg, scK_ok, show (!true) = false from rfl, scK_ok, o3.at.len, (hx0.keep hlow kk3).len, self, bind_ok]
        dsimp only
        rw [bind_ok]
        dsimp only
        rw [scK_ok, scK_ft, scK_ft, scK_ft, bind_ok]
        dsimp only
        rw [if_neg (by simp), done true z l2.length h3 (fun {α f} => o3.at.len) (.inr ⟨rfl, o3.at, hx0.keep hlow kk3⟩), bind_ok]
        exact e9
      | false =>
        obtain ⟨h5, r5, _⟩ := Text_R hE.c262 hx o3.at o3.low (by omega)
        by_cases hl0 : l.length > 0
        · obtain ⟨h9, e9⟩ := fin h5
          refine ⟨h9, R_intro hE.fn ?_⟩
          rw [jacquardlaw17_PlayTexts_eq, hx0.len, if_neg (by simp; omega), lp1, bind_ok]
          dsimp only
          rw [jacquardlaw17_PlayTexts_e1_1, r2, c1_ok, asS_ok, beq_self_eq_true, if_neg (by simp), r3, c2_ok, asC_ok, asB_ok, hg, scK_ft, scK_ok, show (!false) = true from rfl, scK_and, Bool.true_and, scK_ok, (hx0.keep hlow kk3).len, show decide ((l.length : Int) > 0) = true by simp; omega, bind_ok]
          dsimp only
          rw [scK_ok, r5, c1_ok, asS_ok, t3, beq_self_eq_true, bind_ok]
          dsimp only
          rw [bind_ok]
          dsimp only
          rw [if_neg (by simp), done false z l2.length h5 (fun {α f} => o3.at.len) (.inl rfl), bind_ok]
          exact e9
        · exfalso
          have : l = [] := List.length_eq_zero_iff.1 (by omega)
          rw [this] at hg; cases hg
    · cases hg : l.all goodP with
      | true =>
        exfalso
        by_cases hl0 : l = []
        · subst hl0; exact z0 rfl
        · have h1 := picks_good hl0 hg
          rw [← textOf_data, q1] at h1; cases h1
      | false =>
        obtain ⟨h9, e9⟩ := fin h2
        refine ⟨h9, R_intro hE.fn ?_⟩
        rw [jacquardlaw17_PlayTexts_eq, hx0.len, if_neg (by simp; omega), lp1, bind_ok]
        dsimp only
        rw [jacquardlaw17_PlayTexts_e1_1, r2, c1_ok, asS_ok, beq_self_eq_true, if_neg (by simp), r3, c2_ok, asC_ok, asB_ok, hg, scK_ft, scK_ok, show (!false) = true from rfl, scK_and, Bool.true_and, scK_ft, scK_ft, bind_ok]
        dsimp only
        rw [if_neg (by simp), done false .nils 0 h2 (fun {α f} => rfl) (.inl rfl), bind_ok]
        exact e9
end
end Jq

/- PlayTexts, where what it reads is of bulk at most 1048576: the call says true, and each argument reads behind it as before. Its condition: that bound. -/
namespace Go.Proofs.YtlfhmbifgdhckaaDoor.LPlayTexts
open Go Jq Go.ChangeShapes Go.WideShapes Go.ChangeAt Go.RowKit
set_option linter.unusedVariables false

theorem own : ownKnob Tryd.prog.godebug = none := by kernel_rfl
theorem laidOut : laidOutB Tryd.prog = true := by kernel_rfl

theorem met (os : Os) : laidMet Tryd.prog Rows.playTextsUptoRow.laid ((World.laidAll Tryd.prog os Rows.playTextsUptoRow.laid).forCall (fun _ _ => 0) ⟨#[], #[.slice none 0 0, .string ByteArray.empty], []⟩).memory := laidMet_laidAll _ (by kernel_rfl) (by kernel_rfl)
theorem reads (os : Os) {H : Type} (enc : TypeId × Value → H) : ∃ places, DataW.whole enc Tryd.prog ((World.laidAll Tryd.prog os Rows.playTextsUptoRow.laid).forCall (fun _ _ => 0) ⟨#[], #[.slice none 0 0, .string ByteArray.empty], []⟩).memory Tryd.f4.params.toList Rows.playTextsSpec.vars false (#[.slice none 0 0, .string ByteArray.empty] : Array Value).toList 8 = some ([.nil, .lit (.string [])], [], places) :=
  ⟨[], by kernel_rfl⟩
set_option maxRecDepth 100000 in
theorem lifted (os : Os) (started : os.Started) (H : Type) (enc : TypeId × Value → H) (F : Stop.Interp) :
    ReturnsInHanded {} Tryd.checked os 4 .any ((Rows.OpenSpec.upto Rows.playTextsSpec).preRow enc Tryd.prog Tryd.f4 Rows.playTextsUptoRow.domain false Rows.playTextsUptoRow.laid) (((Rows.OpenSpec.upto Rows.playTextsSpec).at F).post enc Tryd.prog Tryd.f4 false true false false) := by
  obtain ⟨places, hx⟩ := reads os enc
  refine returnsInHanded_of_row (C := Tryd.checked) (s := Rows.OpenSpec.upto Rows.playTextsSpec) own started (by kernel_rfl) Tryd.func4
    (witness_row_at (enc := enc) (C := Tryd.checked) false (World.laidAll Tryd.prog os Rows.playTextsUptoRow.laid) #[.slice none 0 0, .string ByteArray.empty] (World.laidAll_os _ _ _) (by kernel_rfl) (by kernel_rfl) (by kernel_rfl)
      (OpenSpec.preRow_of_cond 8 hx (by kernel_rfl) (fun k hk => by cases hk; kernel_rfl) (by kernel_rfl) (met os))) ?_
  intro W base args ds gs before hval0 hW _ hcond _ hL _ _
  have hval : ∀ (j : Nat) t v, Tryd.f4.params[j]? = some t → args[j]? = some v → Value.okWide Tryd.prog W .any base t v := hval0
  have hW' := hW
  obtain ⟨p, q, hA0, hV, rfl, hfz, hnd⟩ := hW
  have hA : DataW.TrodAll enc Tryd.prog W 0 (fun _ => true) true Tryd.f4.params.toList args.toList ds p := hA0
  rw [Tryd.params4] at hA hval
  obtain ⟨v0, vs0, d0, ds0, p0, q0, hargs, rfl, rfl, h0, r0⟩ := trodAll_cons hA
  obtain ⟨v1, vs1, d1, ds1, p1, q1, rfl, rfl, rfl, h1, r1⟩ := trodAll_cons r0
  obtain ⟨rfl, rfl, rfl⟩ := trodAll_nil r1
  obtain rfl : args = #[v0, v1] := by cases args; simp_all
  obtain ⟨rfl, rfl⟩ := trodVars_none hV
  have lt0 : ∀ x ∈ p0, x.block < W.heap.size := by obtain ⟨m, hm⟩ := h0; exact DataW.trod_lt m _ _ _ hm
  have lt1 : ∀ x ∈ p1, x.block < W.heap.size := by obtain ⟨m, hm⟩ := h1; exact DataW.trod_lt m _ _ _ hm
  have c := Come.nil (S := seat) (W := W) (fun _ => rfl)
  have k0 : ((.sl (.i .i64)) : Sh).chk seat.P 23 = true := by kernel_rfl
  obtain ⟨b0, ρ0, cs0, c0, e0, x0, a0, o0⟩ := opens_arg (S := seat) (W := W) (sh := (.sl (.i .i64))) k0 h0 (wide_of k0 (hval 0 23 v0 rfl rfl)) ⟨nofun, nofun⟩ c
  have k1 : (.s : Sh).chk seat.P 9 = true := by kernel_rfl
  obtain ⟨b1, ρ1, cs1, c1, e1, x1, a1, o1⟩ := opens_arg (S := seat) (W := W) (sh := .s) k1 h1 (wide_of k1 (hval 1 9 v1 rfl rfl)) ⟨nofun, nofun⟩ c0
  have hbulk : Rows.uptoBulkAll [d0, d1] ≤ 1048576 := by
    have := of_decide_eq_true (hcond _ rfl)
    simpa using this
  have hsz : ∀ u : ByteArray, v1 = .string u → u.size ≤ 1048576 := by
    intro u hu
    obtain ⟨s, e1, e2, e3, _⟩ := Go.ChangeMaps.open_string Tryd.underlying9 (hval 1 9 v1 rfl rfl) h1
    rw [hu] at e1
    cases e1
    subst e2
    simp only [Rows.uptoBulkAll, Rows.uptoBulk] at hbulk
    have e : u.data.toList.length = u.size := by rw [Array.length_toList]; rfl
    omega
  obtain ⟨h', hR⟩ := PlayTexts_law (E := env) ext17ok in_264 (okC_mono x1 _ _ o0) o1 (fun s hs => hsz s (by have := a1; rw [hs] at this; exact this))
  refine (law_call (S := seat) (R_soundX (S := seat) (E := env) rfl allOk extOk) c1 (vals := #[v0, v1]) (L2.cons (relA.mono e1 a0) (L2.cons a1 L2.nil)) hR).mono fun e W' ⟨he, bel⟩ => ?_
  subst he
  exact ⟨_, rfl, _, _, _, [], _, [], hW', trodAll_mk1 (shut_bool Tryd.underlying4 _), (trodAll_cons_mk (Below.trod laidOut (by kernel_rfl) (of_decide_eq_true (by kernel_rfl)) h0 bel lt0) (trodAll_cons_mk (Below.trod laidOut (by kernel_rfl) (of_decide_eq_true (by kernel_rfl)) h1 bel lt1) trodAll_mk0)), rfl, bel.frame _, fun h => by cases h⟩

theorem over : Rows.PlayTextsUptoSaid :=
  OpenClaim.holds_of_cond 4 Tryd.f4 rfl rfl rfl rfl rfl rfl rfl ⟨rfl, rfl, rfl, rfl, rfl⟩ rfl rfl rfl rfl rfl (by kernel_rfl) Tryd.func4 (by kernel_rfl)
    (of_decide_eq_true (by kernel_rfl)) (by unfold Func.isWrapper; first | (rw [if_pos (by decide +kernel)]; kernel_rfl) | (rw [if_neg (by decide +kernel)]; exact ⟨rfl, rfl⟩))
    (fun os started H enc _ F => by rw [OpenClaim.pre_eq_preRow]; exact lifted os started H enc F)

theorem proved : Rows.PlayTextsUptoCardSaid :=
  Claim7.holds_tied_plain_at .later [] [.data, .data, .data, .data, .pinned] true (true, "25545daf39eed465904917e0760c91ac70c91bb45a6eaf63648095635f9bc796") false
    over (fun _ h => by cases h) (by kernel_rfl) (fun _ h => by cases h) playTextsUpto_row_tie rfl ⟨rfl, rfl⟩ (by kernel_rfl) rfl
    (fun f fn hf hfn => by
      obtain rfl : f = 4 := Option.some.inj ((show Tryd.prog.funcNamed "jacquard/jacquardlaw17.PlayTexts" = some 4 by kernel_rfl).symm.trans hf) |>.symm
      obtain rfl : fn = Tryd.f4 := (Option.some.inj (Tryd.func4.symm.trans hfn)).symm
      exact ⟨by kernel_rfl, fun j t ht => by
        rw [Tryd.params4] at ht
        have hm : t ∈ [23, 9] := by simpa using Array.mem_of_getElem? ht
        have hall : ([23, 9].all fun u => !Tryd.prog.wantsStandIn u) = true := by kernel_rfl
        exact (show Tryd.prog.wantsStandIn t = false by simpa using List.all_eq_true.1 hall t hm)⟩)
    (by kernel_rfl)
#print axioms proved

end Go.Proofs.YtlfhmbifgdhckaaDoor.LPlayTexts

