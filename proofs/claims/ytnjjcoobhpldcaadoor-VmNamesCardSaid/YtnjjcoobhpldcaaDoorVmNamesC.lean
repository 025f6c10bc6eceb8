/- YtnjjcoobhpldcaaDoorVmNamesC: a part of the proof; no conditions of its own. -/
import Derived.KernelRfl
import Derived.Test.YtnjjcoobhpldcaaDoorRows
import Derived.WalkKit
import Derived.ProofKit
import Derived.OpenShut
import Derived.ShutString
import Derived.ChangeOld
import Derived.Below
import Derived.Carry
import Derived.Test.YtnjjcoobhpldcaaDoorCards
import Derived.Test.YtnjjcoobhpldcaaDoorTie
import Derived.SevenTiedAt
import Derived.LaidMore
import Derived.Stop.Joined
import Derived.Lib.LaidTab
import Derived.MakeChecks
import Derived.LaidHandle
import Derived.Test.YtnjjcoobhpldcaaDoorVmNamesB
set_option linter.unusedVariables false
set_option linter.unusedSimpArgs false

/- Machines: a pick is taken. -/
namespace Jq
open Go

def MV.fluE (V : MV) (t : Nat) (loc : Int) : Ent := ((V.b t).find? (oldP (bmod V.m) loc)).getD ⟨0, 0, 0⟩
def MV.fluM (V : MV) (t : Nat) (loc : Int) : MV :=
  { V with bf := V.bf.set t ((V.b t).eraseP (oldP (bmod V.m) loc)), mem := V.mem.set (V.fluE t loc).loc.toNat (V.fluE t loc).val, frm := V.frm.set (V.fluE t loc).loc.toNat (V.fluE t loc).id }
def MV.fluS (V : MV) (t : Nat) (loc : Int) : Stp := ⟨0, t, 6, (V.fluE t loc).loc, 0, (V.fluE t loc).val, (V.fluE t loc).id⟩

def MV.thrI (V : MV) (t : Nat) : Ins := (V.nxt t).getD Ins.zero
/-- The step of a pick, and how the machine stands behind it. -/
def MV.stp (V : MV) (i : Nat) : Stp :=
  { (if i < 4 then V.thrS i (V.thrI i) else if i < 8 then V.fluS (i - 4) 0 else V.fluS ((i - 8) / 4) (((i - 8) % 4 : Nat) : Int)) with pick := i }
def MV.nx (V : MV) (i : Nat) : MV :=
  { (if i < 4 then V.thrM i (V.thrI i) else if i < 8 then V.fluM (i - 4) 0 else V.fluM ((i - 8) / 4) (((i - 8) % 4 : Nat) : Int)) with st := V.st ++ [V.stp i] }

/-- What stays so from pick to pick. -/
structure MV.Inv (V : MV) : Prop where
  fit : V.Fit
  small : V.P.small
  fld : ∀ c ∈ V.P.thr, ∀ i ∈ c, fldB (hasB V.P) i = true
  locs : V.P.locs.length ≤ 4
  c10 : ∀ c ∈ V.P.thr, c.length ≤ 10
  ents : ∀ b ∈ V.bf, ∀ e ∈ b, 0 ≤ e.loc ∧ e.loc < 4
  pcs : ∀ t, t < 4 → ((V.b t).length : Int) ≤ (V.l t).pc

theorem fldV_loc {P : PProg} (h4 : P.locs.length ≤ 4) {i : Ins} (h : fldB (hasB P) i = true) (hk : 1 ≤ i.kind ∧ i.kind ≤ 4) : 0 ≤ i.loc ∧ i.loc < 4 := by
  unfold fldB hasB at h
  split at h
  · simp at h; omega
  · split at h
    · simp at h; omega
    · split at h
      · have h := of_decide_eq_true h
        unfold Ins.cs at h
        simp at h
        omega
      · split at h
        · simp at h; omega
        · omega

theorem MV.Inv.code10 {V : MV} (v : V.Inv) (t : Int) : (V.P.code t).length ≤ 10 := by
  unfold PProg.code
  split
  · rw [List.getD_eq_getElem?_getD]
    cases hq : V.P.thr[t.toNat]? with
    | none => simp
    | some c => exact v.c10 c (List.mem_of_getElem? hq)
  · simp

theorem MV.Inv.nxt {V : MV} (v : V.Inv) {t : Nat} {i : Ins} (h : V.nxt t = some i) : (0 ≤ i.loc ∧ i.loc < 4) ∧ (1 ≤ i.kind ∧ i.kind ≤ 4) ∧ 0 ≤ (V.l t).pc ∧ (V.l t).pc < 10 ∧ i ∈ V.P.code t := by
  obtain ⟨h1, h2, h3, h4, h5⟩ := nextI_kind h
  have hm : i ∈ V.P.code t := List.mem_of_getElem? h3
  have := v.code10 t
  refine ⟨fldV_loc v.locs ?_ ⟨h4, h5⟩, ⟨h4, h5⟩, h1, by omega, hm⟩
  unfold PProg.code at hm
  split at hm
  · rw [List.getD_eq_getElem?_getD] at hm
    cases hq : V.P.thr[(t : Int).toNat]? with
    | none => rw [hq] at hm; simp at hm
    | some c => rw [hq] at hm; exact v.fld c (List.mem_of_getElem? hq) i hm
  · simp at hm

theorem MV.Inv.blen {V : MV} (v : V.Inv) {t : Nat} (ht : t < 4) : (V.b t).length ≤ 24 := v.fit.b _ (List.mem_of_getElem? (MV.b_at (by rw [v.fit.bf]; exact ht)))

/-- It lies there. -/
structure VmAt (n : Nat) (h : AHeap) (k : Nat) (x : Cell) (pc : List Cell) (V : MV) : Prop where
  hn : n ≤ h.length
  nk : n ≤ k
  prog : ProgAt (h.take n) pc V.P
  blk : blk? h k = some ⟨true, 0, vmC pc V x⟩
  st : Own n h x 7 (stepsC V.st) V.st.length
  sep : ¬ isBlk x k

/-- What a machine's call leaves as it was. -/
structure KpV (n k : Nat) (x x' : Cell) (h h' : AHeap) : Prop where
  kp : Kp n h h'
  old : ∀ j b, blk? h j = some b → j ≠ k → ¬ isBlk x j → blk? h' j = some b ∧ ¬ isBlk x' j

theorem Own.setO {n : Nat} {h : AHeap} {x : Cell} {esz len : Nat} {cs : List Cell} (o : Own n h x esz cs len) {k : Nat} (hk : ¬ isBlk x k) (b : Option Blk) : Own n (setBlk h k b) x esz cs len := by
  refine ⟨o.1, o.2.imp id ?_⟩
  rintro ⟨k', rfl, h1, h2⟩
  exact ⟨k', rfl, h1, by rw [blk_set_ne (fun e => hk e.symm)]; exact h2⟩

theorem MV.word_lt (V : MV) : V.word < 2 ^ 64 := wordOf_lt _ (by omega)

section
variable {E : Env}

theorem flush_R' (hE : vm_VM_flush_In E) {k : Nat} {h : AHeap} {x : Cell} {pc : List Cell} {V : MV} (hb : blk? h k = some ⟨true, 0, vmC pc V x⟩) (v : V.Inv) (hpc : pc.length = 3)
    {t : Nat} (ht : t < 4) {loc : Int} (hf : ((V.b t).find? (oldP (bmod V.m) loc)).isSome = true) :
    R E 194 [.c (.ptr k 329 0), .c (.int .i64 (t : Int)), .c (.int .i64 loc)] h = some ([.agg (V.fluS t loc).cs], setBlk h k (some ⟨true, 0, vmC pc (V.fluM t loc) x⟩)) := by
  refine R_intro hE.fn ?_
  have f := v.fit
  have hl := vm_len (x := x) f hpc
  have rd : ∀ {α : Type} {F : List Cell → Option α}, rdH h k 329 F = F (vmC pc V x) := fun {α F} => rdH_ok hb hl
  have hr : 0 ≤ (t : Int) ∧ (t : Int) < ((4 : Nat) : Int) := ⟨by omega, by omega⟩
  have h74 : (0 + 32) + t * 74 + 74 ≤ (vmC pc V x).length := by rw [hl]; omega
  have hq := MV.b_at (V := V) (t := t) (by rw [f.bf]; exact ht)
  have hbl := v.blen ht
  have hk : k < h.length := blk_lt' hb
  cases he : (V.b t).find? (oldP (bmod V.m) loc) with
  | none => rw [he] at hf; cases hf
  | some e =>
    have hee : V.fluE t loc = e := by unfold MV.fluE; rw [he]; rfl
    have hel := v.ents _ (List.mem_of_getElem? hq) e (List.mem_of_find?_eq_some he)
    have hel' : 0 ≤ e.loc ∧ e.loc < ((4 : Nat) : Int) := ⟨hel.1, by omega⟩
    have he4 : e.loc.toNat < 4 := by omega
    obtain ⟨j, hj⟩ : ∃ j, (V.b t).findIdx? (oldP (bmod V.m) loc) = some j := by
      cases hx : (V.b t).findIdx? (oldP (bmod V.m) loc) with
      | some j => exact ⟨j, rfl⟩
      | none =>
        rw [List.findIdx?_eq_none_iff] at hx
        have := hx e (List.mem_of_find?_eq_some he)
        rw [List.find?_some he] at this; cases this
    have hep : (V.b t).eraseP (oldP (bmod V.m) loc) = (V.b t).eraseIdx j := by rw [List.eraseP_eq_eraseIdx, hj]
    have hlen2 : ((V.b t).eraseIdx j).length ≤ 24 := by rw [List.length_eraseIdx]; split <;> omega
    unfold MV.fluM MV.fluS
    rw [hee, hep]
    have f1 : MV.Fit { V with bf := V.bf.set t ((V.b t).eraseIdx j) } := ⟨f.m, f.lc, f.mem, f.frm, by rw [List.length_set]; exact f.bf, fun l hl => by
      rcases List.mem_or_eq_of_mem_set hl with hl | rfl
      · exact f.b l hl
      · exact hlen2⟩
    have f2 : MV.Fit { V with bf := V.bf.set t ((V.b t).eraseIdx j), mem := V.mem.set e.loc.toNat e.val } := ⟨f1.m, f1.lc, by rw [List.length_set]; exact f1.mem, f1.frm, f1.bf, f1.b⟩
    have b1 : ∀ l, blk? (setBlk h k (some ⟨true, 0, l⟩)) k = some ⟨true, 0, l⟩ := fun l => blk_set_self hk _
    have rd1 : ∀ (W : MV) (fW : W.Fit) {α : Type} {F : List Cell → Option α}, rdH (setBlk h k (some ⟨true, 0, vmC pc W x⟩)) k 329 F = F (vmC pc W x) := fun W fW {α F} => rdH_ok (b1 _) (vm_len fW hpc)
    rw [vm_VM_flush_eq, if_pos hr, rd, Int.toNat_natCast, if_pos h74, vm_buf f hpc hq, bufOldest_R hE.c192 hbl, he]
    dsimp only
    rw [c4_ok, asI_ok, asI_ok, asI_ok, asB_ok, if_pos hr, rd, if_pos h74, vm_buf f hpc hq, bufDrop_R hE.c207 hbl hj, qh_ok, c1_ok, asA_ok, if_pos hr, rd, if_pos ⟨h74, bufC_len _ hlen2⟩, vm_setB f hpc ht hlen2, putB hb,
      if_pos hel', rd1 _ f1, if_pos (by rw [vm_len f1 hpc]; omega), vm_setM f1 hpc he4, putB (b1 _), setBlk_set, if_pos hel', rd1 _ f2, if_pos (by rw [vm_len f2 hpc]; omega), vm_setF f2 hpc he4, putB (b1 _), setBlk_set,
      if_pos (by exact ⟨by trivial, rfl, rfl⟩), if_pos (by exact ⟨by trivial, rfl⟩)]
    rfl

theorem Pick_no (hE : vm_VM_Pick_In E) {n k : Nat} {h : AHeap} {x : Cell} {pc : List Cell} {V : MV} (a : VmAt n h k x pc V) (v : V.Inv) {i : Int} (hi : hasI V.word i = false) :
    R E 173 [.c (.ptr k 329 0), .c (.int .i64 i)] h = some ([.agg (Stp.cs ⟨0, 0, 0, 0, 0, 0, 0⟩), .c (.bool false)], h) := by
  refine R_intro hE.fn ?_
  rw [vm_VM_Pick_eq, Enabled_R hE.c172 a.blk v.fit (prog_at a.prog a.hn (Kp.refl n h)), c1_ok, asI_ok, Has_R hE.c17 V.word_lt, c1_ok, asB_ok, hi, if_pos (by simp), if_pos (by exact ⟨by trivial, rfl, rfl⟩), if_pos (by exact ⟨by trivial, rfl⟩)]
  rfl

theorem MV.may_lt {V : MV} {i : Nat} (h : V.may i = true) : i < 24 := by
  rcases Nat.lt_or_ge i 24 with h1 | h1
  · exact h1
  · rw [MV.may_out h1] at h; cases h

set_option maxHeartbeats 1000000 in
theorem Pick_R (hE : vm_VM_Pick_In E) {n k : Nat} {h : AHeap} {x : Cell} {pc : List Cell} {V : MV} (a : VmAt n h k x pc V) (v : V.Inv) (hst : V.st.length < 100000) {i : Nat} (hi : V.may i = true) :
    ∃ x' h', R E 173 [.c (.ptr k 329 0), .c (.int .i64 (i : Int))] h = some ([.agg (V.stp i).cs, .c (.bool true)], h') ∧ VmAt n h' k x' pc (V.nx i) ∧ KpV n k x x' h h' := by
  have hi24 := MV.may_lt hi
  have f := v.fit
  have hpc := a.prog.len
  have hk : k < h.length := blk_lt' a.blk
  have hb : maxBytes ≥ 200000 * 56 := by unfold maxBytes; omega
  have hfits := v.small.fits
  -- the row of steps goes on
  have push : ∀ (W : MV) (s : Stp), W.Fit → W.P = V.P → W.st = V.st → ∃ x' h', (∀ {α : Type} (F : Cell → AHeap → Option α), appK 7 56 x s.cs (setBlk h k (some ⟨true, 0, vmC pc W x⟩)) F = F x' h') ∧ blk? h' k = some ⟨true, 0, vmC pc W x⟩ ∧
      VmAt n (setBlk h' k (some ⟨true, 0, vmC pc W x'⟩)) k x' pc { W with st := V.st ++ [s] } ∧ KpV n k x x' h (setBlk h' k (some ⟨true, 0, vmC pc W x'⟩)) := by
    intro W s fW hWP hWs
    have b1 : blk? (setBlk h k (some ⟨true, 0, vmC pc W x⟩)) k = some ⟨true, 0, vmC pc W x⟩ := blk_set_self hk _
    obtain ⟨x', h', e1, o1, k1, r1⟩ := (a.st.setO a.sep (some ⟨true, 0, vmC pc W x⟩)).app (bytes := 56) (by rw [setBlk_len]; exact a.hn) (stp_len s) (by omega) (by omega) (by omega)
    obtain ⟨c1, c2⟩ := r1 k _ b1 a.sep
    have kp1 : Kp n h h' := (Kp.set a.nk _).trans k1
    have kp2 : Kp n h (setBlk h' k (some ⟨true, 0, vmC pc W x'⟩)) := kp1.trans (Kp.set a.nk _)
    refine ⟨x', h', e1, c1, ⟨Nat.le_trans a.hn kp2.1, a.nk, ?_, blk_set_self (blk_lt' c1) _, ?_, c2⟩, kp2, fun j b hj hne hnx => ?_⟩
    · have : (setBlk h' k (some ⟨true, 0, vmC pc W x'⟩)).take n = h.take n := by
        refine List.ext_getElem? fun j => ?_
        rw [List.getElem?_take, List.getElem?_take]
        split
        · exact kp2.2 j (by assumption)
        · rfl
      rw [this]
      show ProgAt (h.take n) pc W.P
      rw [hWP]; exact a.prog
    · show Own n _ x' 7 (stepsC (V.st ++ [s])) (V.st ++ [s]).length
      rw [stepsC_snoc, List.length_append, List.length_singleton]
      exact o1.setO c2 _
    · obtain ⟨d1, d2⟩ := r1 j b (by rw [blk_set_ne (fun e => hne e.symm)]; exact hj) hnx
      exact ⟨by rw [blk_set_ne (fun e => hne e.symm)]; exact d1, d2⟩
  have hhas : hasI V.word (i : Int) = true := by rw [hasI_nat (by omega), MV.word_bit, hi]
  have en := Enabled_R hE.c172 a.blk f (prog_at a.prog a.hn (Kp.refl n h))
  have s7 : ∀ s : Stp, (s.cs.set 0 (.int .i64 (i : Int))) = ({ s with pick := i } : Stp).cs := fun _ => rfl
  have s7' : ∀ s : Stp, splice (List.replicate 7 (Cell.int .i64 0)) 0 s.cs = s.cs := fun _ => rfl
  have fluW : ∀ (t : Nat) (loc : Int), t < 4 → (V.fluM t loc).Fit := fun t loc ht => by
    have hbl := v.blen ht
    refine ⟨f.m, f.lc, by show (V.mem.set _ _).length = 4; rw [List.length_set]; exact f.mem, by show (V.frm.set _ _).length = 4; rw [List.length_set]; exact f.frm, by show (V.bf.set _ _).length = 4; rw [List.length_set]; exact f.bf, fun l hl => ?_⟩
    rcases List.mem_or_eq_of_mem_set hl with hl | rfl
    · exact f.b l hl
    · exact Nat.le_trans List.length_eraseP_le hbl
  by_cases h4 : i < 4
  · have hm : V.mayT i = true := by unfold MV.may at hi; rw [if_pos h4] at hi; exact hi
    obtain ⟨q, hq⟩ : ∃ q, V.nxt i = some q := by
      unfold MV.mayT at hm
      cases hq : V.nxt i with
      | none => rw [hq] at hm; cases hm
      | some q => exact ⟨q, rfl⟩
    have hqI : V.thrI i = q := by unfold MV.thrI; rw [hq]; rfl
    obtain ⟨q1, q2, q3, q4, q5⟩ := v.nxt hq
    have hpb := v.pcs i h4
    have th := thread_R' hE.c193 a.blk f a.prog a.hn a.nk hfits a.st h4 hq q1 (by omega)
    have fW : (V.thrM i q).Fit := by
      have hfw : (V.wr i (evOf q (V.l i) (V.val i q).1)).Fit := by
        unfold MV.wr
        split
        · refine ⟨f.m, f.lc, f.mem, f.frm, by rw [List.length_set]; exact f.bf, fun l hl => ?_⟩
          rcases List.mem_or_eq_of_mem_set hl with hl | rfl
          · exact f.b l hl
          · rw [List.length_append, List.length_singleton]; omega
        · split
          · exact ⟨f.m, f.lc, by rw [List.length_set]; exact f.mem, by rw [List.length_set]; exact f.frm, f.bf, f.b⟩
          · exact f
      exact ⟨hfw.m, by show (V.lc.set _ _).length = 4; rw [List.length_set]; exact f.lc, hfw.mem, hfw.frm, hfw.bf, hfw.b⟩
    have hPP : (V.thrM i q).P = V.P := by unfold MV.thrM MV.wr; split <;> (try split) <;> rfl
    have hSS : (V.thrM i q).st = V.st := by unfold MV.thrM MV.wr; split <;> (try split) <;> rfl
    obtain ⟨x', h', e1, c1, c2, c3⟩ := push (V.thrM i q) { V.thrS i q with pick := i } fW hPP hSS
    have e2 : V.stp i = { V.thrS i q with pick := i } := by unfold MV.stp; rw [if_pos h4, hqI]
    have e3 : V.nx i = { V.thrM i q with st := V.st ++ [{ V.thrS i q with pick := i }] } := by unfold MV.nx; rw [if_pos h4, hqI, e2]
    rw [e2, e3]
    have b1 : blk? (setBlk h k (some ⟨true, 0, vmC pc (V.thrM i q) x⟩)) k = some ⟨true, 0, vmC pc (V.thrM i q) x⟩ := blk_set_self hk _
    have l1 := vm_len (x := x) fW hpc
    refine ⟨x', _, R_intro hE.fn ?_, c2, c3⟩
    rw [vm_VM_Pick_eq, en, c1_ok, asI_ok, Has_R hE.c17 V.word_lt, c1_ok, asB_ok, hhas, if_neg (by simp), if_pos (by simp; omega), th, c1_ok, asA_ok, if_pos (by exact ⟨by trivial, rfl, rfl⟩), if_pos (by rw [stp_len]; omega), rdH_ok b1 l1, vm_steps fW hpc]
    simp only [s7, s7', e1]
    rw [if_pos (by exact ⟨by trivial, rfl⟩), if_pos (by exact ⟨rfl, by decide⟩), if_pos (by exact rfl), rdH_ok c1 l1, if_pos (by rw [l1]; omega), vm_setX fW hpc, putB c1, if_pos (by exact ⟨by trivial, rfl⟩), if_pos (by exact ⟨by trivial, rfl, rfl⟩), if_pos (by exact ⟨by trivial, rfl⟩)]
  · have flu : ∀ (t : Nat) (loc : Int), t < 4 → ((V.b t).find? (oldP (bmod V.m) loc)).isSome = true → V.stp i = { V.fluS t loc with pick := i } → V.nx i = { V.fluM t loc with st := V.st ++ [V.stp i] } →
        (((i : Int) < 8 ∧ R E 194 [(.c (.ptr k 329 0)), (.c (.int .i64 (E.glob.wrap .i64 ((i : Int) - 4)))), (.c (.int .i64 0))] h = R E 194 [.c (.ptr k 329 0), .c (.int .i64 (t : Int)), .c (.int .i64 loc)] h) ∨
         (¬ (i : Int) < 8 ∧ R E 194 [(.c (.ptr k 329 0)), (.c (.int .i64 (E.glob.quo .i64 (E.glob.wrap .i64 ((i : Int) - 8)) 4))), (.c (.int .i64 (E.glob.rem .i64 (E.glob.wrap .i64 ((i : Int) - 8)) 4)))] h = R E 194 [.c (.ptr k 329 0), .c (.int .i64 (t : Int)), .c (.int .i64 loc)] h)) →
        ∃ x' h', R E 173 [.c (.ptr k 329 0), .c (.int .i64 (i : Int))] h = some ([.agg (V.stp i).cs, .c (.bool true)], h') ∧ VmAt n h' k x' pc (V.nx i) ∧ KpV n k x x' h h' := by
      intro t loc ht hf e2 e3 hF
      have fW := fluW t loc ht
      have fl := flush_R' hE.c194 a.blk v hpc ht hf
      obtain ⟨x', h', e1, c1, c2, c3⟩ := push (V.fluM t loc) { V.fluS t loc with pick := i } fW rfl rfl
      rw [e3, e2]
      have b1 : blk? (setBlk h k (some ⟨true, 0, vmC pc (V.fluM t loc) x⟩)) k = some ⟨true, 0, vmC pc (V.fluM t loc) x⟩ := blk_set_self hk _
      have l1 := vm_len (x := x) fW hpc
      refine ⟨x', _, R_intro hE.fn ?_, c2, c3⟩
      rw [vm_VM_Pick_eq, en, c1_ok, asI_ok, Has_R hE.c17 V.word_lt, c1_ok, asB_ok, hhas, if_neg (by simp), if_neg (by simp; omega)]
      rcases hF with ⟨h8, hF⟩ | ⟨h8, hF⟩
      · rw [if_pos (decide_eq_true h8), hF]
        rw [fl, c1_ok, asA_ok, if_pos (by exact ⟨by trivial, rfl, rfl⟩), if_pos (by rw [stp_len]; omega), rdH_ok b1 l1, vm_steps fW hpc]
        simp only [s7, s7', e1]
        rw [if_pos (by exact ⟨by trivial, rfl⟩), if_pos (by exact ⟨rfl, by decide⟩), if_pos (by exact rfl), rdH_ok c1 l1, if_pos (by rw [l1]; omega), vm_setX fW hpc, putB c1, if_pos (by exact ⟨by trivial, rfl⟩), if_pos (by exact ⟨by trivial, rfl, rfl⟩), if_pos (by exact ⟨by trivial, rfl⟩)]
      · rw [if_neg (by rw [decide_eq_false h8]; simp), hF]
        rw [fl, c1_ok, asA_ok, if_pos (by exact ⟨by trivial, rfl, rfl⟩), if_pos (by rw [stp_len]; omega), rdH_ok b1 l1, vm_steps fW hpc]
        simp only [s7, s7', e1]
        rw [if_pos (by exact ⟨by trivial, rfl⟩), if_pos (by exact ⟨rfl, by decide⟩), if_pos (by exact rfl), rdH_ok c1 l1, if_pos (by rw [l1]; omega), vm_setX fW hpc, putB c1, if_pos (by exact ⟨by trivial, rfl⟩), if_pos (by exact ⟨by trivial, rfl, rfl⟩), if_pos (by exact ⟨by trivial, rfl⟩)]
    by_cases h8 : i < 8
    · have hm : V.mayF (i - 4) = true := by unfold MV.may at hi; rw [if_neg h4, if_pos h8] at hi; exact hi
      unfold MV.mayF at hm
      rw [Bool.and_eq_true] at hm
      have hm2 : V.m = 2 := beq_iff_eq.1 hm.1
      have hne : (V.b (i - 4)).length ≠ 0 := by simpa using hm.2
      refine flu (i - 4) 0 (by omega) ?_ (by unfold MV.stp; rw [if_neg h4, if_pos h8]) (by unfold MV.nx; rw [if_neg h4, if_pos h8]) (.inl ⟨by omega, ?_⟩)
      · rw [hm2]
        cases hbb : V.b (i - 4) with
        | nil => rw [hbb] at hne; exact absurd rfl hne
        | cons e l => rfl
      · rw [g_wrap_i64 (by omega) (by omega), show ((i : Int) - 4) = ((i - 4 : Nat) : Int) by omega]
    · have hm : V.mayL ((i - 8) / 4) ((i - 8) % 4) = true := by unfold MV.may at hi; rw [if_neg h4, if_neg h8, if_pos hi24] at hi; exact hi
      unfold MV.mayL at hm
      rw [Bool.and_eq_true] at hm
      have hm3 : V.m = 3 := beq_iff_eq.1 hm.1
      refine flu ((i - 8) / 4) (((i - 8) % 4 : Nat) : Int) (by omega) ?_ (by unfold MV.stp; rw [if_neg h4, if_neg h8]) (by unfold MV.nx; rw [if_neg h4, if_neg h8]) (.inr ⟨by omega, ?_⟩)
      · rw [hm3]; exact hm.2
      · rw [g_wrap_i64 (by omega) (by omega), show ((i : Int) - 8) = ((i - 8 : Nat) : Int) by omega, g_quo, g_rem, Int.tdiv_eq_ediv_of_nonneg (by omega), Int.tmod_eq_emod_of_nonneg (by omega),
          show (((i - 8 : Nat) : Int) / 4) = (((i - 8) / 4 : Nat) : Int) by omega, show (((i - 8 : Nat) : Int) % 4) = (((i - 8) % 4 : Nat) : Int) by omega, wrap_i64 (by omega) (by omega)]
end
end Jq

/- Machines: at the beginning. -/
namespace Jq
open Go

/-- The block while threads are laid in it. -/
def nwC (a b c : Cell) (m bm : Int) (l : Nat → Lcl) (t : Nat) : List Cell :=
  [a, b, c, .int .i64 m] ++ (((if 0 < t then (l 0).cs else Lcl.zero.cs) ++ ((if 1 < t then (l 1).cs else Lcl.zero.cs) ++ ((if 2 < t then (l 2).cs else Lcl.zero.cs) ++ (if 3 < t then (l 3).cs else Lcl.zero.cs)))) ++
    (List.replicate 4 (.int .i64 0) ++ (([if 0 < t then .int .i64 (-1) else .int .i64 0, if 1 < t then .int .i64 (-1) else .int .i64 0, if 2 < t then .int .i64 (-1) else .int .i64 0, if 3 < t then .int .i64 (-1) else .int .i64 0] : List Cell) ++
      (((if 0 < t then bufC bm [] else bufC 0 []) ++ ((if 1 < t then bufC bm [] else bufC 0 []) ++ ((if 2 < t then bufC bm [] else bufC 0 []) ++ (if 3 < t then bufC bm [] else bufC 0 [])))) ++ [.nils]))))

set_option maxRecDepth 100000 in
theorem nw_0 (a b c : Cell) (m bm : Int) (l : Nat → Lcl) : splice (splice ([Cell.nils, Cell.nils, Cell.nils] ++ List.replicate 325 (Cell.int .i64 0) ++ [Cell.nils]) 0 [a, b, c]) 3 ([(.int .i64 m)] : List Cell) = nwC a b c m bm l 0 := by kernel_rfl
set_option maxRecDepth 100000 in
theorem nw_next (a b c : Cell) (m bm : Int) (l : Nat → Lcl) : ∀ t, t < 4 → (splice (splice (nwC a b c m bm l t) ((0 + 4) + t * 5) (l t).cs) ((0 + 32) + t * 74) (bufC bm [])).set ((0 + 28) + t * 1) (.int .i64 (-1)) = nwC a b c m bm l (t + 1)
  | 0, _ => by kernel_rfl
  | 1, _ => by kernel_rfl
  | 2, _ => by kernel_rfl
  | 3, _ => by kernel_rfl
  | t + 4, h => by omega
theorem nw_len (a b c : Cell) (m bm : Int) (l : Nat → Lcl) : ∀ t, t ≤ 4 → (nwC a b c m bm l t).length = 329
  | 0, _ => by kernel_rfl
  | 1, _ => by kernel_rfl
  | 2, _ => by kernel_rfl
  | 3, _ => by kernel_rfl
  | 4, _ => by kernel_rfl
  | t + 5, h => by omega

theorem nw_pc (a b c : Cell) (m bm : Int) (l : Nat → Lcl) (t : Nat) : ((nwC a b c m bm l t).drop (0 + 0)).take 3 = [a, b, c] := by
  rw [Nat.add_zero, List.drop_zero]; rfl
set_option maxRecDepth 100000 in
theorem nw_z : ([Cell.nils, Cell.nils, Cell.nils] ++ List.replicate 325 (Cell.int .i64 0) ++ [Cell.nils]).length = 329 := by kernel_rfl

theorem splice_len {l xs : List Cell} {n : Nat} (h : n + xs.length ≤ l.length) : (splice l n xs).length = l.length := by
  unfold splice
  rw [List.length_append, List.length_append, List.length_take, List.length_drop]; omega

/-- A machine at the beginning. -/
def MV.new (P : PProg) (m : Int) : MV :=
  ⟨P, m, [startL P 0, startL P 1, startL P 2, startL P 3], P.init ++ List.replicate (4 - P.init.length) 0, [-1, -1, -1, -1], [[], [], [], []], []⟩

set_option maxRecDepth 100000 in
theorem nw_end (a b c : Cell) (P : PProg) (m : Int) : nwC a b c m (bmod m) (fun t => startL P t) 4 = vmC [a, b, c] { MV.new P m with mem := [0, 0, 0, 0] } .nils := by kernel_rfl

theorem MV.new_fit {P : PProg} {m : Int} (hm : 1 ≤ m ∧ m ≤ 3) (hi : P.init.length ≤ 4) : (MV.new P m).Fit :=
  ⟨hm, rfl, by show (P.init ++ List.replicate (4 - P.init.length) 0).length = 4; rw [List.length_append, List.length_replicate]; omega, rfl, rfl, fun l hl => by
    simp [MV.new] at hl; subst hl; simp⟩

attribute [local irreducible] nwC vmC bufC

section
variable {E : Env}

theorem new_cnt (hE : vm_New_In E) {h8 : AHeap} {a b c : Cell} {pc : List Cell} {P : PProg} (p8 : ProgAt h8 [a, b, c] P) (hfits : P.fits) {m : Int} :
    Lim (vm_New_F1 (R E) Lim E.glob) (vm_New_s1 m h8.length 329 0 ((0 : Nat) : Int) pc (h8 ++ [some ⟨true, 0, nwC a b c m (bmod m) (fun t => startL P t) 0⟩])) = some (.exit 0, vm_New_x1_1 h8.length 329 0 pc (h8 ++ [some ⟨true, 0, nwC a b c m (bmod m) (fun t => startL P t) 4⟩])) := by
  have b8 : ∀ l : List Cell, blk? (h8 ++ [some ⟨true, 0, l⟩]) h8.length = some ⟨true, 0, l⟩ := fun l => blk_new _ _
  have p9 : ∀ q, ProgAt (h8 ++ [some q]) [a, b, c] P := fun q => p8.keep (Kp.app _ (Nat.le_refl _))
  have rd : ∀ (l : List Cell) {α : Type} {F : List Cell → Option α}, l.length = 329 → rdH (h8 ++ [some ⟨true, 0, l⟩]) h8.length 329 F = F l := fun l α F hl => rdH_ok (b8 l) hl
  have put : ∀ (l cs : List Cell) {α : Type} {F : AHeap → Option α}, putH (h8 ++ [some ⟨true, 0, l⟩]) h8.length cs F = F (h8 ++ [some ⟨true, 0, cs⟩]) := fun l cs α F => by rw [putB (b8 l), setBlk_last]
  refine Lim_count (F := vm_New_F1 (R E) Lim E.glob) (fun t => vm_New_s1 m h8.length 329 0 (t : Int) pc (h8 ++ [some ⟨true, 0, nwC a b c m (bmod m) (fun t => startL P t) t⟩])) 0 4 (by omega) (fun t _ ht => ?_) (Lim_exit ?_)
  · have hl := nw_len a b c m (bmod m) (fun t => startL P t) t (by omega)
    have hnx := nw_next a b c m (bmod m) (fun t => startL P t) t ht
    have hr : 0 ≤ (t : Int) ∧ (t : Int) < ((4 : Nat) : Int) := ⟨by omega, by omega⟩
    have hpcs := nw_pc a b c m (bmod m) (fun t => startL P t) t
    have hb0 : (bufC (bmod m) []).length = 74 := bufC_len _ (by simp)
    generalize nwC a b c m (bmod m) (fun t => startL P t) t = l0 at *
    generalize nwC a b c m (bmod m) (fun t => startL P t) (t + 1) = l9 at *
    have hl1 : (splice l0 ((0 + 4) + t * 5) (startL P t).cs).length = 329 := by
      rw [splice_len (by rw [hl, Lcl.len]; omega), hl]
    have hl2 : (splice (splice l0 ((0 + 4) + t * 5) (startL P t).cs) ((0 + 32) + t * 74) (bufC (bmod m) [])).length = 329 := by
      rw [splice_len (by rw [hl1, hb0]; omega), hl1]
    rw [vm_New_r1, if_pos (by simp; omega), rd _ hl, if_pos (by rw [hl]; omega), hpcs, PStart_R hE.c94 hfits (p9 _), qh_ok, c1_ok, asA_ok, if_pos hr, rd _ hl, Int.toNat_natCast, if_pos ⟨by rw [hl]; omega, rfl⟩, put, bufNew_R hE.c190, qh_ok, c1_ok, asA_ok, if_pos hr]
    rw [show (if m = 2 ∨ m = 3 then m else 0) = bmod m from rfl, rd _ hl1, if_pos ⟨by rw [hl1]; omega, hb0⟩, put, if_pos hr, rd _ hl2, if_pos (by rw [hl2]; omega), put, g_succ (by omega), hnx]
  · rw [vm_New_r1, if_neg (by simp)]

theorem new_mem {a b c : Cell} {P : PProg} {m : Int} (f0 : MV.Fit { MV.new P m with mem := [0, 0, 0, 0] }) (hil : P.init.length ≤ 4) :
    splice (vmC [a, b, c] { MV.new P m with mem := [0, 0, 0, 0] } .nils) 24 (intC .i64 P.init) = vmC [a, b, c] (MV.new P m) .nils := by
  obtain ⟨A, B, eA, hA, eM⟩ := vm_lensM (pc := [a, b, c]) (x := .nils) f0 rfl
  have e1 : vmC [a, b, c] (MV.new P m) .nils = A ++ (intC .i64 (MV.new P m).mem ++ B) := eM (MV.new P m).mem
  rw [eA, e1, show 24 = A.length + 0 by omega, splice_app]
  congr 1
  unfold splice
  rw [List.take_zero, List.nil_append, Nat.zero_add, intC_len]
  show intC .i64 P.init ++ _ = intC .i64 (P.init ++ List.replicate (4 - P.init.length) 0) ++ B
  rw [show intC .i64 (P.init ++ List.replicate (4 - P.init.length) 0) = intC .i64 P.init ++ List.replicate (4 - P.init.length) (.int .i64 0) by simp [intC], List.append_assoc]
  congr 1
  rw [List.drop_append_of_le_length (by rw [intC_len]; exact hil)]
  congr 1
  show (List.replicate 4 (Cell.int .i64 0)).drop _ = _
  rw [List.drop_replicate]

theorem new_loop (hE : vm_New_In E) {h8 : AHeap} {a b c : Cell} {pc : List Cell} {P : PProg} (p8 : ProgAt h8 [a, b, c] P) (hfits : P.fits) {m : Int} (z : List Cell) (hz : z = nwC a b c m (bmod m) (fun t => startL P t) 0) :
    Lim (vm_New_F1 (R E) Lim E.glob) (vm_New_s1 m h8.length (AV.cells (.agg z)).length 0 0 pc (h8 ++ [some (Blk.mk true 0 (AV.cells (.agg z)))])) = some (.exit 0, vm_New_x1_1 h8.length 329 0 pc (h8 ++ [some ⟨true, 0, vmC [a, b, c] { MV.new P m with mem := [0, 0, 0, 0] } .nils⟩])) := by
  have h1 : AV.cells (.agg z) = z := rfl
  rw [h1, hz, nw_len _ _ _ _ _ _ _ (by omega), ← nw_end]
  exact new_cnt hE p8 hfits

theorem VNew_R (hE : vm_New_In E) {h : AHeap} {pc : List Cell} {P : PProg} (p : ProgAt h pc P) (hsm : P.small) (hu : ∀ x ∈ P.locs, 0 ≤ x ∧ x < 256) (hll : P.locs.length ≤ 1000) (hil : P.init.length ≤ 4) {m : Int} (hm : 1 ≤ m ∧ m ≤ 3) (hpok : pokB P = true) :
    ∃ n k pc' h', R E 171 [.agg pc, .c (.int .i64 m)] h = some ([.c (.ptr k 329 0), .c (.int .i64 0)], h') ∧ VmAt n h' k .nils pc' (MV.new P m) ∧ h.length ≤ n ∧ Kp h.length h h' := by
  obtain ⟨pc', h8, r8, p8, k8⟩ := copied_R hE.c189 p hsm hll (by omega)
  obtain ⟨a, b, c, ts, he, _⟩ := id p8
  subst he
  have hfits := hsm.fits
  have f0 : MV.Fit { MV.new P m with mem := [0, 0, 0, 0] } := ⟨hm, rfl, rfl, rfl, rfl, fun l hl => by simp [MV.new] at hl; subst hl; simp⟩
  have hpc : ([a, b, c] : List Cell).length = 3 := rfl
  have b8 : ∀ l : List Cell, blk? (h8 ++ [some ⟨true, 0, l⟩]) h8.length = some ⟨true, 0, l⟩ := fun l => blk_new _ _
  have cnt := new_loop hE (pc := pc) p8 hfits _ (nw_0 a b c m (bmod m) (fun t => startL P t))
  obtain ⟨bi, hbi, hbl, hbg⟩ := p.initG
  have hl0 := vm_len (x := .nils) f0 hpc
  have hsp := new_mem (a := a) (b := b) (c := c) f0 hil
  generalize vmC [a, b, c] { MV.new P m with mem := [0, 0, 0, 0] } .nils = l0 at *
  have hci := cells1 (hbi.keep hbl (k8.trans (Kp.app [some ⟨true, 0, l0⟩] k8.1)))
  refine ⟨h8.length, h8.length, [a, b, c], h8 ++ [some ⟨true, 0, vmC [a, b, c] (MV.new P m) .nils⟩], R_intro hE.fn ?_, ⟨by simp, Nat.le_refl _, ?_, b8 _, Own.nil _ _ _, fun h => h⟩, k8.1, k8.trans (Kp.app _ k8.1)⟩
  · rw [vm_New_eq, scK_or, show (decide (m < 1) || decide (m > 3)) = false by simp; omega, scK_ok, if_pos (by exact ⟨rfl, p.len⟩), progOk_R hE.c188 p hsm hu hll, c1_ok, asB_ok, hpok, bind_ok]
    dsimp only
    rw [if_neg (by simp), if_pos (by exact ⟨rfl, p.len⟩), r8, c1_ok, asA_ok, if_pos (by exact ⟨rfl, by rw [nw_z]; omega⟩), if_pos (by exact ⟨rfl, by rw [splice_len (by rw [nw_z]; simp), nw_z]; omega⟩), cnt, bind_ok]
    dsimp only
    rw [vm_New_e1_1]
    have hsl : ∀ {α : Type} (F : Cell → Option α), sliceAK (h8 ++ [some ⟨true, 0, l0⟩]) 4 1 false false (.ptr h8.length 329 (0 + 24)) [] F = F (.sl h8.length 329 24 4) := fun F => by
      unfold sliceAK okSl boundsK
      simp only
      rw [b8]
      simp only
      rw [if_pos (by rw [hl0]; simp)]
    rw [hsl, hbg]
    unfold copyK
    rw [hci, bind_ok]
    dsimp only
    rw [b8, bind_ok]
    dsimp only
    rw [if_pos ⟨rfl, hl0, by omega⟩, intC_len, Nat.div_one, Nat.min_eq_left hil, Nat.mul_one, List.take_of_length_le (by rw [intC_len]; exact Nat.le_refl _), hsp, setBlk_last]
  · rw [List.take_append_of_le_length (Nat.le_refl _), List.take_length]; exact p8
end
end Jq

/- Machines: what stays so. -/
namespace Jq
open Go

theorem getDset {α : Type} {l : List α} {i : Nat} (hi : i < l.length) (y d : α) (j : Nat) : (l.set i y).getD j d = if j = i then y else l.getD j d := by
  rw [List.getD_eq_getElem?_getD, List.getD_eq_getElem?_getD, List.getElem?_set]
  by_cases h : i = j
  · subst h; rw [if_pos rfl, if_pos hi, if_pos rfl]; rfl
  · rw [if_neg h, if_neg (fun e => h e.symm)]

theorem startL_pc (P : PProg) (t : Int) : 0 ≤ (startL P t).pc := by
  unfold startL normL
  exact nrm_pc (code := P.code t) _ Lcl.zero

theorem MV.new_inv {P : PProg} {m : Int} (hm : 1 ≤ m ∧ m ≤ 3) (hs : P.small) (hf : ∀ c ∈ P.thr, ∀ i ∈ c, fldB (hasB P) i = true) (hl : P.locs.length ≤ 4) (hi : P.init.length ≤ 4) (hc : ∀ c ∈ P.thr, c.length ≤ 10) : (MV.new P m).Inv := by
  refine ⟨MV.new_fit hm hi, hs, hf, hl, hc, fun b hb e he => ?_, fun t ht => ?_⟩
  · simp [MV.new] at hb; subst hb; simp at he
  · match t with
    | 0 => exact startL_pc P 0
    | 1 => exact startL_pc P 1
    | 2 => exact startL_pc P 2
    | 3 => exact startL_pc P 3
    | t + 4 => omega

theorem MV.wr_lc (V : MV) (t : Nat) (e : Evt) : (V.wr t e).lc = V.lc ∧ (V.wr t e).P = V.P ∧ (V.wr t e).m = V.m := by
  unfold MV.wr; split <;> (try split) <;> exact ⟨rfl, rfl, rfl⟩

theorem MV.wr_bf (V : MV) (t : Nat) (e : Evt) : (V.wr t e).bf = if e.kind = 2 ∧ V.m ≠ 1 then V.bf.set t (V.b t ++ [⟨e.loc, e.w, V.st.length⟩]) else V.bf := by
  unfold MV.wr; split
  · rfl
  · split <;> rfl

/-- Facts of all four rows are facts of all rows. -/
theorem MV.rows_of {W : MV} (h4 : W.bf.length = 4) {p : List Ent → Prop} (h : ∀ t, t < 4 → p (W.b t)) : ∀ b ∈ W.bf, p b := by
  intro b hb
  obtain ⟨t, ht, rfl⟩ := List.mem_iff_getElem.1 hb
  have := h t (by omega)
  unfold MV.b at this
  rw [List.getD_eq_getElem?_getD, List.getElem?_eq_getElem ht] at this
  exact this

/-- A thread that may go on has an instruction. -/
theorem MV.may_thr {V : MV} {i : Nat} (hi : i < 4) (h : V.may i = true) : V.nxt i = some (V.thrI i) := by
  unfold MV.may at h
  rw [if_pos hi] at h
  unfold MV.mayT at h
  unfold MV.thrI
  cases hq : V.nxt i with
  | none => rw [hq] at h; cases h
  | some q => rfl

section nx
variable {V : MV} (v : V.Inv)
include v

theorem MV.Inv.thrL {i : Nat} (hi : i < 4) (q : Ins) (t : Nat) : (V.thrM i q).l t = if t = i then afterL (V.P.code i) (V.l i) (V.val i q).1 else V.l t := by
  show (V.lc.set i _).getD t Lcl.zero = _
  rw [getDset (by rw [v.fit.lc]; exact hi)]
  rfl
theorem MV.Inv.thrB {i : Nat} (hi : i < 4) (q : Ins) (t : Nat) : (V.thrM i q).b t = if t = i ∧ (evOf q (V.l i) (V.val i q).1).kind = 2 ∧ V.m ≠ 1 then V.b i ++ [⟨(evOf q (V.l i) (V.val i q).1).loc, (evOf q (V.l i) (V.val i q).1).w, V.st.length⟩] else V.b t := by
  show (V.wr i _).bf.getD t [] = _
  rw [V.wr_bf]
  split
  · rename_i h
    rw [getDset (by rw [v.fit.bf]; exact hi)]
    by_cases ht : t = i
    · rw [if_pos ht, if_pos ⟨ht, h⟩]
    · rw [if_neg ht, if_neg (fun q => ht q.1)]; rfl
  · rename_i h
    rw [if_neg (fun q => h q.2)]; rfl
theorem MV.Inv.fluB {i : Nat} (hi : i < 4) (loc : Int) (t : Nat) : (V.fluM i loc).b t = if t = i then (V.b i).eraseP (oldP (bmod V.m) loc) else V.b t := by
  show (V.bf.set i _).getD t [] = _
  rw [getDset (by rw [v.fit.bf]; exact hi)]
  rfl

theorem MV.Inv.mem_b {t : Nat} {e : Ent} (he : e ∈ V.b t) : 0 ≤ e.loc ∧ e.loc < 4 := by
  by_cases ht : t < V.bf.length
  · exact v.ents _ (List.mem_of_getElem? (MV.b_at ht)) e he
  · unfold MV.b at he
    rw [List.getD_eq_getElem?_getD, List.getElem?_eq_none (by omega)] at he
    simp at he

theorem MV.Inv.thr {i : Nat} (hi : i < 4) {q : Ins} (hq : V.nxt i = some q) : (V.thrM i q).Inv := by
  obtain ⟨q1, q2, q3, q4, q5⟩ := v.nxt hq
  have hb := v.thrB hi q
  have hl := v.thrL hi q
  have hpc : (V.l i).pc + 1 ≤ (afterL (V.P.code i) (V.l i) (V.val i q).1).pc := afterL_pc hq _
  have hev := evOf_loc (l := V.l i) (v := (V.val i q).1) q1
  obtain ⟨w1, w2, w3⟩ := V.wr_lc i (evOf q (V.l i) (V.val i q).1)
  have f := v.fit
  have e0 : (V.thrM i q).bf.length = 4 := by
    show (V.wr i _).bf.length = 4
    rw [V.wr_bf]; split
    · rw [List.length_set]; exact f.bf
    · exact f.bf
  have blen : ∀ t, t < 4 → ((V.thrM i q).b t).length ≤ 24 := fun t ht => by
    rw [hb]
    split
    · have := v.pcs i hi
      rw [List.length_append, List.length_singleton]; omega
    · exact v.blen ht
  have hmm : (V.thrM i q).m = V.m := w3
  have hPP : (V.thrM i q).P = V.P := w2
  refine ⟨⟨by rw [hmm]; exact f.m, by show (V.lc.set _ _).length = 4; rw [List.length_set]; exact f.lc, ?_, ?_, e0, MV.rows_of e0 blen⟩, by rw [hPP]; exact v.small, by rw [hPP]; exact v.fld, by rw [hPP]; exact v.locs, by rw [hPP]; exact v.c10, MV.rows_of e0 fun t ht e he => ?_, fun t ht => ?_⟩
  · show (V.wr i _).mem.length = 4
    unfold MV.wr; split
    · exact f.mem
    · split
      · rw [List.length_set]; exact f.mem
      · exact f.mem
  · show (V.wr i _).frm.length = 4
    unfold MV.wr; split
    · exact f.frm
    · split
      · rw [List.length_set]; exact f.frm
      · exact f.frm
  · rw [hb] at he
    split at he
    · rcases List.mem_append.1 he with he | he
      · exact v.mem_b he
      · rw [List.mem_singleton] at he; subst he; exact hev
    · exact v.mem_b he
  · rw [hb, hl]
    by_cases h : t = i
    · subst h
      rw [if_pos rfl]
      have := v.pcs t ht
      split
      · rw [List.length_append, List.length_singleton]; omega
      · omega
    · rw [if_neg h, if_neg (fun q => h q.1)]
      exact v.pcs t ht

theorem MV.Inv.flu {i : Nat} (hi : i < 4) (loc : Int) : (V.fluM i loc).Inv := by
  have hb := v.fluB hi loc
  have f := v.fit
  have e0 : (V.fluM i loc).bf.length = 4 := by show (V.bf.set _ _).length = 4; rw [List.length_set]; exact f.bf
  refine ⟨⟨f.m, f.lc, by show (V.mem.set _ _).length = 4; rw [List.length_set]; exact f.mem, by show (V.frm.set _ _).length = 4; rw [List.length_set]; exact f.frm, e0, MV.rows_of e0 fun t ht => ?_⟩, v.small, v.fld, v.locs, v.c10, MV.rows_of e0 fun t ht e he => ?_, fun t ht => ?_⟩
  · rw [hb]; split
    · exact Nat.le_trans List.length_eraseP_le (v.blen hi)
    · exact v.blen ht
  · rw [hb] at he
    split at he
    · exact v.mem_b (List.mem_of_mem_eraseP he)
    · exact v.mem_b he
  · rw [hb]
    show _ ≤ (V.l t).pc
    split
    · rename_i h
      subst h
      have := v.pcs t ht
      have h2 := List.length_eraseP_le (p := oldP (bmod V.m) loc) (l := V.b t)
      omega
    · exact v.pcs t ht

theorem MV.Inv.st {s : List Stp} : MV.Inv { V with st := s } := ⟨⟨v.fit.m, v.fit.lc, v.fit.mem, v.fit.frm, v.fit.bf, v.fit.b⟩, v.small, v.fld, v.locs, v.c10, v.ents, v.pcs⟩

theorem MV.Inv.nx {i : Nat} (h : V.may i = true) : (V.nx i).Inv := by
  have hi := MV.may_lt h
  unfold MV.nx
  split
  · rename_i h4
    exact (v.thr h4 (MV.may_thr h4 h)).st
  · split
    · exact (v.flu (by omega) _).st
    · exact (v.flu (by omega) _).st
end nx

end Jq

namespace Jq
open Go


end Jq

namespace Jq
open Go


end Jq

/- What a function needs of an environment. -/
namespace Jq
open Go


end Jq

/- What a function needs of an environment. -/
namespace Jq
open Go


end Jq

namespace Jq
open Go


end Jq

namespace Jq
open Go


end Jq

namespace Jq
open Go

/- strconv.Itoa: 45 -/
set_option maxRecDepth 100000 in
theorem strconv_Itoa_eq (C : CallF) (L : LoopF) (G : Glo) (a0 : Int) (h0 : AHeap) :
    strconv_Itoa.body C L G [(.c (.int .i64 a0))] h0 =
    c1 (C 46 [(.c (.int .i64 a0))] h0) fun y_2 h_1 => asS y_2 fun z_3 => some ([(.c (.str z_3))], h_1) := by kernel_rfl


end Jq

namespace Jq
open Go

/- internal/strconv.Itoa: 46 -/
set_option maxRecDepth 100000 in
theorem istrconv_Itoa_eq (C : CallF) (L : LoopF) (G : Glo) (a0 : Int) (h0 : AHeap) :
    istrconv_Itoa.body C L G [(.c (.int .i64 a0))] h0 =
    c1 (C 47 [(.c (.int .i64 a0)), (.c (.int .i64 10))] h0) fun y_2 h_1 => asS y_2 fun z_3 => some ([(.c (.str z_3))], h_1) := by kernel_rfl

/- internal/strconv.FormatInt: 47 -/
set_option maxRecDepth 100000 in
theorem istrconv_FormatInt_eq (C : CallF) (L : LoopF) (G : Glo) (a0 : Int) (a1 : Int) (h0 : AHeap) :
    istrconv_FormatInt.body C L G [(.c (.int .i64 a0)), (.c (.int .i64 a1))] h0 =
    if (a1 == 10) = true then scK (decide (0 ≤ a0)) true (some ((decide (a0 < 100)), h0)) false h0 fun b_1 h_2 => if b_1 = true then c1 (C 48 [(.c (.int .i64 a0))] h_2) fun y_4 h_3 => asS y_4 fun z_5 => finish true h0 [(.c (.str z_5))] h_3 else if (decide (a0 < 0)) = true then c1 (C 49 [(.c (.int .u64 (G.wrap .u64 (0 - (G.wrap .u64 a0)))))] (h_2 ++ [some (Blk.mk true 0 (List.replicate 24 (Cell.int .u8 0)))])) fun y_7 h_6 => asI .i64 y_7 fun n_8 => sliceAK h_6 24 1 true true (.ptr h_2.length ((List.replicate 24 (Cell.int .u8 0)).length) 0) [.v (.c (.int .i64 1)), .v (.c (.int .i64 (G.wrap .i64 (1 + n_8))))] fun x_9 => c0 (C 50 [(.c x_9), (.c (.int .u64 (G.wrap .u64 (0 - (G.wrap .u64 a0)))))] h_6) fun h_10 => if (decide (a0 < 0)) = true then rdH h_10 h_2.length ((List.replicate 24 (Cell.int .u8 0)).length) fun l_11 => if 0 < l_11.length then putH h_10 h_2.length (l_11.set 0 (.int .u8 45)) fun h_12 => sliceAK h_12 24 1 false true (.ptr h_2.length ((List.replicate 24 (Cell.int .u8 0)).length) 0) [.v (.c (.int .i64 (G.wrap .i64 (1 + n_8))))] fun x_13 => (slCells h_12 1 x_13).bind fun l_14 => (bytesOf l_14).bind fun l_15 => finish true h0 [(.c (.str (ByteArray.mk l_15.toArray)))] h_12 else none else sliceAK h_10 24 1 true true (.ptr h_2.length ((List.replicate 24 (Cell.int .u8 0)).length) 0) [.v (.c (.int .i64 1)), .v (.c (.int .i64 (G.wrap .i64 (1 + n_8))))] fun x_16 => (slCells h_10 1 x_16).bind fun l_17 => (bytesOf l_17).bind fun l_18 => finish true h0 [(.c (.str (ByteArray.mk l_18.toArray)))] h_10 else c1 (C 49 [(.c (.int .u64 (G.wrap .u64 a0)))] (h_2 ++ [some (Blk.mk true 0 (List.replicate 24 (Cell.int .u8 0)))])) fun y_20 h_19 => asI .i64 y_20 fun n_21 => sliceAK h_19 24 1 true true (.ptr h_2.length ((List.replicate 24 (Cell.int .u8 0)).length) 0) [.v (.c (.int .i64 1)), .v (.c (.int .i64 (G.wrap .i64 (1 + n_21))))] fun x_22 => c0 (C 50 [(.c x_22), (.c (.int .u64 (G.wrap .u64 a0)))] h_19) fun h_23 => if (decide (a0 < 0)) = true then rdH h_23 h_2.length ((List.replicate 24 (Cell.int .u8 0)).length) fun l_24 => if 0 < l_24.length then putH h_23 h_2.length (l_24.set 0 (.int .u8 45)) fun h_25 => sliceAK h_25 24 1 false true (.ptr h_2.length ((List.replicate 24 (Cell.int .u8 0)).length) 0) [.v (.c (.int .i64 (G.wrap .i64 (1 + n_21))))] fun x_26 => (slCells h_25 1 x_26).bind fun l_27 => (bytesOf l_27).bind fun l_28 => finish true h0 [(.c (.str (ByteArray.mk l_28.toArray)))] h_25 else none else sliceAK h_23 24 1 true true (.ptr h_2.length ((List.replicate 24 (Cell.int .u8 0)).length) 0) [.v (.c (.int .i64 1)), .v (.c (.int .i64 (G.wrap .i64 (1 + n_21))))] fun x_29 => (slCells h_23 1 x_29).bind fun l_30 => (bytesOf l_30).bind fun l_31 => finish true h0 [(.c (.str (ByteArray.mk l_31.toArray)))] h_23 else c2 (C 51 [(.c .nils), (.c (.int .u64 (G.wrap .u64 a0))), (.c (.int .i64 a1)), (.c (.bool (decide (a0 < 0)))), (.c (.bool false))] h0) fun y_33 y_34 h_32 => asC y_33 fun x_35 => asS y_34 fun z_36 => finish true h0 [(.c (.str z_36))] h_32 := by kernel_rfl

/- internal/strconv.small: 48 -/
set_option maxRecDepth 100000 in
theorem istrconv_small_eq (C : CallF) (L : LoopF) (G : Glo) (a0 : Int) (h0 : AHeap) :
    istrconv_small.body C L G [(.c (.int .i64 a0))] h0 =
    if (decide (a0 < 10)) = true then sliceStrK true true (.str (ByteArray.mk #[48, 49, 50, 51, 52, 53, 54, 55, 56, 57, 97, 98, 99, 100, 101, 102, 103, 104, 105, 106, 107, 108, 109, 110, 111, 112, 113, 114, 115, 116, 117, 118, 119, 120, 121, 122])) [.v (.c (.int .i64 a0)), .v (.c (.int .i64 (G.wrap .i64 (a0 + 1))))] fun x_1 => some ([(.c (.str x_1))], h0) else let v_2 : Int := (G.wrap .i64 ((G.wrap .i64 (a0 * 2)) + 2)); sliceStrK true true (.str (ByteArray.mk #[48, 48, 48, 49, 48, 50, 48, 51, 48, 52, 48, 53, 48, 54, 48, 55, 48, 56, 48, 57, 49, 48, 49, 49, 49, 50, 49, 51, 49, 52, 49, 53, 49, 54, 49, 55, 49, 56, 49, 57, 50, 48, 50, 49, 50, 50, 50, 51, 50, 52, 50, 53, 50, 54, 50, 55, 50, 56, 50, 57, 51, 48, 51, 49, 51, 50, 51, 51, 51, 52, 51, 53, 51, 54, 51, 55, 51, 56, 51, 57, 52, 48, 52, 49, 52, 50, 52, 51, 52, 52, 52, 53, 52, 54, 52, 55, 52, 56, 52, 57, 53, 48, 53, 49, 53, 50, 53, 51, 53, 52, 53, 53, 53, 54, 53, 55, 53, 56, 53, 57, 54, 48, 54, 49, 54, 50, 54, 51, 54, 52, 54, 53, 54, 54, 54, 55, 54, 56, 54, 57, 55, 48, 55, 49, 55, 50, 55, 51, 55, 52, 55, 53, 55, 54, 55, 55, 55, 56, 55, 57, 56, 48, 56, 49, 56, 50, 56, 51, 56, 52, 56, 53, 56, 54, 56, 55, 56, 56, 56, 57, 57, 48, 57, 49, 57, 50, 57, 51, 57, 52, 57, 53, 57, 54, 57, 55, 57, 56, 57, 57])) [.v (.c (.int .i64 (G.wrap .i64 (a0 * 2)))), .v (.c (.int .i64 v_2))] fun x_3 => some ([(.c (.str x_3))], h0) := by kernel_rfl


end Jq

/- NamesNumbers: every number is the document's. -/
namespace Jq
open Go

variable {E : Env}

theorem Itoa_of (hE : strconv_Itoa_In E) {a : Int} {z : ByteArray} (ha : 0 ≤ a ∧ a < 100) {h : AHeap} (small : R E 48 [.c (.int .i64 a)] h = some ([.c (.str z)], h)) : R E 45 [.c (.int .i64 a)] h = some ([.c (.str z)], h) := by
  refine R_intro hE.fn ?_
  have fmt : R E 47 [.c (.int .i64 a), .c (.int .i64 10)] h = some ([.c (.str z)], h) := by
    refine R_intro hE.c46.c47.fn ?_
    rw [istrconv_FormatInt_eq, if_pos (by rfl), scK_and, if_pos (by simp; omega), small, c1_ok, asS_ok]
    exact finish_gc (Kp.refl _ _) (by simp [avOk, AV.cells, idOk])
  have it : R E 46 [.c (.int .i64 a)] h = some ([.c (.str z)], h) := by
    refine R_intro hE.c46.fn ?_
    rw [istrconv_Itoa_eq, fmt, c1_ok, asS_ok]
  rw [strconv_Itoa_eq, it, c1_ok, asS_ok]

/-- The numbers. -/
def nums : List (Int × Int) := [(0, 0), (1, 1), (2, 2), (4, 4), (5, 5), (6, 6), (7, 7), (8, 8), (9, 9), (10, 10), (4000, 4000), (4, 4), (10, 10), (24, 24), (4, 4), (1, 1), (2, 2), (3, 3), (4, 4), (5, 5), (6, 6), (7, 7), (8, 8), (9, 9), (10, 10), (11, 11), (1, 1), (2, 2), (3, 3), (4, 4), (1, 1), (2, 2), (3, 3), (4, 4), (5, 5), (6, 6), (1, 1), (2, 2), (1, 1), (2, 2), (3, 3), (4, 4), (5, 5), (6, 6), (1, 1), (2, 2), (3, 3), (0, 0), (1, 1), (2, 2), (1, 1), (2, 2), (3, 3), (4, 4), (5, 5), (6, 6), (7, 7), (8, 8), (9, 9), (10, 10), (11, 11), (12, 12), (13, 13)]

end Jq

namespace Jq
open Go

/- jacquard/jacquardlaw12.SB: 187 -/
set_option maxRecDepth 100000 in
theorem jacquardlaw12_SB_eq (C : CallF) (L : LoopF) (G : Glo)  (h0 : AHeap) :
    jacquardlaw12_SB.body C L G [] h0 =
    if 0 = 0 ∧ [Cell.int .i64 0, Cell.int .i64 0].length = 2 ∧ (splice (splice [Cell.int .i64 0, Cell.int .i64 0] 0 ([(.int .i64 (-1))] : List Cell)) 1 ([(.int .i64 1)] : List Cell)).length = 2 then if (splice (splice [Cell.int .u8 0, Cell.int .u8 0] 0 ([(.int .u8 120)] : List Cell)) 1 ([(.int .u8 121)] : List Cell)).length = 2 * 1 then markK (.sl h0.length ((splice (splice [Cell.int .u8 0, Cell.int .u8 0] 0 ([(.int .u8 120)] : List Cell)) 1 ([(.int .u8 121)] : List Cell)).length) 0 2) (h0 ++ [some (Blk.mk true 1 (splice (splice [Cell.int .u8 0, Cell.int .u8 0] 0 ([(.int .u8 120)] : List Cell)) 1 ([(.int .u8 121)] : List Cell)))]) fun x_1 h_2 => if (splice (splice [Cell.int .i64 0, Cell.int .i64 0] 0 ([(.int .i64 0)] : List Cell)) 1 ([(.int .i64 0)] : List Cell)).length = 2 * 1 then if 0 = 0 ∧ (splice (splice [Cell.int .i64 0, Cell.int .i64 0] 0 ([(.int .i64 (-1))] : List Cell)) 1 ([(.int .i64 1)] : List Cell)).length = 2 then if (splice (splice [Cell.int .i64 0, Cell.int .i64 0] 0 ([(.int .i64 (-1))] : List Cell)) 1 ([(.int .i64 1)] : List Cell)).length = 2 ∧ 3 + 2 ≤ (splice (splice (List.replicate 9 (Cell.int .i64 0)) 0 ([(.int .i64 1)] : List Cell)) 2 ([(.int .i64 0)] : List Cell)).length then if (splice (splice (splice (List.replicate 9 (Cell.int .i64 0)) 0 ([(.int .i64 1)] : List Cell)) 2 ([(.int .i64 0)] : List Cell)) 3 (splice (splice [Cell.int .i64 0, Cell.int .i64 0] 0 ([(.int .i64 (-1))] : List Cell)) 1 ([(.int .i64 1)] : List Cell))).length = 9 ∧ 0 + 9 ≤ (List.replicate 18 (Cell.int .i64 0)).length then if (splice (splice (List.replicate 9 (Cell.int .i64 0)) 0 ([(.int .i64 2)] : List Cell)) 2 ([(.int .i64 1)] : List Cell)).length = 9 ∧ 9 + 9 ≤ (splice (List.replicate 18 (Cell.int .i64 0)) 0 (splice (splice (splice (List.replicate 9 (Cell.int .i64 0)) 0 ([(.int .i64 1)] : List Cell)) 2 ([(.int .i64 0)] : List Cell)) 3 (splice (splice [Cell.int .i64 0, Cell.int .i64 0] 0 ([(.int .i64 (-1))] : List Cell)) 1 ([(.int .i64 1)] : List Cell)))).length then if (splice (splice (List.replicate 18 (Cell.int .i64 0)) 0 (splice (splice (splice (List.replicate 9 (Cell.int .i64 0)) 0 ([(.int .i64 1)] : List Cell)) 2 ([(.int .i64 0)] : List Cell)) 3 (splice (splice [Cell.int .i64 0, Cell.int .i64 0] 0 ([(.int .i64 (-1))] : List Cell)) 1 ([(.int .i64 1)] : List Cell)))) 9 (splice (splice (List.replicate 9 (Cell.int .i64 0)) 0 ([(.int .i64 2)] : List Cell)) 2 ([(.int .i64 1)] : List Cell))).length = 2 * 9 then if 0 = 0 ∧ (splice (splice [Cell.int .i64 0, Cell.int .i64 0] 0 ([(.int .i64 (-1))] : List Cell)) 1 ([(.int .i64 1)] : List Cell)).length = 2 then if (splice (splice [Cell.int .i64 0, Cell.int .i64 0] 0 ([(.int .i64 (-1))] : List Cell)) 1 ([(.int .i64 1)] : List Cell)).length = 2 ∧ 3 + 2 ≤ (splice (splice (List.replicate 9 (Cell.int .i64 0)) 0 ([(.int .i64 1)] : List Cell)) 2 ([(.int .i64 1)] : List Cell)).length then if (splice (splice (splice (List.replicate 9 (Cell.int .i64 0)) 0 ([(.int .i64 1)] : List Cell)) 2 ([(.int .i64 1)] : List Cell)) 3 (splice (splice [Cell.int .i64 0, Cell.int .i64 0] 0 ([(.int .i64 (-1))] : List Cell)) 1 ([(.int .i64 1)] : List Cell))).length = 9 ∧ 0 + 9 ≤ (List.replicate 18 (Cell.int .i64 0)).length then if (splice (splice (List.replicate 9 (Cell.int .i64 0)) 0 ([(.int .i64 2)] : List Cell)) 2 ([(.int .i64 0)] : List Cell)).length = 9 ∧ 9 + 9 ≤ (splice (List.replicate 18 (Cell.int .i64 0)) 0 (splice (splice (splice (List.replicate 9 (Cell.int .i64 0)) 0 ([(.int .i64 1)] : List Cell)) 2 ([(.int .i64 1)] : List Cell)) 3 (splice (splice [Cell.int .i64 0, Cell.int .i64 0] 0 ([(.int .i64 (-1))] : List Cell)) 1 ([(.int .i64 1)] : List Cell)))).length then if (splice (splice (List.replicate 18 (Cell.int .i64 0)) 0 (splice (splice (splice (List.replicate 9 (Cell.int .i64 0)) 0 ([(.int .i64 1)] : List Cell)) 2 ([(.int .i64 1)] : List Cell)) 3 (splice (splice [Cell.int .i64 0, Cell.int .i64 0] 0 ([(.int .i64 (-1))] : List Cell)) 1 ([(.int .i64 1)] : List Cell)))) 9 (splice (splice (List.replicate 9 (Cell.int .i64 0)) 0 ([(.int .i64 2)] : List Cell)) 2 ([(.int .i64 0)] : List Cell))).length = 2 * 9 then if (splice (splice [Cell.nils, Cell.nils] 0 ([(.sl ((h_2 ++ [some (Blk.mk true 1 (splice (splice [Cell.int .i64 0, Cell.int .i64 0] 0 ([(.int .i64 0)] : List Cell)) 1 ([(.int .i64 0)] : List Cell)))]).length) ((splice (splice (List.replicate 18 (Cell.int .i64 0)) 0 (splice (splice (splice (List.replicate 9 (Cell.int .i64 0)) 0 ([(.int .i64 1)] : List Cell)) 2 ([(.int .i64 0)] : List Cell)) 3 (splice (splice [Cell.int .i64 0, Cell.int .i64 0] 0 ([(.int .i64 (-1))] : List Cell)) 1 ([(.int .i64 1)] : List Cell)))) 9 (splice (splice (List.replicate 9 (Cell.int .i64 0)) 0 ([(.int .i64 2)] : List Cell)) 2 ([(.int .i64 1)] : List Cell))).length) 0 2)] : List Cell)) 1 ([(.sl (((h_2 ++ [some (Blk.mk true 1 (splice (splice [Cell.int .i64 0, Cell.int .i64 0] 0 ([(.int .i64 0)] : List Cell)) 1 ([(.int .i64 0)] : List Cell)))]) ++ [some (Blk.mk true 9 (splice (splice (List.replicate 18 (Cell.int .i64 0)) 0 (splice (splice (splice (List.replicate 9 (Cell.int .i64 0)) 0 ([(.int .i64 1)] : List Cell)) 2 ([(.int .i64 0)] : List Cell)) 3 (splice (splice [Cell.int .i64 0, Cell.int .i64 0] 0 ([(.int .i64 (-1))] : List Cell)) 1 ([(.int .i64 1)] : List Cell)))) 9 (splice (splice (List.replicate 9 (Cell.int .i64 0)) 0 ([(.int .i64 2)] : List Cell)) 2 ([(.int .i64 1)] : List Cell))))]).length) ((splice (splice (List.replicate 18 (Cell.int .i64 0)) 0 (splice (splice (splice (List.replicate 9 (Cell.int .i64 0)) 0 ([(.int .i64 1)] : List Cell)) 2 ([(.int .i64 1)] : List Cell)) 3 (splice (splice [Cell.int .i64 0, Cell.int .i64 0] 0 ([(.int .i64 (-1))] : List Cell)) 1 ([(.int .i64 1)] : List Cell)))) 9 (splice (splice (List.replicate 9 (Cell.int .i64 0)) 0 ([(.int .i64 2)] : List Cell)) 2 ([(.int .i64 0)] : List Cell))).length) 0 2)] : List Cell)).length = 2 * 1 then if 0 = 0 ∧ [Cell.nils, Cell.nils, Cell.nils].length = 3 ∧ (splice (splice (splice [Cell.nils, Cell.nils, Cell.nils] 0 ([x_1] : List Cell)) 1 ([(.sl h_2.length ((splice (splice [Cell.int .i64 0, Cell.int .i64 0] 0 ([(.int .i64 0)] : List Cell)) 1 ([(.int .i64 0)] : List Cell)).length) 0 2)] : List Cell)) 2 ([(.sl ((((h_2 ++ [some (Blk.mk true 1 (splice (splice [Cell.int .i64 0, Cell.int .i64 0] 0 ([(.int .i64 0)] : List Cell)) 1 ([(.int .i64 0)] : List Cell)))]) ++ [some (Blk.mk true 9 (splice (splice (List.replicate 18 (Cell.int .i64 0)) 0 (splice (splice (splice (List.replicate 9 (Cell.int .i64 0)) 0 ([(.int .i64 1)] : List Cell)) 2 ([(.int .i64 0)] : List Cell)) 3 (splice (splice [Cell.int .i64 0, Cell.int .i64 0] 0 ([(.int .i64 (-1))] : List Cell)) 1 ([(.int .i64 1)] : List Cell)))) 9 (splice (splice (List.replicate 9 (Cell.int .i64 0)) 0 ([(.int .i64 2)] : List Cell)) 2 ([(.int .i64 1)] : List Cell))))]) ++ [some (Blk.mk true 9 (splice (splice (List.replicate 18 (Cell.int .i64 0)) 0 (splice (splice (splice (List.replicate 9 (Cell.int .i64 0)) 0 ([(.int .i64 1)] : List Cell)) 2 ([(.int .i64 1)] : List Cell)) 3 (splice (splice [Cell.int .i64 0, Cell.int .i64 0] 0 ([(.int .i64 (-1))] : List Cell)) 1 ([(.int .i64 1)] : List Cell)))) 9 (splice (splice (List.replicate 9 (Cell.int .i64 0)) 0 ([(.int .i64 2)] : List Cell)) 2 ([(.int .i64 0)] : List Cell))))]).length) ((splice (splice [Cell.nils, Cell.nils] 0 ([(.sl ((h_2 ++ [some (Blk.mk true 1 (splice (splice [Cell.int .i64 0, Cell.int .i64 0] 0 ([(.int .i64 0)] : List Cell)) 1 ([(.int .i64 0)] : List Cell)))]).length) ((splice (splice (List.replicate 18 (Cell.int .i64 0)) 0 (splice (splice (splice (List.replicate 9 (Cell.int .i64 0)) 0 ([(.int .i64 1)] : List Cell)) 2 ([(.int .i64 0)] : List Cell)) 3 (splice (splice [Cell.int .i64 0, Cell.int .i64 0] 0 ([(.int .i64 (-1))] : List Cell)) 1 ([(.int .i64 1)] : List Cell)))) 9 (splice (splice (List.replicate 9 (Cell.int .i64 0)) 0 ([(.int .i64 2)] : List Cell)) 2 ([(.int .i64 1)] : List Cell))).length) 0 2)] : List Cell)) 1 ([(.sl (((h_2 ++ [some (Blk.mk true 1 (splice (splice [Cell.int .i64 0, Cell.int .i64 0] 0 ([(.int .i64 0)] : List Cell)) 1 ([(.int .i64 0)] : List Cell)))]) ++ [some (Blk.mk true 9 (splice (splice (List.replicate 18 (Cell.int .i64 0)) 0 (splice (splice (splice (List.replicate 9 (Cell.int .i64 0)) 0 ([(.int .i64 1)] : List Cell)) 2 ([(.int .i64 0)] : List Cell)) 3 (splice (splice [Cell.int .i64 0, Cell.int .i64 0] 0 ([(.int .i64 (-1))] : List Cell)) 1 ([(.int .i64 1)] : List Cell)))) 9 (splice (splice (List.replicate 9 (Cell.int .i64 0)) 0 ([(.int .i64 2)] : List Cell)) 2 ([(.int .i64 1)] : List Cell))))]).length) ((splice (splice (List.replicate 18 (Cell.int .i64 0)) 0 (splice (splice (splice (List.replicate 9 (Cell.int .i64 0)) 0 ([(.int .i64 1)] : List Cell)) 2 ([(.int .i64 1)] : List Cell)) 3 (splice (splice [Cell.int .i64 0, Cell.int .i64 0] 0 ([(.int .i64 (-1))] : List Cell)) 1 ([(.int .i64 1)] : List Cell)))) 9 (splice (splice (List.replicate 9 (Cell.int .i64 0)) 0 ([(.int .i64 2)] : List Cell)) 2 ([(.int .i64 0)] : List Cell))).length) 0 2)] : List Cell)).length) 0 2)] : List Cell)).length = 3 then if 0 = 0 ∧ (splice (splice (splice [Cell.nils, Cell.nils, Cell.nils] 0 ([x_1] : List Cell)) 1 ([(.sl h_2.length ((splice (splice [Cell.int .i64 0, Cell.int .i64 0] 0 ([(.int .i64 0)] : List Cell)) 1 ([(.int .i64 0)] : List Cell)).length) 0 2)] : List Cell)) 2 ([(.sl ((((h_2 ++ [some (Blk.mk true 1 (splice (splice [Cell.int .i64 0, Cell.int .i64 0] 0 ([(.int .i64 0)] : List Cell)) 1 ([(.int .i64 0)] : List Cell)))]) ++ [some (Blk.mk true 9 (splice (splice (List.replicate 18 (Cell.int .i64 0)) 0 (splice (splice (splice (List.replicate 9 (Cell.int .i64 0)) 0 ([(.int .i64 1)] : List Cell)) 2 ([(.int .i64 0)] : List Cell)) 3 (splice (splice [Cell.int .i64 0, Cell.int .i64 0] 0 ([(.int .i64 (-1))] : List Cell)) 1 ([(.int .i64 1)] : List Cell)))) 9 (splice (splice (List.replicate 9 (Cell.int .i64 0)) 0 ([(.int .i64 2)] : List Cell)) 2 ([(.int .i64 1)] : List Cell))))]) ++ [some (Blk.mk true 9 (splice (splice (List.replicate 18 (Cell.int .i64 0)) 0 (splice (splice (splice (List.replicate 9 (Cell.int .i64 0)) 0 ([(.int .i64 1)] : List Cell)) 2 ([(.int .i64 1)] : List Cell)) 3 (splice (splice [Cell.int .i64 0, Cell.int .i64 0] 0 ([(.int .i64 (-1))] : List Cell)) 1 ([(.int .i64 1)] : List Cell)))) 9 (splice (splice (List.replicate 9 (Cell.int .i64 0)) 0 ([(.int .i64 2)] : List Cell)) 2 ([(.int .i64 0)] : List Cell))))]).length) ((splice (splice [Cell.nils, Cell.nils] 0 ([(.sl ((h_2 ++ [some (Blk.mk true 1 (splice (splice [Cell.int .i64 0, Cell.int .i64 0] 0 ([(.int .i64 0)] : List Cell)) 1 ([(.int .i64 0)] : List Cell)))]).length) ((splice (splice (List.replicate 18 (Cell.int .i64 0)) 0 (splice (splice (splice (List.replicate 9 (Cell.int .i64 0)) 0 ([(.int .i64 1)] : List Cell)) 2 ([(.int .i64 0)] : List Cell)) 3 (splice (splice [Cell.int .i64 0, Cell.int .i64 0] 0 ([(.int .i64 (-1))] : List Cell)) 1 ([(.int .i64 1)] : List Cell)))) 9 (splice (splice (List.replicate 9 (Cell.int .i64 0)) 0 ([(.int .i64 2)] : List Cell)) 2 ([(.int .i64 1)] : List Cell))).length) 0 2)] : List Cell)) 1 ([(.sl (((h_2 ++ [some (Blk.mk true 1 (splice (splice [Cell.int .i64 0, Cell.int .i64 0] 0 ([(.int .i64 0)] : List Cell)) 1 ([(.int .i64 0)] : List Cell)))]) ++ [some (Blk.mk true 9 (splice (splice (List.replicate 18 (Cell.int .i64 0)) 0 (splice (splice (splice (List.replicate 9 (Cell.int .i64 0)) 0 ([(.int .i64 1)] : List Cell)) 2 ([(.int .i64 0)] : List Cell)) 3 (splice (splice [Cell.int .i64 0, Cell.int .i64 0] 0 ([(.int .i64 (-1))] : List Cell)) 1 ([(.int .i64 1)] : List Cell)))) 9 (splice (splice (List.replicate 9 (Cell.int .i64 0)) 0 ([(.int .i64 2)] : List Cell)) 2 ([(.int .i64 1)] : List Cell))))]).length) ((splice (splice (List.replicate 18 (Cell.int .i64 0)) 0 (splice (splice (splice (List.replicate 9 (Cell.int .i64 0)) 0 ([(.int .i64 1)] : List Cell)) 2 ([(.int .i64 1)] : List Cell)) 3 (splice (splice [Cell.int .i64 0, Cell.int .i64 0] 0 ([(.int .i64 (-1))] : List Cell)) 1 ([(.int .i64 1)] : List Cell)))) 9 (splice (splice (List.replicate 9 (Cell.int .i64 0)) 0 ([(.int .i64 2)] : List Cell)) 2 ([(.int .i64 0)] : List Cell))).length) 0 2)] : List Cell)).length) 0 2)] : List Cell)).length = 3 then some ([(.agg (splice (splice (splice [Cell.nils, Cell.nils, Cell.nils] 0 ([x_1] : List Cell)) 1 ([(.sl h_2.length ((splice (splice [Cell.int .i64 0, Cell.int .i64 0] 0 ([(.int .i64 0)] : List Cell)) 1 ([(.int .i64 0)] : List Cell)).length) 0 2)] : List Cell)) 2 ([(.sl ((((h_2 ++ [some (Blk.mk true 1 (splice (splice [Cell.int .i64 0, Cell.int .i64 0] 0 ([(.int .i64 0)] : List Cell)) 1 ([(.int .i64 0)] : List Cell)))]) ++ [some (Blk.mk true 9 (splice (splice (List.replicate 18 (Cell.int .i64 0)) 0 (splice (splice (splice (List.replicate 9 (Cell.int .i64 0)) 0 ([(.int .i64 1)] : List Cell)) 2 ([(.int .i64 0)] : List Cell)) 3 (splice (splice [Cell.int .i64 0, Cell.int .i64 0] 0 ([(.int .i64 (-1))] : List Cell)) 1 ([(.int .i64 1)] : List Cell)))) 9 (splice (splice (List.replicate 9 (Cell.int .i64 0)) 0 ([(.int .i64 2)] : List Cell)) 2 ([(.int .i64 1)] : List Cell))))]) ++ [some (Blk.mk true 9 (splice (splice (List.replicate 18 (Cell.int .i64 0)) 0 (splice (splice (splice (List.replicate 9 (Cell.int .i64 0)) 0 ([(.int .i64 1)] : List Cell)) 2 ([(.int .i64 1)] : List Cell)) 3 (splice (splice [Cell.int .i64 0, Cell.int .i64 0] 0 ([(.int .i64 (-1))] : List Cell)) 1 ([(.int .i64 1)] : List Cell)))) 9 (splice (splice (List.replicate 9 (Cell.int .i64 0)) 0 ([(.int .i64 2)] : List Cell)) 2 ([(.int .i64 0)] : List Cell))))]).length) ((splice (splice [Cell.nils, Cell.nils] 0 ([(.sl ((h_2 ++ [some (Blk.mk true 1 (splice (splice [Cell.int .i64 0, Cell.int .i64 0] 0 ([(.int .i64 0)] : List Cell)) 1 ([(.int .i64 0)] : List Cell)))]).length) ((splice (splice (List.replicate 18 (Cell.int .i64 0)) 0 (splice (splice (splice (List.replicate 9 (Cell.int .i64 0)) 0 ([(.int .i64 1)] : List Cell)) 2 ([(.int .i64 0)] : List Cell)) 3 (splice (splice [Cell.int .i64 0, Cell.int .i64 0] 0 ([(.int .i64 (-1))] : List Cell)) 1 ([(.int .i64 1)] : List Cell)))) 9 (splice (splice (List.replicate 9 (Cell.int .i64 0)) 0 ([(.int .i64 2)] : List Cell)) 2 ([(.int .i64 1)] : List Cell))).length) 0 2)] : List Cell)) 1 ([(.sl (((h_2 ++ [some (Blk.mk true 1 (splice (splice [Cell.int .i64 0, Cell.int .i64 0] 0 ([(.int .i64 0)] : List Cell)) 1 ([(.int .i64 0)] : List Cell)))]) ++ [some (Blk.mk true 9 (splice (splice (List.replicate 18 (Cell.int .i64 0)) 0 (splice (splice (splice (List.replicate 9 (Cell.int .i64 0)) 0 ([(.int .i64 1)] : List Cell)) 2 ([(.int .i64 0)] : List Cell)) 3 (splice (splice [Cell.int .i64 0, Cell.int .i64 0] 0 ([(.int .i64 (-1))] : List Cell)) 1 ([(.int .i64 1)] : List Cell)))) 9 (splice (splice (List.replicate 9 (Cell.int .i64 0)) 0 ([(.int .i64 2)] : List Cell)) 2 ([(.int .i64 1)] : List Cell))))]).length) ((splice (splice (List.replicate 18 (Cell.int .i64 0)) 0 (splice (splice (splice (List.replicate 9 (Cell.int .i64 0)) 0 ([(.int .i64 1)] : List Cell)) 2 ([(.int .i64 1)] : List Cell)) 3 (splice (splice [Cell.int .i64 0, Cell.int .i64 0] 0 ([(.int .i64 (-1))] : List Cell)) 1 ([(.int .i64 1)] : List Cell)))) 9 (splice (splice (List.replicate 9 (Cell.int .i64 0)) 0 ([(.int .i64 2)] : List Cell)) 2 ([(.int .i64 0)] : List Cell))).length) 0 2)] : List Cell)).length) 0 2)] : List Cell)))], ((((h_2 ++ [some (Blk.mk true 1 (splice (splice [Cell.int .i64 0, Cell.int .i64 0] 0 ([(.int .i64 0)] : List Cell)) 1 ([(.int .i64 0)] : List Cell)))]) ++ [some (Blk.mk true 9 (splice (splice (List.replicate 18 (Cell.int .i64 0)) 0 (splice (splice (splice (List.replicate 9 (Cell.int .i64 0)) 0 ([(.int .i64 1)] : List Cell)) 2 ([(.int .i64 0)] : List Cell)) 3 (splice (splice [Cell.int .i64 0, Cell.int .i64 0] 0 ([(.int .i64 (-1))] : List Cell)) 1 ([(.int .i64 1)] : List Cell)))) 9 (splice (splice (List.replicate 9 (Cell.int .i64 0)) 0 ([(.int .i64 2)] : List Cell)) 2 ([(.int .i64 1)] : List Cell))))]) ++ [some (Blk.mk true 9 (splice (splice (List.replicate 18 (Cell.int .i64 0)) 0 (splice (splice (splice (List.replicate 9 (Cell.int .i64 0)) 0 ([(.int .i64 1)] : List Cell)) 2 ([(.int .i64 1)] : List Cell)) 3 (splice (splice [Cell.int .i64 0, Cell.int .i64 0] 0 ([(.int .i64 (-1))] : List Cell)) 1 ([(.int .i64 1)] : List Cell)))) 9 (splice (splice (List.replicate 9 (Cell.int .i64 0)) 0 ([(.int .i64 2)] : List Cell)) 2 ([(.int .i64 0)] : List Cell))))]) ++ [some (Blk.mk true 1 (splice (splice [Cell.nils, Cell.nils] 0 ([(.sl ((h_2 ++ [some (Blk.mk true 1 (splice (splice [Cell.int .i64 0, Cell.int .i64 0] 0 ([(.int .i64 0)] : List Cell)) 1 ([(.int .i64 0)] : List Cell)))]).length) ((splice (splice (List.replicate 18 (Cell.int .i64 0)) 0 (splice (splice (splice (List.replicate 9 (Cell.int .i64 0)) 0 ([(.int .i64 1)] : List Cell)) 2 ([(.int .i64 0)] : List Cell)) 3 (splice (splice [Cell.int .i64 0, Cell.int .i64 0] 0 ([(.int .i64 (-1))] : List Cell)) 1 ([(.int .i64 1)] : List Cell)))) 9 (splice (splice (List.replicate 9 (Cell.int .i64 0)) 0 ([(.int .i64 2)] : List Cell)) 2 ([(.int .i64 1)] : List Cell))).length) 0 2)] : List Cell)) 1 ([(.sl (((h_2 ++ [some (Blk.mk true 1 (splice (splice [Cell.int .i64 0, Cell.int .i64 0] 0 ([(.int .i64 0)] : List Cell)) 1 ([(.int .i64 0)] : List Cell)))]) ++ [some (Blk.mk true 9 (splice (splice (List.replicate 18 (Cell.int .i64 0)) 0 (splice (splice (splice (List.replicate 9 (Cell.int .i64 0)) 0 ([(.int .i64 1)] : List Cell)) 2 ([(.int .i64 0)] : List Cell)) 3 (splice (splice [Cell.int .i64 0, Cell.int .i64 0] 0 ([(.int .i64 (-1))] : List Cell)) 1 ([(.int .i64 1)] : List Cell)))) 9 (splice (splice (List.replicate 9 (Cell.int .i64 0)) 0 ([(.int .i64 2)] : List Cell)) 2 ([(.int .i64 1)] : List Cell))))]).length) ((splice (splice (List.replicate 18 (Cell.int .i64 0)) 0 (splice (splice (splice (List.replicate 9 (Cell.int .i64 0)) 0 ([(.int .i64 1)] : List Cell)) 2 ([(.int .i64 1)] : List Cell)) 3 (splice (splice [Cell.int .i64 0, Cell.int .i64 0] 0 ([(.int .i64 (-1))] : List Cell)) 1 ([(.int .i64 1)] : List Cell)))) 9 (splice (splice (List.replicate 9 (Cell.int .i64 0)) 0 ([(.int .i64 2)] : List Cell)) 2 ([(.int .i64 0)] : List Cell))).length) 0 2)] : List Cell)))])) else none else none else none else none else none else none else none else none else none else none else none else none else none else none else none else none := by kernel_rfl


end Jq

namespace Jq
open Go

/- jacquard/jacquardlaw16.jacquardref6Digit: 169 -/
set_option maxRecDepth 100000 in
theorem jacquardlaw16_jacquardref6Digit_eq (C : CallF) (L : LoopF) (G : Glo) (a0 : Int) (h0 : AHeap) :
    jacquardlaw16_jacquardref6Digit.body C L G [(.c (.int .i64 a0))] h0 =
    sliceStrK true true (.str (ByteArray.mk #[48, 49, 50, 51])) [.v (.c (.int .i64 a0)), .v (.c (.int .i64 (G.wrap .i64 (a0 + 1))))] fun x_1 => some ([(.c (.str x_1))], h0) := by kernel_rfl

/- jacquard/jacquardlaw16.awake: 170 -/
set_option maxRecDepth 100000 in
theorem jacquardlaw16_awake_eq (C : CallF) (L : LoopF) (G : Glo)  (h0 : AHeap) :
    jacquardlaw16_awake.body C L G [] h0 =
    c1 (C 187 [] h0) fun y_2 h_1 => asA y_2 fun l_3 => c2 (C 171 [(.agg l_3), (.c (.int .i64 2))] h_1) fun y_5 y_6 h_4 => asC y_5 fun x_7 => asI .i64 y_6 fun n_8 => eqNilK false x_7 .nilp fun b_9 => scK b_9 false (some ((n_8 != 0), h_4)) true h_4 fun b_10 h_11 => if b_10 = true then some ([(.c (.bool false))], h_11) else c2 (C 173 [(.c x_7), (.c (.int .i64 0))] h_11) fun y_13 y_14 h_12 => asA y_13 fun l_15 => asB y_14 fun b_16 => if 0 = 0 ∧ (List.replicate 7 (Cell.int .i64 0)).length = 7 ∧ l_15.length = 7 then c2 (C 173 [(.c x_7), (.c (.int .i64 5))] h_12) fun y_18 y_19 h_17 => asA y_18 fun l_20 => asB y_19 fun b_21 => if 0 = 0 ∧ (List.replicate 7 (Cell.int .i64 0)).length = 7 ∧ l_20.length = 7 then scK b_16 true (atK l_15 2 fun q_22 => asI .i64 (.c q_22) fun n_23 => some ((n_23 == 2), h_17)) false h_17 fun b_24 h_25 => scK b_24 true (atK l_15 6 fun q_26 => asI .i64 (.c q_26) fun n_27 => some ((n_27 == (-1)), h_25)) false h_25 fun b_28 h_29 => scK b_28 true (some ((!b_21), h_29)) false h_29 fun b_30 h_31 => scK b_30 true (c1 (C 172 [(.c x_7)] h_31) fun y_33 h_32 => asI .u64 y_33 fun n_34 => some ((n_34 == 19), h_32)) false h_31 fun b_35 h_36 => scK b_35 true (c1 (C 167 [(.c (.int .i64 13))] h_36) fun y_38 h_37 => asS y_38 fun z_39 => some ((ByteArray.toList z_39 == ByteArray.toList (ByteArray.mk #[102, 49, 46, 49])), h_37)) false h_36 fun b_40 h_41 => some ([(.c (.bool b_40))], h_41) else none else none := by kernel_rfl

/- jacquard/jacquardlaw16.VmNames: 215 -/
set_option maxRecDepth 100000 in
theorem jacquardlaw16_VmNames_eq (C : CallF) (L : LoopF) (G : Glo) (a0 : Int) (a1 : Int) (h0 : AHeap) :
    jacquardlaw16_VmNames.body C L G [(.c (.int .i64 a0)), (.c (.int .i64 a1))] h0 =
    c1 (C 167 [(.c (.int .i64 a0))] h0) fun y_2 h_1 => asS y_2 fun z_3 => c1 (C 167 [(.c (.int .i64 a1))] h_1) fun y_5 h_4 => asS y_5 fun z_6 => scK (decide (a0 ≥ 0)) true (some ((decide (a0 < 24)), h_4)) false h_4 fun b_7 h_8 => c1 (C 168 [(.c (.int .i64 a0))] h_8) fun y_10 h_9 => asS y_10 fun z_11 => scK (ByteArray.toList z_3 == ByteArray.toList z_11) true (some (((!(ByteArray.toList z_3 == ByteArray.toList (ByteArray.mk #[]))) == b_7), h_9)) false h_9 fun b_12 h_13 => scK b_12 true (scK (!b_7) false (some (((ByteArray.toList z_3 == ByteArray.toList z_6) == (a0 == a1)), h_13)) true h_13 fun b_14 h_15 => some (b_14, h_15)) false h_13 fun b_16 h_17 => scK b_16 true (c1 (C 167 [(.c (.int .i64 (G.band .i64 a0 3)))] h_17) fun y_19 h_18 => asS y_19 fun z_20 => c1 (C 169 [(.c (.int .i64 (G.band .i64 a0 3)))] h_18) fun y_22 h_21 => asS y_22 fun z_23 => if ByteArray.size (ByteArray.mk #[116]) + ByteArray.size z_23 ≤ 1099511627776 then some ((ByteArray.toList z_20 == ByteArray.toList ((ByteArray.mk #[116]) ++ z_23)), h_21) else none) false h_17 fun b_24 h_25 => scK b_24 true (c1 (C 170 [] h_25) fun y_27 h_26 => asB y_27 fun b_28 => some (b_28, h_26)) false h_25 fun b_29 h_30 => some ([(.c (.bool b_29))], h_30) := by kernel_rfl


end Jq

/- Machines: names, and what the document fixes. -/
namespace Jq
open Go

section
variable {E : Env}

def sbC (a b : Int) : List Ins := [⟨1, 0, a, ⟨-1, 1⟩, 0, ⟨0, 0⟩, 0⟩, ⟨2, 0, b, ⟨0, 0⟩, 0, ⟨0, 0⟩, 0⟩]
/-- Two threads, each stores and loads. -/
def sbP : PProg := ⟨[120, 121], [0, 0], [sbC 0 1, sbC 1 0]⟩

theorem SB_R (hE : jacquardlaw12_SB_In E) (h : AHeap) : ∃ cs h', R E 187 [] h = some ([.agg cs], h') ∧ ProgAt h' cs sbP ∧ Kp h.length h h' := by
  have hmark : ∀ {α : Type} (f : Cell → AHeap → Option α), markK (.sl h.length ((splice (splice [Cell.int .u8 0, Cell.int .u8 0] 0 ([(.int .u8 120)] : List Cell)) 1 ([(.int .u8 121)] : List Cell)).length) 0 2) (h ++ [some (Blk.mk true 1 (splice (splice [Cell.int .u8 0, Cell.int .u8 0] 0 ([(.int .u8 120)] : List Cell)) 1 ([(.int .u8 121)] : List Cell)))]) f = f (.sl h.length 2 0 2) (h ++ [some ⟨false, 1, intC .u8 [120, 121]⟩]) := by
    intro α f
    unfold markK
    simp only
    rw [blk_new, Option.bind_some]
    dsimp only
    rw [if_pos ⟨rfl, rfl⟩, setBlk_last]; rfl
  generalize h1 : h ++ [some (Blk.mk false 1 (intC .u8 [120, 121]))] = H1 at hmark
  generalize h2 : H1 ++ [some (Blk.mk true 1 (intC .i64 [0, 0]))] = H2
  generalize h3 : H2 ++ [some (Blk.mk true 9 (codeC (sbC 0 1)))] = H3
  generalize h4 : H3 ++ [some (Blk.mk true 9 (codeC (sbC 1 0)))] = H4
  generalize h5 : H4 ++ [some (Blk.mk true 1 [Cell.sl H2.length 18 0 2, .sl H3.length 18 0 2])] = H5
  have n1 : H1.length = h.length + 1 := by rw [← h1]; simp
  have n2 : H2.length = h.length + 2 := by rw [← h2, List.length_append, n1]; simp
  have n3 : H3.length = h.length + 3 := by rw [← h3, List.length_append, n2]; simp
  have n4 : H4.length = h.length + 4 := by rw [← h4, List.length_append, n3]; simp
  have n5 : H5.length = h.length + 5 := by rw [← h5, List.length_append, n4]; simp
  have b1 : blk? H5 h.length = some ⟨false, 1, intC .u8 [120, 121]⟩ := by
    rw [← h5, ← h4, ← h3, ← h2, ← h1]
    exact blk_old (blk_old (blk_old (blk_old (blk_new _ _) _) _) _) _
  have b2 : blk? H5 H1.length = some ⟨true, 1, intC .i64 [0, 0]⟩ := by
    rw [← h5, ← h4, ← h3, ← h2]
    exact blk_old (blk_old (blk_old (blk_new _ _) _) _) _
  have b3 : blk? H5 H2.length = some ⟨true, 9, codeC (sbC 0 1)⟩ := by
    rw [← h5, ← h4, ← h3]
    exact blk_old (blk_old (blk_new _ _) _) _
  have b4 : blk? H5 H3.length = some ⟨true, 9, codeC (sbC 1 0)⟩ := by
    rw [← h5, ← h4]
    exact blk_old (blk_new _ _) _
  have b5 : blk? H5 H4.length = some ⟨true, 1, [Cell.sl H2.length 18 0 2, .sl H3.length 18 0 2]⟩ := by
    rw [← h5]
    exact blk_new _ _
  have kk : Kp h.length h H5 := by
    rw [← h5, ← h4, ← h3, ← h2, ← h1]
    simp only [List.append_assoc]
    exact Kp.app _ (Nat.le_refl _)
  refine ⟨[.sl h.length 2 0 2, .sl H1.length 2 0 2, .sl H4.length 2 0 2], H5, R_intro hE.fn ?_, ⟨_, _, _, [Cell.sl H2.length 18 0 2, .sl H3.length 18 0 2], rfl, ⟨SlAt.whole b1 rfl, .inr (by omega)⟩, ⟨SlAt.whole b2 rfl, .inr (by omega)⟩, ⟨SlAt.whole b5 rfl, .inr (by omega)⟩, fun t code ht => ?_⟩, kk⟩
  · rw [jacquardlaw12_SB_eq, if_pos ⟨rfl, rfl, rfl⟩, if_pos (by rfl), hmark]
    rw [← h5, ← h4, ← h3, ← h2]
    kernel_rfl
  · match t with
    | 0 => cases ht; exact ⟨_, rfl, SlAt.whole b3 rfl, .inr (by omega)⟩
    | 1 => cases ht; exact ⟨_, rfl, SlAt.whole b4 rfl, .inr (by omega)⟩
    | t + 2 => simp [sbP] at ht

/-- A digit. -/
theorem small_R (hE : istrconv_small_In E) (h : AHeap) : ∀ n : Nat, n < 4 → R E 48 [.c (.int .i64 (n : Int))] h = some ([.c (.str (ByteArray.mk #[UInt8.ofNat (48 + n)]))], h)
  | 0, _ => R_intro hE.fn ((istrconv_small_eq (R E) Lim E.glob 0 h).trans (by kernel_rfl))
  | 1, _ => R_intro hE.fn ((istrconv_small_eq (R E) Lim E.glob 1 h).trans (by kernel_rfl))
  | 2, _ => R_intro hE.fn ((istrconv_small_eq (R E) Lim E.glob 2 h).trans (by kernel_rfl))
  | 3, _ => R_intro hE.fn ((istrconv_small_eq (R E) Lim E.glob 3 h).trans (by kernel_rfl))
  | n + 4, h => by omega

theorem Itoa_R (hE : strconv_Itoa_In E) (h : AHeap) {n : Nat} (hn : n < 4) : R E 45 [.c (.int .i64 (n : Int))] h = some ([.c (.str (ByteArray.mk #[UInt8.ofNat (48 + n)]))], h) :=
  Itoa_of hE (by omega) (small_R hE.c46.c47.c48 h n hn)

/-- A pick's name. -/
def nameOf (i : Int) : ByteArray :=
  if i < 0 ∨ i ≥ 24 then ByteArray.mk #[]
  else if i < 4 then ByteArray.mk #[116] ++ ByteArray.mk #[UInt8.ofNat (48 + i.toNat)]
  else if i < 8 then ByteArray.mk #[102] ++ ByteArray.mk #[UInt8.ofNat (48 + (i.toNat - 4))]
  else ((ByteArray.mk #[102] ++ ByteArray.mk #[UInt8.ofNat (48 + (i.toNat - 8) / 4)]) ++ ByteArray.mk #[46]) ++ ByteArray.mk #[UInt8.ofNat (48 + (i.toNat - 8) % 4)]

theorem one_size (n : Nat) : (ByteArray.mk #[UInt8.ofNat n]).size = 1 := rfl

theorem VName_R (hE : vm_Name_In E) (i : Int) (h : AHeap) : R E 167 [.c (.int .i64 i)] h = some ([.c (.str (nameOf i))], h) := by
  refine R_intro hE.fn ?_
  rw [vm_Name_eq, scK_or]
  unfold nameOf
  by_cases h0 : i < 0 ∨ i ≥ 24
  · rw [if_pos (by simp; omega), if_pos h0]
  · rw [if_neg (by simp; omega), if_neg h0]
    obtain ⟨n, rfl⟩ := Int.eq_ofNat_of_zero_le (show 0 ≤ i by omega)
    rw [Int.toNat_natCast]
    by_cases h4 : n < 4
    · rw [if_pos (by simp; omega), if_pos (by omega), Itoa_R hE.c45 _ h4, c1_ok, asS_ok, if_pos (by rw [one_size]; decide)]
    · rw [if_neg (by simp; omega), if_neg (c := ((n : Int) < 4)) (by omega)]
      by_cases h8 : n < 8
      · rw [if_pos (by simp; omega), if_pos (c := ((n : Int) < 8)) (by omega), g_wrap_i64 (by omega) (by omega), show ((n : Int) - 4) = ((n - 4 : Nat) : Int) by omega, Itoa_R hE.c45 _ (by omega), c1_ok, asS_ok, if_pos (by rw [one_size]; decide)]
      · rw [if_neg (by simp; omega), if_neg (c := ((n : Int) < 8)) (by omega), g_wrap_i64 (by omega) (by omega), show ((n : Int) - 8) = ((n - 8 : Nat) : Int) by omega, g_quo, g_rem, Int.tdiv_eq_ediv_of_nonneg (by omega), Int.tmod_eq_emod_of_nonneg (by omega),
          show (((n - 8 : Nat) : Int) / 4) = (((n - 8) / 4 : Nat) : Int) by omega, show (((n - 8 : Nat) : Int) % 4) = (((n - 8) % 4 : Nat) : Int) by omega, wrap_i64 (by omega) (by omega), Itoa_R hE.c45 _ (by omega), c1_ok, asS_ok,
          if_pos (by rw [one_size]; decide), if_pos (by rw [ByteArray.size_append, one_size]; decide), Itoa_R hE.c45 _ (by omega), c1_ok, asS_ok, if_pos (by rw [ByteArray.size_append, ByteArray.size_append, one_size, one_size]; decide)]

theorem sb_small : sbP.small := ⟨by decide, fun c hc => by
  simp [sbP] at hc
  rcases hc with rfl | rfl <;> decide⟩

def sbV : MV := MV.new sbP 2
theorem sb_may0 : sbV.may 0 = true := by decide +kernel
theorem sb_kind : (sbV.stp 0).kind = 2 ∧ (sbV.stp 0).frm = -1 := by decide +kernel
theorem sb_may5 : hasI (sbV.nx 0).word 5 = false := by decide +kernel
theorem sb_word : (sbV.nx 0).word = 19 := by decide +kernel
theorem sb_name : (ByteArray.toList (nameOf 13) == ByteArray.toList (ByteArray.mk #[102, 49, 46, 49])) = true := by kernel_rfl
theorem sb_pok : pokB sbP = true := by decide +kernel

theorem sb_fld : ∀ c ∈ sbP.thr, ∀ i ∈ c, fldB (hasB sbP) i = true := by decide +kernel

theorem sb_inv : sbV.Inv := MV.new_inv (by omega) sb_small sb_fld (by decide) (by decide) (fun c hc => by
  simp [sbP] at hc
  rcases hc with rfl | rfl <;> decide)

theorem awake16_R (hE : jacquardlaw16_awake_In E) (h : AHeap) : ∃ h', R E 170 [] h = some ([.c (.bool true)], h') ∧ Kp h.length h h' := by
  obtain ⟨cs, h1, r1, p1, k1⟩ := SB_R hE.c187 h
  obtain ⟨n, k, pc, h2, r2, a2, n2, k2⟩ := VNew_R hE.c171 p1 sb_small (by decide) (by decide) (by decide) (m := 2) (by omega) sb_pok
  obtain ⟨x3, h3, r3, a3, k3⟩ := Pick_R hE.c173 a2 sb_inv (by show 0 < 100000; omega) (i := 0) sb_may0
  have v3 := sb_inv.nx sb_may0
  have r4 := Pick_no hE.c173 a3 v3 sb_may5
  have r5 := Enabled_R hE.c172 a3.blk v3.fit (prog_at a3.prog a3.hn (Kp.refl n h3))
  refine ⟨h3, R_intro hE.fn ?_, (k1.trans (k2.mono k1.1)).trans (k3.kp.mono (Nat.le_trans k1.1 n2))⟩
  have e0 : ∀ {α : Type} (f : Bool → Option α), eqNilK false (.ptr k 329 0) .nilp f = f false := fun _ => rfl
  have f1 : ((MV.new sbP 2).stp 0).kind = 2 := sb_kind.1
  have f2 : ((MV.new sbP 2).stp 0).frm = -1 := sb_kind.2
  have f3 : ((MV.new sbP 2).nx 0).word = 19 := sb_word
  rw [jacquardlaw16_awake_eq, r1, c1_ok, asA_ok, r2, c2_ok, asC_ok, asI_ok, e0, scK_or, show (false || ((0 : Int) != 0)) = false from rfl, if_neg (by simp), show (0 : Int) = ((0 : Nat) : Int) from rfl, r3, c2_ok, asA_ok, asB_ok, if_pos (by exact ⟨rfl, rfl, rfl⟩),
    r4, c2_ok, asA_ok, asB_ok, if_pos (by exact ⟨rfl, rfl, rfl⟩), scK_ok, stp_kind, asI_ok, f1, bind_ok]
  dsimp only
  rw [show ((2 : Int) == 2) = true from rfl, scK_ok, stp_frm, asI_ok, f2, bind_ok]
  dsimp only
  rw [show ((-1 : Int) == -1) = true from rfl, scK_and, show (true && !false) = true from rfl, scK_ok, r5, c1_ok, asI_ok, f3, bind_ok]
  dsimp only
  rw [show ((((19 : Nat) : Int)) == 19) = true from rfl, scK_ok, VName_R hE.c167, c1_ok, asS_ok, sb_name, bind_ok]
theorem dig_ext : ∀ n : Nat, n < 4 → (ByteArray.mk #[48, 49, 50, 51, 52, 53, 54, 55, 56, 57]).extract n (n + 1) = ByteArray.mk #[UInt8.ofNat (48 + n)] ∧ (ByteArray.mk #[48, 49, 50, 51]).extract n (n + 1) = ByteArray.mk #[UInt8.ofNat (48 + n)] := by decide +kernel

theorem dig_R {α : Type} {n : Nat} (hn : n < 4) {f : ByteArray → Option α} : sliceStrK true true (.str (ByteArray.mk #[48, 49, 50, 51, 52, 53, 54, 55, 56, 57])) [.v (.c (.int .i64 (n : Int))), .v (.c (.int .i64 ((n : Int) + 1)))] f = f (ByteArray.mk #[UInt8.ofNat (48 + n)]) := by
  unfold sliceStrK boundsK
  dsimp only
  rw [show (ByteArray.mk #[48, 49, 50, 51, 52, 53, 54, 55, 56, 57]).size = 10 from rfl, if_pos ⟨by omega, by omega, by omega⟩, Int.toNat_natCast, show ((n : Int) + 1).toNat = n + 1 by omega, (dig_ext n hn).1]

theorem refName_R (hE : jacquardref16_Name_In E) (i : Int) (h : AHeap) : R E 168 [.c (.int .i64 i)] h = some ([.c (.str (nameOf i))], h) := by
  refine R_intro hE.fn ?_
  rw [jacquardref16_Name_eq, scK_and]
  unfold nameOf
  by_cases h0 : i < 0 ∨ i ≥ 24
  · rw [if_neg (by simp; omega), scK_and, if_neg (by simp; omega), scK_and, if_neg (by simp; omega), if_pos h0]
  · obtain ⟨n, rfl⟩ := Int.eq_ofNat_of_zero_le (show 0 ≤ i by omega)
    rw [Int.toNat_natCast]
    by_cases h4 : n < 4
    · rw [if_pos (by simp; omega), if_neg h0, if_pos (by omega), g_wrap_i64 (by omega) (by omega), dig_R h4, if_pos (by rw [one_size]; decide)]
    · rw [if_neg (by simp; omega), scK_and]
      by_cases h8 : n < 8
      · rw [if_pos (by simp; omega), if_neg h0, if_neg (by omega), if_pos (by omega), g_wrap_i64 (x := (n : Int) - 4) (by omega) (by omega), g_wrap_i64 (x := (n : Int) - 3) (by omega) (by omega), show ((n : Int) - 4) = ((n - 4 : Nat) : Int) by omega, show ((n : Int) - 3) = ((n - 4 : Nat) : Int) + 1 by omega, dig_R (by omega), if_pos (by rw [one_size]; decide)]
      · rw [if_neg (by simp; omega), scK_and, if_pos (by simp; omega), if_neg h0, if_neg (by omega), if_neg (by omega)]
        dsimp only
        rw [g_wrap_i64 (x := (n : Int) - 8) (by omega) (by omega), show ((n : Int) - 8) = ((n - 8 : Nat) : Int) by omega, g_quo, g_rem, Int.tdiv_eq_ediv_of_nonneg (by omega), Int.tmod_eq_emod_of_nonneg (by omega),
          show (((n - 8 : Nat) : Int) / 4) = (((n - 8) / 4 : Nat) : Int) by omega, show (((n - 8 : Nat) : Int) % 4) = (((n - 8) % 4 : Nat) : Int) by omega, wrap_i64 (by omega) (by omega), g_wrap_i64 (by omega) (by omega), dig_R (by omega),
          if_pos (by rw [one_size]; decide), if_pos (by rw [ByteArray.size_append, one_size]; decide), g_wrap_i64 (by omega) (by omega), dig_R (by omega), if_pos (by rw [ByteArray.size_append, ByteArray.size_append, one_size, one_size]; decide)]

theorem name_all : ∀ i : Nat, i < 24 → ∀ k : Nat, k < 24 → (ByteArray.toList (nameOf (i : Int)) == ByteArray.toList (nameOf (k : Int))) = (i == k) := by decide +kernel
theorem name_some : ∀ i : Nat, i < 24 → (ByteArray.toList (nameOf (i : Int)) == ByteArray.toList (ByteArray.mk #[])) = false := by decide +kernel
theorem name_none {i : Int} (h : ¬ (0 ≤ i ∧ i < 24)) : nameOf i = ByteArray.mk #[] := by unfold nameOf; rw [if_pos (by omega)]

theorem VmNames_law (hE : jacquardlaw16_VmNames_In E) {h : AHeap} {c0 c1' : List Cell} (o0 : okC h (.i .i64) c0) (o1 : okC h (.i .i64) c1') :
    ∃ h', R E 215 [av1 (.i .i64) c0, av1 (.i .i64) c1'] h = some ([.c (.bool true)], h') := by
  obtain ⟨a0, ha0, _⟩ := arg_int o0
  obtain ⟨a1, ha1, _⟩ := arg_int o1
  obtain ⟨h', r9, k9⟩ := awake16_R hE.c170 h
  refine ⟨h', R_intro hE.fn ?_⟩
  have hd : 0 ≤ E.glob.band .i64 a0 3 ∧ E.glob.band .i64 a0 3 < 4 := band3_rng
  obtain ⟨d, hde⟩ := Int.eq_ofNat_of_zero_le hd.1
  have hd4 : d < 4 := by omega
  have hnd : nameOf (d : Int) = ByteArray.mk #[116] ++ ByteArray.mk #[UInt8.ofNat (48 + d)] := by
    unfold nameOf
    rw [if_neg (by omega), if_pos (by omega), Int.toNat_natCast]
  have dg : R E 169 [.c (.int .i64 (d : Int))] h = some ([.c (.str (ByteArray.mk #[UInt8.ofNat (48 + d)]))], h) := by
    refine R_intro hE.c169.fn ?_
    rw [jacquardlaw16_jacquardref6Digit_eq, g_wrap_i64 (by omega) (by omega)]
    unfold sliceStrK boundsK
    dsimp only
    rw [show (ByteArray.mk #[48, 49, 50, 51]).size = 4 from rfl, if_pos ⟨by omega, by omega, by omega⟩, Int.toNat_natCast, show ((d : Int) + 1).toNat = d + 1 by omega, (dig_ext d hd4).2]
  rw [ha0, ha1, jacquardlaw16_VmNames_eq, VName_R hE.c167, c1_ok, asS_ok, VName_R hE.c167, c1_ok, asS_ok, scK_and, refName_R hE.c168, c1_ok, asS_ok, beq_self_eq_true, scK_ok, bind_ok]
  dsimp only
  by_cases hin : 0 ≤ a0 ∧ a0 < 24
  · obtain ⟨i, rfl⟩ := Int.eq_ofNat_of_zero_le hin.1
    have key : (ByteArray.toList (nameOf (i : Int)) == ByteArray.toList (nameOf a1)) = ((i : Int) == a1) := by
      by_cases hk : 0 ≤ a1 ∧ a1 < 24
      · obtain ⟨k, rfl⟩ := Int.eq_ofNat_of_zero_le hk.1
        rw [name_all i (by omega) k (by omega), Bool.eq_iff_iff, beq_iff_eq, beq_iff_eq]; omega
      · rw [name_none hk, name_some i (by omega), beq_false_of_ne (by omega)]
    rw [name_some i (by omega), show (decide ((i : Int) ≥ 0) && decide ((i : Int) < 24)) = true by simp; omega, show (!false) = true from rfl, beq_self_eq_true, scK_ok, scK_or, key, beq_self_eq_true, Bool.or_true, bind_ok]
    dsimp only
    rw [scK_ok, hde, VName_R hE.c167, c1_ok, asS_ok, dg, c1_ok, asS_ok, if_pos (by rw [one_size]; decide), ← hnd, beq_self_eq_true, bind_ok]
    dsimp only
    rw [scK_ok, r9, c1_ok, asB_ok, bind_ok]

  · rw [name_none hin, show (decide (a0 ≥ 0) && decide (a0 < 24)) = false by simp; omega, beq_self_eq_true, show (!true) = false from rfl, beq_self_eq_true, scK_ok, show (!false) = true from rfl, scK_tf, bind_ok]
    dsimp only
    rw [scK_ok, hde, VName_R hE.c167, c1_ok, asS_ok, dg, c1_ok, asS_ok, if_pos (by rw [one_size]; decide), ← hnd, beq_self_eq_true, bind_ok]
    dsimp only
    rw [scK_ok, r9, c1_ok, asB_ok, bind_ok]

end
end Jq

/- VmNames: whatever the input the call says true, and each argument reads behind it as before. No conditions. -/
namespace Go.Proofs.YtnjjcoobhpldcaaDoor.LVmNames
open Go Jq Go.ChangeShapes Go.WideShapes Go.ChangeAt Go.RowKit
set_option linter.unusedVariables false

theorem own : ownKnob Tryd.prog.godebug = none := by kernel_rfl
theorem laidOut : laidOutB Tryd.prog = true := by kernel_rfl

theorem met (os : Os) (args : Array Value) : laidMetH Tryd.prog Rows.vmNamesRow.laid ((World.doorLaid Tryd.prog 400 os).forCall (fun _ _ => 0) ⟨#[], args, []⟩).memory :=
  laidMetH_of_parts3 (fuel := 8) (laidMet_of_run' 8 (by kernel_rfl) (by kernel_rfl)) (by kernel_rfl) (by kernel_rfl)
set_option maxRecDepth 100000 in
theorem lifted (os : Os) (started : os.Started) (H : Type) (enc : TypeId × Value → H) :
    ReturnsInHanded {} Tryd.checked os 3 .any (fun w args => (Rows.vmNamesSpec.pre enc Tryd.prog Tryd.f3 [] false w args ∧ laidMetH Tryd.prog Rows.vmNamesRow.laid w) ∧ sizedMet enc Tryd.prog Tryd.f3 (OpenSpec.ofChange Rows.vmNamesSpec) false w args) (Rows.vmNamesSpec.post enc Tryd.prog Tryd.f3 false true false false) := by
  refine returnsInHanded_of_change_and (C := Tryd.checked) (X := fun w _ => laidMetH Tryd.prog Rows.vmNamesRow.laid w) (fun _ _ _ hh h => h.of_heap hh) own started (by kernel_rfl) Tryd.func3
    (ChangeSpec.witness_shaped (enc := enc) (C := Tryd.checked) (os := os) (X := fun w _ => laidMetH Tryd.prog Rows.vmNamesRow.laid w) false (World.doorLaid Tryd.prog 400 os) #[.int .i64 0, .int .i64 0] 8 rfl (World.shaped_of_RefB (by kernel_rfl) (by kernel_rfl)) (by kernel_rfl) (by kernel_rfl) (by kernel_rfl) (met os _)) ?_
  intro W base args ds gs before hval0 hW _ _ hL _
  have hval : ∀ (j : Nat) t v, Tryd.f3.params[j]? = some t → args[j]? = some v → Value.okWide Tryd.prog W .any base t v := hval0
  have hW' := hW
  obtain ⟨p, q, hA0, hV, rfl, hfz, hnd⟩ := hW
  have hA : DataW.TrodAll enc Tryd.prog W 0 (fun _ => true) true Tryd.f3.params.toList args.toList ds p := hA0
  rw [Tryd.params3] at hA hval
  obtain ⟨v0, vs0, d0, ds0, p0, q0, hargs, rfl, rfl, h0, r0⟩ := trodAll_cons hA
  obtain ⟨v1, vs1, d1, ds1, p1, q1, rfl, rfl, rfl, h1, r1⟩ := trodAll_cons r0
  obtain ⟨rfl, rfl, rfl⟩ := trodAll_nil r1
  obtain rfl : args = #[v0, v1] := by cases args; simp_all
  obtain ⟨rfl, rfl⟩ := trodVars_none hV
  have lt0 : ∀ x ∈ p0, x.block < W.heap.size := by obtain ⟨m, hm⟩ := h0; exact DataW.trod_lt m _ _ _ hm
  have lt1 : ∀ x ∈ p1, x.block < W.heap.size := by obtain ⟨m, hm⟩ := h1; exact DataW.trod_lt m _ _ _ hm
  have c := Come.nil (S := seat) (W := W) (fun _ => rfl)
  have k0 : ((.i .i64) : Sh).chk seat.P 3 = true := by kernel_rfl
  obtain ⟨b0, ρ0, cs0, c0, e0, x0, a0, o0⟩ := opens_arg (S := seat) (W := W) (sh := (.i .i64)) k0 h0 (wide_of k0 (hval 0 3 v0 rfl rfl)) ⟨nofun, nofun⟩ c
  have k1 : ((.i .i64) : Sh).chk seat.P 3 = true := by kernel_rfl
  obtain ⟨b1, ρ1, cs1, c1, e1, x1, a1, o1⟩ := opens_arg (S := seat) (W := W) (sh := (.i .i64)) k1 h1 (wide_of k1 (hval 1 3 v1 rfl rfl)) ⟨nofun, nofun⟩ c0
  obtain ⟨h', hR⟩ := VmNames_law (E := env) in_215 (okC_mono x1 _ _ o0) o1
  refine (law_call (S := seat) (R_sound (S := seat) (E := env) rfl allOk) c1 (vals := #[v0, v1]) (L2.cons (relA.mono e1 a0) (L2.cons a1 L2.nil)) hR).mono fun e W' ⟨he, bel⟩ => ?_
  subst he
  exact ⟨_, rfl, _, _, _, [], _, [], hW', trodAll_mk1 (shut_bool Tryd.underlying4 _), (trodAll_cons_mk (Below.trod laidOut (by kernel_rfl) (of_decide_eq_true (by kernel_rfl)) h0 bel lt0) (trodAll_cons_mk (Below.trod laidOut (by kernel_rfl) (of_decide_eq_true (by kernel_rfl)) h1 bel lt1) trodAll_mk0)), rfl, bel.frame _, fun h => by cases h⟩

theorem over : Rows.vmNamesRow.holds Tryd.pinned (OpenSpec.ofChange Rows.vmNamesSpec) :=
  OpenClaim.holds_of_wide 3 Tryd.f3 rfl rfl rfl rfl rfl rfl rfl ⟨rfl, rfl, rfl, rfl, rfl⟩ rfl rfl rfl rfl rfl (by kernel_rfl) Tryd.func3 (by kernel_rfl)
    (of_decide_eq_true (by kernel_rfl)) (by unfold Func.isWrapper; first | (rw [if_pos (by decide +kernel)]; kernel_rfl) | (rw [if_neg (by decide +kernel)]; exact ⟨rfl, rfl⟩))
    (fun os started H enc _ => lifted os started H enc)

theorem proved : Rows.VmNamesCardSaid :=
  Claim7.holds_tied_plain_at .later [] [.data, .data, .data] true (true, "fbcc807f78fdf03f3d1dccb6a06178810c141046c856c49e25ab327e98756d6a") false
    over (fun _ h => by cases h) (by kernel_rfl) (fun _ h => by cases h) vmNames_row_tie rfl ⟨rfl, rfl⟩ (by kernel_rfl) rfl
    (fun f fn hf hfn => by
      obtain rfl : f = 3 := Option.some.inj ((show Tryd.prog.funcNamed "jacquard/jacquardlaw16.VmNames" = some 3 by kernel_rfl).symm.trans hf) |>.symm
      obtain rfl : fn = Tryd.f3 := (Option.some.inj (Tryd.func3.symm.trans hfn)).symm
      exact ⟨by kernel_rfl, fun j t ht => by
        rw [Tryd.params3] at ht
        have hm : t ∈ [3, 3] := by simpa using Array.mem_of_getElem? ht
        have hall : ([3, 3].all fun u => !Tryd.prog.wantsStandIn u) = true := by kernel_rfl
        exact (show Tryd.prog.wantsStandIn t = false by simpa using List.all_eq_true.1 hall t hm)⟩)
    (by kernel_rfl)
#print axioms proved

end Go.Proofs.YtnjjcoobhpldcaaDoor.LVmNames

