/- YtldfafaiappibaaProgSetsC: a part of the proof; no conditions of its own. -/
import Derived.Test.YtldfafaiappibaaRows
import Derived.WalkKit
import Derived.ProofKit
import Derived.OpenShut
import Derived.ShutString
import Derived.ChangeOld
import Derived.Below
import Derived.Carry
import Derived.Test.YtldfafaiappibaaProgSetsB
set_option linter.unusedVariables false
set_option linter.unusedSimpArgs false

/- Registers are what their numbers make of each other. -/
namespace Jq
open Go

def SetOk (i : Ins) : Prop := i.kind = 5 ∧ (0 ≤ i.reg ∧ i.reg < 4) ∧ 0 ≤ i.op ∧ i.op ≤ 11
def regsC (l : Lcl) : List Cell := [.int .i64 l.r0, .int .i64 l.r1, .int .i64 l.r2, .int .i64 l.r3]

theorem regsC_set {l : Lcl} {r v : Int} (h : 0 ≤ r ∧ r < 4) : (regsC l).set (0 + r.toNat * 1) (.int .i64 v) = regsC (l.setR r v) := by
  rcases (show r = 0 ∨ r = 1 ∨ r = 2 ∨ r = 3 by omega) with e | e | e | e <;> subst e <;> rfl

theorem nrm_succ {code : List Ins} : ∀ (k : Nat) (l : Lcl), nrm code (k + 1) l = (stepI code (nrm code k l)).getD (nrm code k l)
  | 0, l => by
    rw [nrm, nrm]
    cases stepI code l with
    | none => rfl
    | some l' => rfl
  | k + 1, l => by
    rw [nrm]
    cases h : stepI code l with
    | none =>
      rw [nrm_stop h]
      simp [h]
    | some l' =>
      have ih := nrm_succ (code := code) k l'
      show nrm code (k + 1) l' = _
      rw [ih]
      have : nrm code (k + 1) l = nrm code k l' := by rw [nrm, h]
      rw [this]

/-- What a row of settings makes, one after another. -/
def setV (i : Ins) (l : Lcl) : Lcl := l.setR i.reg ((doV i.op (opV i.a l) (opV i.b l)).getD (opV i.a l))

theorem stepI_set {code : List Ins} {l : Lcl} {i : Ins} {k : Nat} (hp : l.pc = (k : Int)) (hi : code[k]? = some i) (h5 : i.kind = 5) : stepI code l = some { setV i l with pc := (k : Int) + 1 } := by
  unfold stepI
  rw [if_pos (by omega), hp, Int.toNat_natCast, hi]
  dsimp only
  rw [if_pos h5, Lcl.setR_pc, hp]
  rfl

theorem nrm_pcs {code : List Ins} (hs : ∀ i ∈ code, i.kind = 5) : ∀ k, k ≤ code.length → (nrm code k Lcl.zero).pc = (k : Int)
  | 0, _ => rfl
  | k + 1, h => by
    have ih := nrm_pcs hs k (by omega)
    have hq : code[k]? = some code[k] := List.getElem?_eq_getElem (by omega)
    rw [nrm_succ, stepI_set ih hq (hs _ (List.mem_of_getElem? hq))]
    show (k : Int) + 1 = _
    omega

theorem nrm_regs {code : List Ins} (hs : ∀ i ∈ code, i.kind = 5) {k : Nat} {i : Ins} (hi : code[k]? = some i) : regsC (nrm code (k + 1) Lcl.zero) = regsC (setV i (nrm code k Lcl.zero)) := by
  rw [nrm_succ, stepI_set (nrm_pcs hs k (Nat.le_of_lt (getI_lt hi))) hi (hs _ (List.mem_of_getElem? hi))]
  rfl

theorem sub2 {l : List Ins} {i : Nat} {q : Ins} (h : l[i]? = some q) {j : Nat} (hj : j + 2 ≤ 9) : ((codeC l).drop (i * 9 + j)).take 2 = (q.cs.drop j).take 2 := by
  rw [← codeC_at l i q h, List.drop_take, List.take_take, List.drop_drop]
  congr 1
  omega

theorem splice_app (a b xs : List Cell) (j : Nat) : splice (a ++ b) (a.length + j) xs = a ++ splice b j xs := by
  unfold splice
  rw [List.take_append, List.drop_append, List.take_of_length_le (by omega), List.drop_of_length_le (l := a) (by omega)]
  simp only [List.nil_append, List.append_assoc, show a.length + j - a.length = j by omega, show a.length + j + xs.length - a.length = j + xs.length by omega]

section
variable {E : Env}

theorem Own.rdG {n : Nat} {h : AHeap} {x : Cell} {esz len : Nat} {cs : List Cell} (o : Own n h x esz cs len) {i : Nat} (hi : i < len) :
    ∃ k, n ≤ k ∧ x = .sl k cs.length 0 len ∧ blk? h k = some ⟨true, esz, cs⟩ ∧ ∀ {α : Type} (G : Nat → Nat → List Cell → Option α), (idxSK esz x (i : Int) fun k N o => rdH h k N fun l => G k o l) = G k (i * esz) cs := by
  rcases o.2 with ⟨_, h0⟩ | ⟨k, rfl, hk, hb⟩
  · omega
  · refine ⟨k, hk, rfl, hb, fun G => ?_⟩
    unfold idxSK
    simp only
    rw [if_pos ⟨by omega, by omega⟩, rdH_ok hb rfl]
    dsimp only
    rw [Int.toNat_natCast, Nat.zero_add]

theorem band3_rng {x : Int} : 0 ≤ E.glob.band .i64 x 3 ∧ E.glob.band .i64 x 3 < 4 := by
  have h : E.glob.band .i64 x 3 = x % 4 := by
    show IntKind.wrap .i64 ((BitVec.ofInt 64 x &&& BitVec.ofInt 64 3).toNat : Nat) = _
    have h1 : (BitVec.ofInt 64 x &&& BitVec.ofInt 64 3).toNat = (BitVec.ofInt 64 x).toNat % 4 := by
      rw [BitVec.toNat_and]
      have : (BitVec.ofInt 64 3).toNat = 2 ^ 2 - 1 := by decide
      rw [this, Nat.and_two_pow_sub_one_eq_mod]
    rw [h1, BitVec.toNat_ofInt]
    have h3 : ((((x % ((2 ^ 64 : Nat) : Int)).toNat % 4 : Nat) : Int)) = x % 4 := by omega
    rw [h3]
    exact wrap_i64 (by omega) (by omega)
  rw [h]; omega

/-- The settings' loop. -/
theorem sets_loop (hE : jacquardlaw6_ProgSets_In E) {n : Nat} {h : AHeap} {x : Cell} {code : List Ins} (ox : Own n h x 9 (codeC code) code.length) (hl : code.length ≤ 100) (hs : ∀ i ∈ code, SetOk i) (s0 : List Cell) :
    Lim (jacquardlaw6_ProgSets_F2 (R E) Lim E.glob) (jacquardlaw6_ProgSets_s2 x ((0 : Nat) : Int) s0 (regsC (nrm code 0 Lcl.zero)) h) = some (.exit 2, jacquardlaw6_ProgSets_x2_3 x s0 (regsC (nrm code code.length Lcl.zero)) h) := by
  have hs5 : ∀ i ∈ code, i.kind = 5 := fun i hi => (hs i hi).1
  refine Lim_count (fun i => jacquardlaw6_ProgSets_s2 x (i : Int) s0 (regsC (nrm code i Lcl.zero)) h) 0 code.length (by omega) (fun i _ hi => ?_) (Lim_exit ?_)
  · have hq : code[i]? = some code[i] := List.getElem?_eq_getElem hi
    generalize code[i] = q at hq
    obtain ⟨q5, qr, qo⟩ := hs q (List.mem_of_getElem? hq)
    obtain ⟨k, k1, k2, k3, k4⟩ := ox.rdG hi
    have hcl := codeC_len code
    have c1' : ∀ {α : Type} (f : Cell → Option α), (idxSK 9 x (i : Int) fun k N o => rdH h k N fun l => atK l (o + 1) f) = f (.int .i64 q.reg) := fun f => ox.at.get hi (by omega) (codeC_cell hq (by omega) rfl)
    have c5' : ∀ {α : Type} (f : Cell → Option α), (idxSK 9 x (i : Int) fun k N o => rdH h k N fun l => atK l (o + 5) f) = f (.int .i64 q.op) := fun f => ox.at.get hi (by omega) (codeC_cell hq (by omega) rfl)
    have hsp : splice [Cell.int .i64 0, Cell.int .i64 0, Cell.int .i64 0, Cell.int .i64 0, Cell.int .i64 0] 1 (regsC (nrm code i Lcl.zero)) = ({ nrm code i Lcl.zero with pc := 0 } : Lcl).cs := rfl
    have ha : ((codeC code).drop (i * 9 + 3)).take 2 = q.a.cs := sub2 hq (by omega)
    have hb : ((codeC code).drop (i * 9 + 6)).take 2 = q.b.cs := sub2 hq (by omega)
    have oa : opV q.a ({ nrm code i Lcl.zero with pc := 0 } : Lcl) = opV q.a (nrm code i Lcl.zero) := rfl
    have ob : opV q.b ({ nrm code i Lcl.zero with pc := 0 } : Lcl) = opV q.b (nrm code i Lcl.zero) := rfl
    have hlr : (regsC (nrm code i Lcl.zero)).length = 4 := rfl
    rw [jacquardlaw6_ProgSets_r2, ox.at.len, if_pos (by simp; omega), if_pos ⟨rfl, rfl⟩, if_pos (by exact ⟨rfl, Nat.le_of_ble_eq_true rfl⟩), if_pos (by exact ⟨rfl, rfl, rfl⟩), k4 (fun k o l => _), if_pos (show i * 9 + 3 + 2 ≤ (codeC code).length by omega), if_pos (by exact ⟨rfl, rfl⟩), hsp, ha, refValue_R hE.c92, qh_ok, c1_ok, asI_ok, oa, c5', asI_ok]
    by_cases ho : q.op > 0
    · have hsome : ∃ z, doV q.op (opV q.a (nrm code i Lcl.zero)) (opV q.b (nrm code i Lcl.zero)) = some z := by
        rcases (show q.op = 1 ∨ q.op = 2 ∨ q.op = 3 ∨ q.op = 4 ∨ q.op = 5 ∨ q.op = 6 ∨ q.op = 7 ∨ q.op = 8 ∨ q.op = 9 ∨ q.op = 10 ∨ q.op = 11 by omega) with e | e | e | e | e | e | e | e | e | e | e <;> rw [e] <;> exact ⟨_, rfl⟩
      obtain ⟨z, hz⟩ := hsome
      have hv : setV q (nrm code i Lcl.zero) = (nrm code i Lcl.zero).setR q.reg z := by unfold setV; rw [hz]; rfl
      rw [if_pos (by simpa using ho), c5', asI_ok, k4 (fun k o l => _), if_pos (show i * 9 + 6 + 2 ≤ (codeC code).length by omega), if_pos (by exact ⟨rfl, rfl⟩), hb, refValue_R hE.c92, qh_ok, c1_ok, asI_ok, ob, refDo_R hE.c93, qh_ok, c2_ok, asI_ok, asB_ok, hz, c1', asI_ok, if_pos ⟨qr.1, by omega⟩, if_pos (by rw [hlr]; omega), regsC_set qr, g_succ (by omega), nrm_regs hs5 hq, hv]
      rfl
    · have h0 : q.op = 0 := by omega
      have hv : setV q (nrm code i Lcl.zero) = (nrm code i Lcl.zero).setR q.reg (opV q.a (nrm code i Lcl.zero)) := by unfold setV; rw [h0]; rfl
      rw [if_neg (by simpa using ho), c1', asI_ok, if_pos ⟨qr.1, by omega⟩, if_pos (by rw [hlr]; omega), regsC_set qr, g_succ (by omega), nrm_regs hs5 hq, hv]
  · rw [jacquardlaw6_ProgSets_r2, ox.at.len, if_neg (by simp)]

/-- A setting made of a number. -/
def mkOp (E : Env) (x : Int) : Int := E.glob.rem .i64 (E.glob.band .i64 (E.glob.shr .i64 x 4) 255) 12
def mkRaw (E : Env) (x : Int) : Ins := ⟨5, E.glob.band .i64 x 3, 0, ⟨E.glob.band .i64 (E.glob.shr .i64 x 2) 3, 0⟩, mkOp E x, ⟨E.glob.band .i64 (E.glob.shr .i64 x 12) 3, 0⟩, 0⟩
def mkI (E : Env) (x : Int) : Ins := if mkOp E x = 0 then { mkRaw E x with b := ⟨-1, 0⟩ } else mkRaw E x

theorem mkI_ok (x : Int) : SetOk (mkI E x) := by
  have h1 := band3_rng (E := E) (x := x)
  have h2 := rem_rng (E := E) (x := E.glob.band .i64 (E.glob.shr .i64 x 4) 255) (by rw [g_band255]; omega) (show (0 : Int) < 12 by omega)
  have h3 : 0 ≤ mkOp E x ∧ mkOp E x < 12 := h2
  unfold mkI
  split
  · exact ⟨rfl, h1, h3.1, (by show mkOp E x ≤ 11; omega)⟩
  · exact ⟨rfl, h1, h3.1, (by show mkOp E x ≤ 11; omega)⟩

def setsBase (a b : Int) : List Ins := [⟨5, 0, 0, ⟨-1, a⟩, 0, ⟨-1, 0⟩, 0⟩, ⟨5, 1, 0, ⟨-1, b⟩, 0, ⟨-1, 0⟩, 0⟩]

theorem sets_make (hE : jacquardlaw6_ProgSets_In E) {h0 h : AHeap} {x y : Cell} {l : List Int} (hx : SlAt h0 x 1 (intC .i64 l) l.length) (hlow : Low h0.length x) (hl : l.length < 9223372036854775808) {a b : Int} (hk : Kp h0.length h0 h) {N : Nat} (hN : h0.length ≤ N) (hNh : N ≤ h.length) (hy : Own N h y 9 (codeC (setsBase a b)) 2) (s0 s1 : List Cell) :
    ∃ x' h' code, Lim (jacquardlaw6_ProgSets_F1 (R E) Lim E.glob) (jacquardlaw6_ProgSets_s1 x y ((0 : Nat) : Int) s0 s1 h) = some (.exit 0, jacquardlaw6_ProgSets_x1_1 x' s0 s1 h') ∧ Own N h' x' 9 (codeC code) code.length ∧ code.length ≤ 10 ∧ (∀ i ∈ code, SetOk i) ∧ Kp N h h' := by
  have key : ∀ (d i : Nat) (y : Cell) (h : AHeap) (code : List Ins), i + d = min l.length 8 → Kp h0.length h0 h → N ≤ h.length → Own N h y 9 (codeC code) code.length → code.length = i + 2 → (∀ i ∈ code, SetOk i) →
      ∃ x' h' code', Lim (jacquardlaw6_ProgSets_F1 (R E) Lim E.glob) (jacquardlaw6_ProgSets_s1 x y (i : Int) s0 s1 h) = some (.exit 0, jacquardlaw6_ProgSets_x1_1 x' s0 s1 h') ∧ Own N h' x' 9 (codeC code') code'.length ∧ code'.length ≤ 10 ∧ (∀ i ∈ code', SetOk i) ∧ Kp N h h' := by
    intro d
    induction d with
    | zero =>
      intro i y h code hi hk _ hy hlen hs
      refine ⟨y, h, code, Lim_exit ?_, hy, by omega, hs, Kp.refl _ _⟩
      have hb : (decide ((i : Int) < (l.length : Int)) && decide ((i : Int) < 8)) = false := by
        rw [Bool.and_eq_false_iff, decide_eq_false_iff_not, decide_eq_false_iff_not]; omega
      rw [jacquardlaw6_ProgSets_r1, (hx.keep hlow hk).len, scK_and, hb, if_neg (by simp)]
    | succ d ih =>
      intro i y h code hi hk hNh hy hlen hs
      have hil : i < l.length ∧ i < 8 := by omega
      have hb : (decide ((i : Int) < (l.length : Int)) && decide ((i : Int) < 8)) = true := by
        rw [Bool.and_eq_true, decide_eq_true_eq, decide_eq_true_eq]; omega
      have hq := getDI hil.1
      generalize l.getD i 0 = v at hq
      have hx1 := hx.keep hlow hk
      have hmb := mb2 (k := i + 1) (by omega)
      obtain ⟨y2, h2, hap, hy2, hk2, _⟩ := hy.app (bytes := 72) (xs := (mkRaw E v).cs) hNh rfl (Nat.succ_pos 8) (by rw [hlen]; exact hmb.1) (by rw [hlen]; exact hmb.2)
      rw [← codeC_snoc] at hy2
      have hl2 : code.length + 1 = (code ++ [mkRaw E v]).length := by simp
      obtain ⟨k, z1, z2, z3, z4⟩ := hy2.rdG (Nat.lt_succ_self code.length)
      have hgo : (code ++ [mkRaw E v])[code.length]? = some (mkRaw E v) := by simp
      have hcl := codeC_len code
      have hcl2 : (codeC (code ++ [mkRaw E v])).length = (code.length + 1) * 9 := by rw [codeC_len, List.length_append, List.length_singleton]
      have hop : ∀ {α : Type} (f : Cell → Option α), (idxSK 9 y2 (code.length : Int) fun k N o => rdH h2 k N fun l => atK l (o + 5) f) = f (.int .i64 (mkOp E v)) := fun f => hy2.at.get (Nat.lt_succ_self _) (by omega) (codeC_cell hgo (by omega) rfl)
      have hw1 : E.glob.wrap .i64 (((code.length + 1 : Nat) : Int) - 1) = (code.length : Int) := by
        rw [g_wrap_i64 (by omega) (by omega)]; omega
      have hstart : jacquardlaw6_ProgSets_F1 (R E) Lim E.glob (jacquardlaw6_ProgSets_s1 x y (i : Int) s0 s1 h) = if (mkOp E v == 0) = true then (idxSK 9 y2 (code.length : Int) fun k_20 N_21 o_22 => rdH h2 k_20 N_21 fun l_23 => if (o_22 + 6) + 2 ≤ l_23.length ∧ (splice [Cell.int .i64 0, Cell.int .i64 0] 0 ([(.int .i64 (-1))] : List Cell)).length = 2 then putH h2 k_20 (splice l_23 (o_22 + 6) (splice [Cell.int .i64 0, Cell.int .i64 0] 0 ([(.int .i64 (-1))] : List Cell))) fun h_24 => some (.normal, (jacquardlaw6_ProgSets_s1 x y2 (E.glob.wrap .i64 ((i : Int) + 1)) s0 s1 h_24)) else none) else some (.normal, jacquardlaw6_ProgSets_s1 x y2 (E.glob.wrap .i64 ((i : Int) + 1)) s0 s1 h2) := by
        rw [jacquardlaw6_ProgSets_r1, hx1.len, scK_and, hb, if_pos rfl, hx1.get1 hil.1 (intC_get hq), asI_ok]
        dsimp only
        rw [if_pos (by exact ⟨rfl, Nat.le_of_ble_eq_true rfl⟩), if_pos (by exact ⟨rfl, Nat.le_of_ble_eq_true rfl⟩), if_pos (by exact ⟨rfl, Nat.le_of_ble_eq_true rfl⟩), if_pos (by exact ⟨rfl, Nat.le_of_ble_eq_true rfl⟩), if_pos (by exact rfl)]
        refine (hap _).trans ?_
        rw [hy2.at.len, hw1, hop, asI_ok]
      by_cases h0 : mkOp E v = 0
      · have hsp : splice (codeC (code ++ [mkRaw E v])) (code.length * 9 + 6) (splice [Cell.int .i64 0, Cell.int .i64 0] 0 ([(.int .i64 (-1))] : List Cell)) = codeC (code ++ [mkI E v]) := by
          rw [codeC_snoc, codeC_snoc, ← hcl, splice_app]
          congr 1
          unfold mkI
          rw [if_pos h0]
          rfl
        have hy3 : Own N (setBlk h2 k (some ⟨true, 9, codeC (code ++ [mkI E v])⟩)) y2 9 (codeC (code ++ [mkI E v])) (code ++ [mkI E v]).length := by
          have e1 : (codeC (code ++ [mkI E v])).length = (code.length + 1) * 9 := by rw [codeC_len, List.length_append, List.length_singleton]
          refine ⟨codeC_len _, .inr ⟨k, ?_, z1, blk_set_self (blk_lt' z3) _⟩⟩
          rw [z2, hcl2, e1, List.length_append, List.length_singleton]
        have hk3 : Kp N h (setBlk h2 k (some ⟨true, 9, codeC (code ++ [mkI E v])⟩)) := hk2.trans (Kp.set z1 _)
        obtain ⟨x', h', code', r1, r2, r3, r4, r5⟩ := ih (i + 1) y2 _ (code ++ [mkI E v]) (by omega) (hk.trans (hk3.mono hN)) (Nat.le_trans hNh hk3.1) hy3 (by rw [List.length_append, List.length_singleton]; omega) (fun j hj => by
          rcases List.mem_append.1 hj with hj | hj
          · exact hs j hj
          · rw [List.mem_singleton] at hj; rw [hj]; exact mkI_ok v)
        refine ⟨x', h', code', Lim_next ?_ r1, r2, r3, r4, hk3.trans r5⟩
        rw [hstart, if_pos (by rw [h0]; rfl), z4 (fun k o l => _), if_pos ⟨by omega, rfl⟩, putH_ok z3 rfl, hsp, g_succ (by omega)]
      · have he : mkI E v = mkRaw E v := by unfold mkI; rw [if_neg h0]
        rw [hl2] at hy2
        obtain ⟨x', h', code', r1, r2, r3, r4, r5⟩ := ih (i + 1) y2 h2 (code ++ [mkRaw E v]) (by omega) (hk.trans (hk2.mono hN)) (Nat.le_trans hNh hk2.1) hy2 (by rw [List.length_append, List.length_singleton]; omega) (fun j hj => by
          rcases List.mem_append.1 hj with hj | hj
          · exact hs j hj
          · rw [List.mem_singleton] at hj; rw [hj, ← he]; exact mkI_ok v)
        refine ⟨x', h', code', Lim_next ?_ r1, r2, r3, r4, hk2.trans r5⟩
        rw [hstart, if_neg (by rw [beq_iff_eq]; exact h0), g_succ (by omega)]
  have := key (min l.length 8) 0 y h (setsBase a b) (by omega) hk hNh hy rfl (fun i hi => by
    rcases List.mem_cons.1 hi with e | hi
    · rw [e]; exact ⟨rfl, ⟨(by show (0 : Int) ≤ 0; omega), (by show (0 : Int) < 4; omega)⟩, (by show (0 : Int) ≤ 0; omega), (by show (0 : Int) ≤ 11; omega)⟩
    · rw [List.mem_singleton] at hi; rw [hi]; exact ⟨rfl, ⟨(by show (0 : Int) ≤ 1; omega), (by show (1 : Int) < 4; omega)⟩, (by show (0 : Int) ≤ 0; omega), (by show (0 : Int) ≤ 11; omega)⟩)
  exact this

theorem ProgSets_law (hE : jacquardlaw6_ProgSets_In E) {h : AHeap} {c0 c1 c2 : List Cell} (o0 : okC h (.sl (.i .i64)) c0) (o1 : okC h (.i .i64) c1) (o2 : okC h (.i .i64) c2) :
    ∃ h', R E 229 [av1 (.sl (.i .i64)) c0, av1 (.i .i64) c1, av1 (.i .i64) c2] h = some ([.c (.bool true)], h') := by
  obtain ⟨x, l, e0, hx, hlow, _, hm⟩ := arg_ints o0
  obtain ⟨a, e1, _⟩ := arg_int o1
  obtain ⟨b, e2, _⟩ := arg_int o2
  rw [e0, e1, e2]
  suffices hh : ∃ h', jacquardlaw6_ProgSets.body (R E) Lim E.glob [.c x, .c (.int .i64 a), .c (.int .i64 b)] h = some ([.c (.bool true)], h') by
    obtain ⟨h', hh⟩ := hh; exact ⟨h', R_intro hE.fn hh⟩
  have n1 : (h ++ [some (Blk.mk true 1 [Cell.nils])]).length = h.length + 1 := by simp
  have b1 : blk? (h ++ [some (Blk.mk true 1 [Cell.nils])]) h.length = some ⟨true, 1, [.nils]⟩ := blk_new _ _
  have k1 : Kp h.length h (h ++ [some (Blk.mk true 1 [Cell.nils])]) := Kp.app _ (Nat.le_refl _)
  have k2 : Kp (h.length + 1) (h ++ [some (Blk.mk true 1 [Cell.nils])]) ((h ++ [some (Blk.mk true 1 [Cell.nils])]) ++ [some (Blk.mk true 9 (codeC (setsBase a b)))]) := Kp.app _ (by omega)
  have ho : Own (h.length + 1) ((h ++ [some (Blk.mk true 1 [Cell.nils])]) ++ [some (Blk.mk true 9 (codeC (setsBase a b)))]) (.sl (h ++ [some (Blk.mk true 1 [Cell.nils])]).length 18 0 2) 9 (codeC (setsBase a b)) 2 :=
    ⟨rfl, .inr ⟨_, rfl, by omega, blk_new _ _⟩⟩
  obtain ⟨x', h', code, r1, r2, r3, r4, r5⟩ := sets_make hE hx hlow (by unfold maxLen at hm; omega) (k1.trans (k2.mono (by omega))) (Nat.le_succ h.length) (by simp) ho [.nils, .nils, .sl h.length 1 0 1] (regsC Lcl.zero)
  have r6 := sets_loop hE r2 (by omega) r4 [.nils, .nils, .sl h.length 1 0 1]
  have bb : blk? h' h.length = some ⟨true, 1, [.nils]⟩ := by rw [(k2.trans r5).blk (by omega)]; exact b1
  have hlt := blk_lt' bb
  have k3 : KpX h.length h'.length h' (setBlk h' h.length (some ⟨true, 1, [x']⟩)) := KpX.set _ _ _ _
  have r2' := r2.keepX (Nat.lt_succ_self _) k3
  have p : ProgAt (setBlk h' h.length (some ⟨true, 1, [x']⟩)) [.nils, .nils, .sl h.length 1 0 1] ⟨[], [], [code]⟩ := by
    refine ⟨_, _, _, [x'], rfl, ⟨⟨rfl, .inl ⟨rfl, rfl⟩⟩, trivial⟩, ⟨⟨rfl, .inl ⟨rfl, rfl⟩⟩, trivial⟩, ⟨SlAt.whole (blk_set_self hlt _) rfl, .inr (by rw [setBlk_len]; exact hlt)⟩, fun t cd ht => ?_⟩
    cases t with
    | zero =>
      cases ht
      exact ⟨x', rfl, r2'.at, r2'.low⟩
    | succ t => simp at ht
  have hfit : PProg.fits ⟨[], [], [code]⟩ := ⟨by show 1 < _; omega, fun c hc => by
    rw [List.mem_singleton] at hc
    rw [hc]; omega⟩
  have hst := PStart_R hE.c94 hfit p 0
  have hsl : startL ⟨[], [], [code]⟩ 0 = nrm code code.length Lcl.zero := rfl
  rw [hsl] at hst
  have hpc := nrm_pcs (fun i hi => (r4 i hi).1) code.length (Nat.le_refl _)
  have kf : Kp h.length h (setBlk h' h.length (some ⟨true, 1, [x']⟩)) := (k1.trans ((k2.trans r5).mono (by omega))).trans (Kp.set (Nat.le_refl _) _)
  refine ⟨h, ?_⟩
  rw [jacquardlaw6_ProgSets_eq, if_pos (by exact rfl), if_pos (by exact ⟨rfl, rfl, rfl⟩), if_pos (by exact ⟨rfl, rfl, rfl⟩), if_pos (by exact ⟨rfl, Nat.le_of_ble_eq_true rfl⟩), if_pos (by exact ⟨rfl, Nat.le_of_ble_eq_true rfl⟩), if_pos (by exact ⟨rfl, Nat.le_of_ble_eq_true rfl⟩), if_pos (by exact ⟨rfl, Nat.le_of_ble_eq_true rfl⟩), if_pos (by exact ⟨rfl, Nat.le_of_ble_eq_true rfl⟩), if_pos (by exact ⟨rfl, Nat.le_of_ble_eq_true rfl⟩), if_pos (by exact rfl)]
  refine Eq.trans (congrArg (fun z => Option.bind z _) r1) ?_
  rw [bind_ok]
  dsimp only
  rw [jacquardlaw6_ProgSets_e1_1]
  refine Eq.trans (congrArg (fun z => Option.bind z _) r6) ?_
  rw [bind_ok]
  dsimp only
  have hidx : ∀ {α : Type} (G : Nat → Nat → List Cell → Option α), (idxSK 1 (.sl h.length 1 0 1) 0 fun k N o => rdH h' k N fun l => G k o l) = G h.length 0 [.nils] := fun G => by
    unfold idxSK
    simp only
    rw [if_pos ⟨by omega, by omega⟩]
    exact rdH_ok bb rfl
  have hal : alike (regsC (nrm code code.length Lcl.zero)) [Cell.int .i64 0, Cell.int .i64 0, Cell.int .i64 0, Cell.int .i64 0] = true := rfl
  rw [jacquardlaw6_ProgSets_e2_3, show ∀ {α : Type} (f : Cell → Option α), atK [Cell.nils, .nils, .sl h.length 1 0 1] 2 f = f (.sl h.length 1 0 1) from fun _ => rfl, hidx (fun k o l => _), if_pos (by exact Nat.le_of_ble_eq_true rfl), putH_ok bb rfl]
  dsimp only [List.set]
  rw [if_pos ⟨rfl, rfl⟩, hst, c1_ok, asA_ok, if_pos ⟨rfl, rfl, rfl⟩, show ∀ {α : Type} (f : Cell → Option α), atK (nrm code code.length Lcl.zero).cs 0 f = f (.int .i64 (nrm code code.length Lcl.zero).pc) from fun _ => rfl, asI_ok, hpc, r2.at.len, beq_self_eq_true, scK_ok, if_pos (by exact Nat.le_of_ble_eq_true rfl), if_pos ⟨rfl, rfl⟩, show (((nrm code code.length Lcl.zero).cs.drop 1).take 4) = regsC (nrm code code.length Lcl.zero) from rfl, if_pos ⟨hal, hal⟩, show decide (regsC (nrm code code.length Lcl.zero) = regsC (nrm code code.length Lcl.zero)) = true by simp, bind_ok]
  dsimp only
  rw [scK_ok, awake6_R hE.c95, c1_ok, asB_ok, bind_ok]
  exact finish_gc kf (by simp [avOk, AV.cells, idOk])

end
end Jq

/- ProgSets: whatever the input the call says true, and each argument reads behind it as before. No conditions. -/
namespace Go.Proofs.Ytldfafaiappibaa.LProgSets
open Go Jq Go.ChangeShapes Go.WideShapes Go.ChangeAt Go.RowKit
set_option linter.unusedVariables false

theorem own : ownKnob Try.prog.godebug = none := by kernel_rfl
theorem laidOut : laidOutB Try.prog = true := by kernel_rfl

set_option maxRecDepth 100000 in
theorem lifted (os : Os) (started : os.Started) (H : Type) (enc : TypeId × Value → H) :
    ReturnsInHanded {} Try.checked os 8 .any (Rows.progSetsSpec.pre6 enc Try.prog Try.f8 Rows.progSetsRow.domain false) (Rows.progSetsSpec.post enc Try.prog Try.f8 false true false false) := by
  refine returnsInHanded_of_change (C := Try.checked) own started (by kernel_rfl) Try.func8
    (ChangeSpec.witness6 (enc := enc) (C := Try.checked) false ⟨#[], #[.slice none 0 0, .int .i64 0, .int .i64 0], []⟩ 8 (by kernel_rfl) (by kernel_rfl) (by kernel_rfl) (by kernel_rfl)) ?_
  intro W base args ds gs before hval0 hW hcnd _
  have hval : ∀ (j : Nat) t v, Try.f8.params[j]? = some t → args[j]? = some v → Value.okWide Try.prog W .any base t v := hval0
  have hW' := hW
  obtain ⟨p, q, hA0, hV, rfl, hfz, hnd⟩ := hW
  have hA : DataW.TrodAll enc Try.prog W 0 (fun _ => true) true Try.f8.params.toList args.toList ds p := hA0
  rw [Try.params8] at hA hval
  obtain ⟨v0, vs0, d0, ds0, p0, q0, hargs, rfl, rfl, h0, r0⟩ := trodAll_cons hA
  obtain ⟨v1, vs1, d1, ds1, p1, q1, rfl, rfl, rfl, h1, r1⟩ := trodAll_cons r0
  obtain ⟨v2, vs2, d2, ds2, p2, q2, rfl, rfl, rfl, h2, r2⟩ := trodAll_cons r1
  obtain ⟨rfl, rfl, rfl⟩ := trodAll_nil r2
  obtain rfl : args = #[v0, v1, v2] := by cases args; simp_all
  obtain ⟨rfl, rfl⟩ := trodVars_none hV
  have lt0 : ∀ x ∈ p0, x.block < W.heap.size := by obtain ⟨m, hm⟩ := h0; exact DataW.trod_lt m _ _ _ hm
  have lt1 : ∀ x ∈ p1, x.block < W.heap.size := by obtain ⟨m, hm⟩ := h1; exact DataW.trod_lt m _ _ _ hm
  have lt2 : ∀ x ∈ p2, x.block < W.heap.size := by obtain ⟨m, hm⟩ := h2; exact DataW.trod_lt m _ _ _ hm
  have c := Come.nil (S := seat) (W := W) (fun _ => rfl)
  have k0 : ((.sl (.i .i64)) : Sh).chk seat.P 22 = true := by kernel_rfl
  obtain ⟨b0, ρ0, cs0, c0, e0, x0, a0, o0⟩ := opens_arg (S := seat) (W := W) (sh := (.sl (.i .i64))) k0 h0 (wide_of k0 (hval 0 22 v0 rfl rfl)) ⟨nofun, nofun⟩ c
  have k1 : ((.i .i64) : Sh).chk seat.P 2 = true := by kernel_rfl
  obtain ⟨b1, ρ1, cs1, c1, e1, x1, a1, o1⟩ := opens_arg (S := seat) (W := W) (sh := (.i .i64)) k1 h1 (wide_of k1 (hval 1 2 v1 rfl rfl)) ⟨nofun, nofun⟩ c0
  have k2 : ((.i .i64) : Sh).chk seat.P 2 = true := by kernel_rfl
  obtain ⟨b2, ρ2, cs2, c2, e2, x2, a2, o2⟩ := opens_arg (S := seat) (W := W) (sh := (.i .i64)) k2 h2 (wide_of k2 (hval 2 2 v2 rfl rfl)) ⟨nofun, nofun⟩ c1
  obtain ⟨h', hR⟩ := ProgSets_law (E := env) in_229 (okC_mono x2 _ _ (okC_mono x1 _ _ o0)) (okC_mono x2 _ _ o1) o2
  refine (law_call (S := seat) (R_sound (S := seat) (E := env) rfl allOk) c2 (vals := #[v0, v1, v2]) (L2.cons (relA.mono e2 (relA.mono e1 a0)) (L2.cons (relA.mono e2 a1) (L2.cons a2 L2.nil))) hR).mono fun e W' ⟨he, bel⟩ => ?_
  subst he
  exact ⟨_, rfl, _, _, _, [], _, [], hW', trodAll_mk1 (shut_bool Try.underlying4 _), (trodAll_cons_mk (Below.trod laidOut (by kernel_rfl) (of_decide_eq_true (by kernel_rfl)) h0 bel lt0) (trodAll_cons_mk (Below.trod laidOut (by kernel_rfl) (of_decide_eq_true (by kernel_rfl)) h1 bel lt1) (trodAll_cons_mk (Below.trod laidOut (by kernel_rfl) (of_decide_eq_true (by kernel_rfl)) h2 bel lt2) trodAll_mk0))), rfl, bel.frame _, fun h => by cases h⟩

theorem over : Rows.progSetsRow.holds Try.pinned (OpenSpec.ofChange Rows.progSetsSpec) :=
  OpenClaim.holds_of_wide 8 Try.f8 rfl rfl rfl rfl rfl rfl rfl ⟨rfl, rfl, rfl, rfl, rfl⟩ rfl rfl rfl rfl rfl (by kernel_rfl) Try.func8 (by kernel_rfl)
    (of_decide_eq_true (by kernel_rfl)) (by unfold Func.isWrapper; first | (rw [if_pos (by decide +kernel)]; kernel_rfl) | (rw [if_neg (by decide +kernel)]; exact ⟨rfl, rfl⟩))
    (fun os started H enc _ => lifted os started H enc)

theorem proved : Rows.ProgSetsSaid := over
#print axioms proved

end Go.Proofs.Ytldfafaiappibaa.LProgSets

