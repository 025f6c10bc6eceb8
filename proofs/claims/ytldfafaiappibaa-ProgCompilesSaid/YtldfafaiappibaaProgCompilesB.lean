/- YtldfafaiappibaaProgCompilesB: a part of the proof; no conditions of its own. -/
import Derived.KernelRfl
import Derived.Test.YtldfafaiappibaaProgCompilesA
set_option linter.unusedVariables false
set_option linter.unusedSimpArgs false

/- Programs: instructions, where a thread is; what is done at once. -/
namespace Jq
open Go

structure Opd where
  reg : Int
  val : Int
  deriving DecidableEq
structure Ins where
  kind : Int
  reg : Int
  loc : Int
  a : Opd
  op : Int
  b : Opd
  n : Int
  deriving DecidableEq
structure Lcl where
  pc : Int
  r0 : Int
  r1 : Int
  r2 : Int
  r3 : Int
  deriving DecidableEq

def Opd.cs (o : Opd) : List Cell := [.int .i64 o.reg, .int .i64 o.val]
def Ins.cs (i : Ins) : List Cell := [.int .i64 i.kind, .int .i64 i.reg, .int .i64 i.loc, .int .i64 i.a.reg, .int .i64 i.a.val, .int .i64 i.op, .int .i64 i.b.reg, .int .i64 i.b.val, .int .i64 i.n]
def Lcl.cs (l : Lcl) : List Cell := [.int .i64 l.pc, .int .i64 l.r0, .int .i64 l.r1, .int .i64 l.r2, .int .i64 l.r3]
def codeC (l : List Ins) : List Cell := l.flatMap Ins.cs
def Ins.zero : Ins := ⟨0, 0, 0, ⟨0, 0⟩, 0, ⟨0, 0⟩, 0⟩
def Lcl.zero : Lcl := ⟨0, 0, 0, 0, 0⟩

theorem Ins.len (i : Ins) : i.cs.length = 9 := rfl
theorem Lcl.len (l : Lcl) : l.cs.length = 5 := rfl
theorem zero5 : [Cell.int .i64 0, Cell.int .i64 0, Cell.int .i64 0, Cell.int .i64 0, Cell.int .i64 0] = Lcl.zero.cs := rfl

theorem codeC_len : ∀ l : List Ins, (codeC l).length = l.length * 9
  | [] => rfl
  | s :: l => by simp only [codeC, List.flatMap_cons, List.length_append]; rw [show (l.flatMap _).length = _ from codeC_len l, Ins.len]; simp; omega

theorem codeC_at : ∀ (l : List Ins) (i : Nat) (s : Ins), l[i]? = some s → ((codeC l).drop (i * 9)).take 9 = s.cs
  | [], _, _, h => by simp at h
  | q :: l, 0, s, h => by simp at h; subst h; rfl
  | q :: l, i + 1, s, h => by
    have := codeC_at l i s (by simpa using h)
    have e : codeC (q :: l) = q.cs ++ codeC l := rfl
    rw [e, List.drop_append, List.drop_of_length_le (by rw [Ins.len]; omega), List.nil_append, show (i + 1) * 9 - q.cs.length = i * 9 by rw [Ins.len]; omega]
    exact this

theorem codeC_snoc (l : List Ins) (s : Ins) : codeC (l ++ [s]) = codeC l ++ s.cs := by simp [codeC]

/-- One instruction, wherever it is looked at. -/
theorem SlAt.insG {h : AHeap} {x : Cell} {l : List Ins} (s : SlAt h x 9 (codeC l) l.length) {i : Nat} {q : Ins} (hq : l[i]? = some q) :
    ∃ off cs', (∀ {α : Type} (G : Nat → List Cell → Option α), (idxSK 9 x (i : Int) fun k N o => rdH h k N fun l => G o l) = G off cs') ∧ off + 9 ≤ cs'.length ∧ (cs'.drop off).take 9 = q.cs := by
  have hi : i < l.length := by
    rcases Nat.lt_or_ge i l.length with h | h
    · exact h
    · rw [List.getElem?_eq_none h] at hq; cases hq
  obtain ⟨off, cs', h1, h2, h3⟩ := s.elG hi
  exact ⟨off, cs', h1, h2, h3.trans (codeC_at l i q hq)⟩

/-- A register. -/
def Lcl.reg (l : Lcl) (i : Int) : Int := if i = 0 then l.r0 else if i = 1 then l.r1 else if i = 2 then l.r2 else l.r3
/-- A register set, if there is one. -/
def Lcl.setR (l : Lcl) (i v : Int) : Lcl := if i = 0 then { l with r0 := v } else if i = 1 then { l with r1 := v } else if i = 2 then { l with r2 := v } else if i = 3 then { l with r3 := v } else l
/-- An operand's number. -/
def opV (o : Opd) (l : Lcl) : Int := if 0 ≤ o.reg ∧ o.reg < 4 then l.reg o.reg else o.val

/-- Numbers as they are, no tables. -/
def GN : Glo := Glo.std fun _ => []

/-- What a sign makes of two numbers. -/
def doV (op a b : Int) : Option Int :=
  if op = 1 then some (GN.wrap .i64 (a + b)) else if op = 2 then some (GN.wrap .i64 (a - b)) else if op = 3 then some (GN.wrap .i64 (a * b))
  else if op = 4 then some (GN.band .i64 a b) else if op = 5 then some (GN.bor .i64 a b) else if op = 6 then some (GN.bxor .i64 a b)
  else if op = 7 then some (GN.shl .i64 a (GN.rem .u64 (GN.wrap .u64 b) 64)) else if op = 8 then some (GN.shr .i64 a (GN.rem .u64 (GN.wrap .u64 b) 64))
  else if op = 9 then some (if a = b then 1 else 0) else if op = 10 then some (if a = b then 0 else 1) else if op = 11 then some (if a < b then 1 else 0) else none

/-- One instruction that is done at once, if one comes. -/
def stepI (code : List Ins) (l : Lcl) : Option Lcl :=
  if 0 ≤ l.pc then match code[l.pc.toNat]? with
    | none => none
    | some i =>
      if i.kind = 5 then
        let m := l.setR i.reg ((doV i.op (opV i.a l) (opV i.b l)).getD (opV i.a l))
        some { m with pc := m.pc + 1 }
      else if i.kind = 6 then
        (if opV i.a l = opV i.b l then some { l with pc := l.pc + min (max i.n 0) code.length + 1 } else some { l with pc := l.pc + 1 })
      else none
  else none

def nrm (code : List Ins) : Nat → Lcl → Lcl
  | 0, l => l
  | k + 1, l => match stepI code l with
    | none => l
    | some l' => nrm code k l'

/-- Made normal. -/
def normL (code : List Ins) (l : Lcl) : Lcl := nrm code code.length l

theorem getI_lt {α : Type} {l : List α} {i : Nat} {v : α} (h : l[i]? = some v) : i < l.length := by
  rcases Nat.lt_or_ge i l.length with h1 | h1
  · exact h1
  · rw [List.getElem?_eq_none h1] at h; cases h

theorem Lcl.setR_pc (l : Lcl) (i v : Int) : (l.setR i v).pc = l.pc := by unfold Lcl.setR; repeat' split <;> try rfl

theorem stepI_pc {code : List Ins} {l l' : Lcl} (h : stepI code l = some l') : 0 ≤ l.pc ∧ l.pc < code.length ∧ l.pc < l'.pc ∧ l'.pc ≤ 2 * code.length := by
  unfold stepI at h
  split at h
  · rename_i h0
    cases hi : code[l.pc.toNat]? with
    | none => rw [hi] at h; cases h
    | some i =>
      rw [hi] at h
      have hlt := getI_lt hi
      simp only at h
      split at h
      · cases h
        have := l.setR_pc i.reg ((doV i.op (opV i.a l) (opV i.b l)).getD (opV i.a l))
        refine ⟨h0, by omega, ?_, ?_⟩ <;> simp only [this] <;> omega
      · split at h
        · split at h
          · cases h; refine ⟨h0, by omega, ?_, ?_⟩ <;> simp only <;> omega
          · cases h; refine ⟨h0, by omega, ?_, ?_⟩ <;> simp only <;> omega
        · cases h
  · cases h

section
variable {E : Env}

theorem lcl_get {l : Lcl} {i : Int} (h0 : 0 ≤ i) (h1 : i < 4) : l.cs[1 + Int.toNat i * 1]? = some (.int .i64 (l.reg i)) := by
  have h : i = 0 ∨ i = 1 ∨ i = 2 ∨ i = 3 := by omega
  rcases h with rfl | rfl | rfl | rfl <;> rfl

theorem lcl_set {l : Lcl} {i v : Int} (h0 : 0 ≤ i) (h1 : i < 4) : l.cs.set (1 + Int.toNat i * 1) (.int .i64 v) = (l.setR i v).cs := by
  have h : i = 0 ∨ i = 1 ∨ i = 2 ∨ i = 3 := by omega
  rcases h with rfl | rfl | rfl | rfl <;> rfl

theorem Value_R (hE : prog_Value_In E) (o : Opd) (l : Lcl) (h : AHeap) : R E 108 [.agg o.cs, .agg l.cs] h = some ([.c (.int .i64 (opV o l))], h) := by
  refine R_intro hE.fn ?_
  have a0 : ∀ {α : Type} (f : Cell → Option α), atK o.cs 0 f = f (.int .i64 o.reg) := fun _ => rfl
  have a1 : ∀ {α : Type} (f : Cell → Option α), atK o.cs 1 f = f (.int .i64 o.val) := fun _ => rfl
  unfold opV
  rw [prog_Value_eq]
  simp only [a0, a1, asI_ok, scK_and]
  by_cases h1 : 0 ≤ o.reg ∧ o.reg < 4
  · rw [if_pos (by simp; exact h1), if_pos ⟨h1.1, h1.2⟩, if_pos h1, atK_ok (lcl_get h1.1 h1.2), asI_ok]
  · rw [if_neg (by simp; omega), if_neg h1]

theorem set_R (hE : prog_set_In E) (i v : Int) {l : Lcl} {k : Nat} {h : AHeap} (hk : blk? h k = some ⟨true, 0, l.cs⟩) :
    R E 124 [.c (.ptr k 5 0), .c (.int .i64 i), .c (.int .i64 v)] h = some ([], setBlk h k (some ⟨true, 0, (l.setR i v).cs⟩)) := by
  refine R_intro hE.fn ?_
  rw [prog_set_eq, scK_and]
  by_cases h1 : 0 ≤ i ∧ i < 4
  · rw [if_pos (by simp; exact h1), if_pos ⟨h1.1, h1.2⟩, rdH_ok hk (Lcl.len l), if_pos (by rw [Lcl.len]; omega), show 0 + 1 + Int.toNat i * 1 = 1 + Int.toNat i * 1 by omega, lcl_set h1.1 h1.2, putH_ok hk rfl]
  · have e : l.setR i v = l := by unfold Lcl.setR; rw [if_neg (by omega), if_neg (by omega), if_neg (by omega), if_neg (by omega)]
    have e2 : setBlk h k (some ⟨true, 0, l.cs⟩) = h := by
      refine List.ext_getElem? fun j => ?_
      unfold setBlk
      rw [List.getElem?_set]
      by_cases hj : k = j
      · subst hj
        rw [if_pos rfl, if_pos (blk_lt' hk)]
        unfold blk? at hk
        cases hh : h[k]? with
        | none => rw [hh] at hk; cases hk
        | some b => rw [hh] at hk; simp at hk; rw [hk]
      · rw [if_neg hj]
    rw [if_neg (by simp; omega), e, e2]

theorem one_R (hE : num_one_In E) (b : Bool) (h : AHeap) : R E 139 [.c (.bool b)] h = some ([.c (.int .i64 (if b = true then 1 else 0))], h) := by
  refine R_intro hE.fn ?_
  rw [num_one_eq]
  cases b <;> rfl

theorem Do_R (hE : num_Do_In E) (op a b : Int) (h : AHeap) : R E 125 [.c (.int .i64 op), .c (.int .i64 a), .c (.int .i64 b)] h = some ([.c (.int .i64 ((doV op a b).getD 0)), .c (.bool (doV op a b).isSome)], h) := by
  refine R_intro hE.fn ?_
  rw [num_Do_eq]
  simp only [one_R hE.c139, c1_ok, asI_ok]
  have hr : ∀ x : Int, ¬ E.glob.rem .u64 (E.glob.wrap .u64 x) 64 < 0 := by
    intro x
    show ¬ Int.tmod (IntKind.wrap .u64 x) 64 < 0
    have h0 : 0 ≤ IntKind.wrap .u64 x := by
      simp only [IntKind.wrap, IntKind.signed, IntKind.bits, Bool.false_and, Bool.false_eq_true, if_false]
      exact Int.emod_nonneg _ (by omega)
    rw [Int.tmod_eq_emod_of_nonneg h0]
    have := Int.emod_nonneg (IntKind.wrap .u64 x) (b := 64) (by omega)
    omega
  simp only [hr, if_false]
  unfold doV
  have key : ∀ k : Int, ((op == k) = true) = (op = k) := fun k => by rw [beq_iff_eq]
  simp only [key]
  by_cases h1 : op = 1
  · simp only [if_pos h1]; rfl
  simp only [if_neg h1]
  by_cases h2 : op = 2
  · simp only [if_pos h2]; rfl
  simp only [if_neg h2]
  by_cases h3 : op = 3
  · simp only [if_pos h3]; rfl
  simp only [if_neg h3]
  by_cases h4 : op = 4
  · simp only [if_pos h4]; rfl
  simp only [if_neg h4]
  by_cases h5 : op = 5
  · simp only [if_pos h5]; rfl
  simp only [if_neg h5]
  by_cases h6 : op = 6
  · simp only [if_pos h6]; rfl
  simp only [if_neg h6]
  by_cases h7 : op = 7
  · simp only [if_pos h7]; rfl
  simp only [if_neg h7]
  by_cases h8 : op = 8
  · simp only [if_pos h8]; rfl
  simp only [if_neg h8]
  by_cases h9 : op = 9
  · simp only [if_pos h9]; (by_cases hab : a = b <;> simp [hab])
  simp only [if_neg h9]
  by_cases h10 : op = 10
  · simp only [if_pos h10]; (by_cases hab : a = b <;> simp [hab])
  simp only [if_neg h10]
  by_cases h11 : op = 11
  · simp only [if_pos h11]; (by_cases hab : a < b <;> simp [hab])
  simp only [if_neg h11]
  rfl

end
end Jq

/- RelAlgebra: joining and meeting are the same both ways; turned twice a relation is itself; closed twice it is closed. -/
namespace Jq
open Go

variable {E : Env}

end Jq

/- Relations told once more, by hand: closing, none leading to itself, cutting down, whether two are the same. -/
namespace Jq
open Go

theorem Low_mono {n m : Nat} (hm : n ≤ m) : ∀ {x : Cell}, Low n x → Low m x := by
  intro x h
  unfold Low at *
  split <;> simp_all
  omega

/-- What holds, over r. -/
def ACC (r : Nat) (q : Nat → Nat → Bool) : Nat → Nat := fun a => mkN fun b => decide (a < r) && decide (b < r) && q a b

variable {E : Env}

/-- Up to row i, place j. -/
def upto (i j a b : Nat) : Bool := decide (a < i) || (decide (a = i) && decide (b < j))

end Jq

/- Programs: made normal, begun, gone on. -/
namespace Jq
open Go

section
variable {E : Env}

theorem rdL {α : Type} {h : AHeap} {k : Nat} {l : Lcl} (hk : blk? h k = some ⟨true, 0, l.cs⟩) {F : List Cell → Option α} : rdH h k 5 F = F l.cs := rdH_ok hk rfl
theorem lcl_pc {α : Type} {l : Lcl} {f : Cell → Option α} : atK l.cs 0 f = f (.int .i64 l.pc) := rfl
theorem lcl_pc' {α : Type} {l : Lcl} {f : Cell → Option α} : atK l.cs (0 + 0) f = f (.int .i64 l.pc) := rfl
theorem lcl_setpc' {l : Lcl} {v : Int} : l.cs.set (0 + 0) (.int .i64 v) = ({ l with pc := v } : Lcl).cs := rfl
theorem ins_kind {α : Type} {i : Ins} {f : Cell → Option α} : atK i.cs 0 f = f (.int .i64 i.kind) := rfl
theorem ins_reg {α : Type} {i : Ins} {f : Cell → Option α} : atK i.cs 1 f = f (.int .i64 i.reg) := rfl
theorem ins_loc {α : Type} {i : Ins} {f : Cell → Option α} : atK i.cs 2 f = f (.int .i64 i.loc) := rfl
theorem ins_op {α : Type} {i : Ins} {f : Cell → Option α} : atK i.cs 5 f = f (.int .i64 i.op) := rfl
theorem ins_n {α : Type} {i : Ins} {f : Cell → Option α} : atK i.cs 8 f = f (.int .i64 i.n) := rfl
theorem ins_a {i : Ins} : (i.cs.drop 3).take 2 = i.a.cs := rfl
theorem ins_b {i : Ins} : (i.cs.drop 6).take 2 = i.b.cs := rfl

theorem avOk_lcl (m : Nat) (l : Lcl) : avOk m (.agg l.cs) = true := by simp [avOk, AV.cells, Lcl.cs, idOk]

theorem normal_round (hE : prog_normal_In E) {x : Cell} {code : List Ins} {h : AHeap} (hlen : code.length < 4000000000000000000) (z : List Cell) (l : Lcl) (hx : SlAt (h ++ [some ⟨true, 0, l.cs⟩]) x 9 (codeC code) code.length) :
    prog_normal_F1 (R E) Lim E.glob (prog_normal_s1 x h.length 5 0 z (h ++ [some ⟨true, 0, l.cs⟩])) = match stepI code l with
      | some l' => some (.normal, prog_normal_s1 x h.length 5 0 z (h ++ [some ⟨true, 0, l'.cs⟩]))
      | none => if 0 ≤ l.pc ∧ l.pc < code.length then (if z.length = 5 then some (.ret, prog_normal_x1_0 l.cs (h ++ [some ⟨true, 0, l.cs⟩])) else none) else some (.exit 0, prog_normal_x1_1 h.length 5 0 z (h ++ [some ⟨true, 0, l.cs⟩])) := by
  have hb : ∀ l : Lcl, blk? (h ++ [some ⟨true, 0, l.cs⟩]) h.length = some ⟨true, 0, l.cs⟩ := fun l => blk_new _ _
  rw [prog_normal_r1, rdL (hb l), lcl_pc', asI_ok]
  by_cases h0 : 0 ≤ l.pc
  · rw [show decide (l.pc ≥ 0) = true from decide_eq_true h0, scK_ok, rdL (hb l), lcl_pc', asI_ok, hx.len, bind_ok]
    dsimp only
    by_cases h1 : l.pc < code.length
    · obtain ⟨p, hp⟩ : ∃ p : Nat, l.pc = (p : Int) := ⟨l.pc.toNat, by omega⟩
      have hpl : p < code.length := by omega
      have hq : code[p]? = some code[p] := List.getElem?_eq_getElem hpl
      generalize code[p] = i at hq
      obtain ⟨off, cs', hG0, hle, hcs⟩ := hx.insG hq
      have hG : ∀ {α : Type} (G : Nat → List Cell → Option α), (idxSK 9 x l.pc fun k N o => rdH (h ++ [some ⟨true, 0, l.cs⟩]) k N fun l => G o l) = G off cs' := by intro α G; rw [hp]; exact hG0 G
      have hst : stepI code l = if i.kind = 5 then
          some { (l.setR i.reg ((doV i.op (opV i.a l) (opV i.b l)).getD (opV i.a l))) with pc := (l.setR i.reg ((doV i.op (opV i.a l) (opV i.b l)).getD (opV i.a l))).pc + 1 }
        else if i.kind = 6 then (if opV i.a l = opV i.b l then some { l with pc := l.pc + min (max i.n 0) code.length + 1 } else some { l with pc := l.pc + 1 }) else none := by
        unfold stepI
        rw [if_pos h0, show l.pc.toNat = p by omega, hq]
      rw [hst, if_pos (decide_eq_true h1), rdL (hb l), lcl_pc', asI_ok, hG, if_pos hle, hcs, if_pos ⟨rfl, rfl, rfl⟩, if_pos (show 3 + 2 ≤ i.cs.length by rw [Ins.len]; omega), rdL (hb l), if_pos ⟨rfl, rfl⟩, ins_a, Value_R hE.c108, qh_ok, c1_ok, asI_ok, if_pos (show 6 + 2 ≤ i.cs.length by rw [Ins.len]; omega), rdL (hb l), if_pos ⟨rfl, rfl⟩, ins_b, Value_R hE.c108, qh_ok, c1_ok, asI_ok, ins_kind, asI_ok]
      by_cases k5 : i.kind = 5
      · rw [if_pos (by rw [k5]; rfl), if_pos k5, ins_op, asI_ok, Do_R hE.c125, c2_ok, asI_ok, asB_ok]
        cases hd : doV i.op (opV i.a l) (opV i.b l) with
        | some v =>
          have hpc := l.setR_pc i.reg v
          rw [show (some v : Option Int).isSome = true from rfl, if_pos rfl, ins_reg, asI_ok, set_R hE.c124 _ _ (hb l), setBlk_last, c0_ok, rdL (hb _), lcl_pc', asI_ok, rdL (hb _), if_pos (by rw [Lcl.len]; omega), lcl_setpc', putH_ok (hb _) rfl, setBlk_last]
          rw [show (some v : Option Int).getD 0 = v from rfl, show (some v : Option Int).getD (opV i.a l) = v from rfl, hpc, g_wrap_i64 (x := l.pc + 1) (by omega) (by omega)]
        | none =>
          have hpc := l.setR_pc i.reg (opV i.a l)
          rw [show (none : Option Int).isSome = false from rfl, if_neg (by simp), ins_reg, asI_ok, set_R hE.c124 _ _ (hb l), setBlk_last, c0_ok, rdL (hb _), lcl_pc', asI_ok, rdL (hb _), if_pos (by rw [Lcl.len]; omega), lcl_setpc', putH_ok (hb _) rfl, setBlk_last]
          rw [show (none : Option Int).getD (opV i.a l) = opV i.a l from rfl, hpc, g_wrap_i64 (x := l.pc + 1) (by omega) (by omega)]
      · rw [if_neg (by rw [beq_iff_eq]; exact k5), if_neg k5]
        by_cases k6 : i.kind = 6
        · rw [if_pos (by rw [k6]; rfl), if_pos k6]
          by_cases hab : opV i.a l = opV i.b l
          · have hv : (if (code.length : Int) < (if 0 > i.n then 0 else i.n) then (code.length : Int) else (if 0 > i.n then 0 else i.n)) = min (max i.n 0) code.length := by
              split <;> split at * <;> omega
            rw [if_pos (by rw [hab]; exact beq_self_eq_true _), if_pos hab, rdL (hb l), lcl_pc', asI_ok, ins_n, asI_ok, hx.len]
            dsimp only
            rw [hv, rdL (hb l), if_pos (by rw [Lcl.len]; omega), lcl_setpc', putH_ok (hb _) rfl, setBlk_last, rdL (hb _), lcl_pc', asI_ok, rdL (hb _), if_pos (by rw [Lcl.len]; omega), lcl_setpc', putH_ok (hb _) rfl, setBlk_last]
            dsimp only
            rw [g_wrap_i64 (x := l.pc + min (max i.n 0) code.length) (by omega) (by omega), g_wrap_i64 (x := l.pc + min (max i.n 0) code.length + 1) (by omega) (by omega)]
          · rw [if_neg (by rw [beq_iff_eq]; exact hab), if_neg hab, rdL (hb l), lcl_pc', asI_ok, rdL (hb l), if_pos (by rw [Lcl.len]; omega), lcl_setpc', putH_ok (hb _) rfl, setBlk_last, g_wrap_i64 (x := l.pc + 1) (by omega) (by omega)]
        · rw [if_neg (by rw [beq_iff_eq]; exact k6), if_neg k6, rdL (hb l), if_pos ⟨rfl, rfl⟩]
          dsimp only
          rw [if_pos (show 0 ≤ l.pc ∧ l.pc < code.length from ⟨h0, h1⟩)]
          by_cases hz : z.length = 5
          · rw [if_pos ⟨rfl, hz, rfl⟩, if_pos hz]
          · rw [if_neg (fun q => hz q.2.1), if_neg hz]
    · have hst : stepI code l = none := by
        unfold stepI
        rw [if_pos h0, List.getElem?_eq_none (by omega)]
      rw [hst, if_neg (by simpa using h1)]
      dsimp only
      rw [if_neg (fun q => h1 q.2)]
  · have hst : stepI code l = none := by unfold stepI; rw [if_neg h0]
    rw [hst, show decide (l.pc ≥ 0) = false from decide_eq_false h0, scK_ft, if_neg (by simp)]
    dsimp only
    rw [if_neg (fun q => h0 q.1)]

theorem normal_R (hE : prog_normal_In E) {x : Cell} {code : List Ins} {h : AHeap} (hlen : code.length < 4000000000000000000) (hx : SlAt h x 9 (codeC code) code.length) (hlow : Low h.length x) (l : Lcl) :
    R E 114 [.c x, .agg l.cs] h = some ([.agg (normL code l).cs], h) := by
  refine R_intro hE.fn ?_
  have hx' : ∀ l : Lcl, SlAt (h ++ [some ⟨true, 0, l.cs⟩]) x 9 (codeC code) code.length := fun l => hx.keep hlow (Kp.app _ (Nat.le_refl _))
  have hb : ∀ l : Lcl, blk? (h ++ [some ⟨true, 0, l.cs⟩]) h.length = some ⟨true, 0, l.cs⟩ := fun l => blk_new _ _
  have loop : ∀ (k : Nat) (l : Lcl), (0 ≤ l.pc → (code.length : Int) ≤ l.pc + k) → (Lim (prog_normal_F1 (R E) Lim E.glob) (prog_normal_s1 x h.length 5 0 Lcl.zero.cs (h ++ [some ⟨true, 0, l.cs⟩]))).bind (fun p => prog_normal_k3 (R E) Lim E.glob h p.1 p.2) = some ([.agg (nrm code k l).cs], h) := by
    intro k
    have stop : ∀ l : Lcl, stepI code l = none → (Lim (prog_normal_F1 (R E) Lim E.glob) (prog_normal_s1 x h.length 5 0 Lcl.zero.cs (h ++ [some ⟨true, 0, l.cs⟩]))).bind (fun p => prog_normal_k3 (R E) Lim E.glob h p.1 p.2) = some ([.agg l.cs], h) := by
      intro l hs
      have hr := normal_round hE hlen Lcl.zero.cs l (hx' l)
      rw [hs] at hr
      dsimp only at hr
      have fin : finish true h [.agg l.cs] (h ++ [some ⟨true, 0, l.cs⟩]) = some ([.agg l.cs], h) := finish_gc (Kp.app _ (Nat.le_refl _)) (by simp [avOk_lcl])
      split at hr
      · rw [if_pos (show Lcl.zero.cs.length = 5 from rfl)] at hr
        rw [Lim_ret hr, bind_ok, prog_normal_e1_0, if_pos ⟨rfl, rfl⟩, fin]
      · rw [Lim_exit hr, bind_ok, prog_normal_e1_1, rdL (hb l), if_pos ⟨rfl, rfl⟩, if_pos ⟨rfl, rfl, rfl⟩, if_pos ⟨rfl, rfl⟩, fin]
    induction k with
    | zero =>
      intro l hk
      rw [nrm]
      refine stop l ?_
      cases hs : stepI code l with
      | none => rfl
      | some l' => have := stepI_pc hs; have := hk this.1; omega
    | succ k ih =>
      intro l hk
      rw [nrm]
      cases hs : stepI code l with
      | none => exact stop l hs
      | some l' =>
        have hr := normal_round hE hlen Lcl.zero.cs l (hx' l)
        rw [hs] at hr
        have h3 := stepI_pc hs
        have := ih l' (fun _ => by have := hk h3.1; omega)
        cases hL : Lim (prog_normal_F1 (R E) Lim E.glob) (prog_normal_s1 x h.length 5 0 Lcl.zero.cs (h ++ [some ⟨true, 0, l'.cs⟩])) with
        | none => rw [hL] at this; cases this
        | some p => rw [Lim_next hr hL]; rw [hL] at this; exact this
  have hc : AV.cells (.agg l.cs) = l.cs := rfl
  rw [prog_normal_eq, hc, Lcl.len]
  exact loop code.length l (fun _ => by omega)

/-- A program, made of its parts. -/
structure PProg where
  locs : List Int
  init : List Int
  thr : List (List Ins)

/-- A program lies there. -/
def ProgAt (h : AHeap) (cs : List Cell) (P : PProg) : Prop :=
  ∃ a b c ts, cs = [a, b, c] ∧ (SlAt h a 1 (intC .u8 P.locs) P.locs.length ∧ Low h.length a) ∧ (SlAt h b 1 (intC .i64 P.init) P.init.length ∧ Low h.length b) ∧ (SlAt h c 1 ts P.thr.length ∧ Low h.length c) ∧
    ∀ (t : Nat) (code : List Ins), P.thr[t]? = some code → ∃ x : Cell, ts[t]? = some x ∧ SlAt h x 9 (codeC code) code.length ∧ Low h.length x

theorem ProgAt.len {h : AHeap} {cs : List Cell} {P : PProg} (p : ProgAt h cs P) : cs.length = 3 := by
  obtain ⟨a, b, c, ts, rfl, _⟩ := p; rfl

theorem ProgAt.keep {h h' : AHeap} {cs : List Cell} {P : PProg} (p : ProgAt h cs P) (hk : Kp h.length h h') : ProgAt h' cs P := by
  obtain ⟨a, b, c, ts, e, ⟨a1, a2⟩, ⟨b1, b2⟩, ⟨c1, c2⟩, ht⟩ := p
  exact ⟨a, b, c, ts, e, ⟨a1.keep a2 hk, Low_mono hk.1 a2⟩, ⟨b1.keep b2 hk, Low_mono hk.1 b2⟩, ⟨c1.keep c2 hk, Low_mono hk.1 c2⟩, fun t code h1 => by
    obtain ⟨x, x1, x2, x3⟩ := ht t code h1
    exact ⟨x, x1, x2.keep x3 hk, Low_mono hk.1 x3⟩⟩

/-- No thread is too long. -/
def PProg.fits (P : PProg) : Prop := P.thr.length < 4000000000000000000 ∧ ∀ code ∈ P.thr, code.length < 4000000000000000000

/-- A thread's instructions, or none. -/
def PProg.code (P : PProg) (t : Int) : List Ins := if 0 ≤ t then P.thr.getD t.toNat [] else []

theorem PProg.code_fits {P : PProg} (hf : P.fits) (t : Int) : (P.code t).length < 4000000000000000000 := by
  unfold PProg.code
  split
  · rw [List.getD_eq_getElem?_getD]
    cases h : P.thr[t.toNat]? with
    | none => show (0 : Nat) < _; omega
    | some c => exact hf.2 c (List.mem_of_getElem? h)
  · show (0 : Nat) < _; omega

theorem thread_R (hE : prog_thread_In E) {cs : List Cell} {P : PProg} {h : AHeap} (p : ProgAt h cs P) (t : Int) :
    ∃ x, R E 113 [.agg cs, .c (.int .i64 t)] h = some ([.c x], h) ∧ SlAt h x 9 (codeC (P.code t)) (P.code t).length ∧ Low h.length x := by
  obtain ⟨a, b, c, ts, rfl, _, _, ⟨hc, hcl⟩, ht⟩ := p
  have a2 : ∀ {α : Type} (f : Cell → Option α), atK [a, b, c] 2 f = f c := fun _ => rfl
  by_cases h0 : 0 ≤ t
  · by_cases h1 : t.toNat < P.thr.length
    · have hg : P.thr[t.toNat]? = some P.thr[t.toNat] := List.getElem?_eq_getElem h1
      generalize P.thr[t.toNat] = code at hg
      obtain ⟨x, x1, x2, x3⟩ := ht _ _ hg
      have hcode : P.code t = code := by unfold PProg.code; rw [if_pos h0, List.getD_eq_getElem?_getD, hg]; rfl
      rw [hcode]
      refine ⟨x, R_intro hE.fn ?_, x2, x3⟩
      have hti : t = ((t.toNat : Nat) : Int) := by omega
      rw [prog_thread_eq, show decide (t < 0) = false from decide_eq_false (by omega), scK_ok, a2, hc.len, show decide (t ≥ (P.thr.length : Int)) = false from decide_eq_false (by omega), bind_ok]
      dsimp only
      rw [if_neg (by simp), a2, hc.getAt t.toNat hti h1 x1]
    · have hcode : P.code t = [] := by unfold PProg.code; rw [if_pos h0, List.getD_eq_getElem?_getD, List.getElem?_eq_none (by omega)]; rfl
      rw [hcode]
      refine ⟨.nils, R_intro hE.fn ?_, ⟨rfl, .inl ⟨rfl, rfl⟩⟩, trivial⟩
      rw [prog_thread_eq, show decide (t < 0) = false from decide_eq_false (by omega), scK_ok, a2, hc.len, show decide (t ≥ (P.thr.length : Int)) = true from decide_eq_true (by omega), bind_ok]
      dsimp only
      rw [if_pos rfl]
  · have hcode : P.code t = [] := by unfold PProg.code; rw [if_neg h0]
    rw [hcode]
    refine ⟨.nils, R_intro hE.fn ?_, ⟨rfl, .inl ⟨rfl, rfl⟩⟩, trivial⟩
    rw [prog_thread_eq, show decide (t < 0) = true from decide_eq_true (by omega), scK_tf, if_pos rfl]

def startL (P : PProg) (t : Int) : Lcl := normL (P.code t) Lcl.zero

theorem PStart_R (hE : prog_Start_In E) {cs : List Cell} {P : PProg} {h : AHeap} (hf : P.fits) (p : ProgAt h cs P) (t : Int) :
    R E 94 [.agg cs, .c (.int .i64 t)] h = some ([.agg (startL P t).cs], h) := by
  refine R_intro hE.fn ?_
  obtain ⟨x, hr, hx, hl⟩ := thread_R hE.c113 p t
  rw [prog_Start_eq, if_pos ⟨rfl, p.len⟩, hr, c1_ok, asC_ok, zero5, normal_R hE.c114 (PProg.code_fits hf t) hx hl, c1_ok, asA_ok, if_pos ⟨rfl, rfl, rfl⟩, if_pos ⟨rfl, rfl⟩]
  rfl

/-- The instruction that comes, if one comes that touches memory. -/
def nextI (code : List Ins) (l : Lcl) : Option Ins :=
  if 0 ≤ l.pc then match code[l.pc.toNat]? with
    | none => none
    | some i => if 1 ≤ i.kind ∧ i.kind ≤ 4 then some i else none
  else none

theorem PNext_R (hE : prog_Next_In E) {cs : List Cell} {P : PProg} {h : AHeap} (p : ProgAt h cs P) (t : Int) (l : Lcl) :
    R E 105 [.agg cs, .c (.int .i64 t), .agg l.cs] h = some ([.agg ((nextI (P.code t) l).getD Ins.zero).cs, .c (.bool (nextI (P.code t) l).isSome)], h) := by
  refine R_intro hE.fn ?_
  obtain ⟨x, hr, hx, hlo⟩ := thread_R hE.c113 p t
  generalize P.code t = code at *
  rw [prog_Next_eq, if_pos ⟨rfl, p.len⟩, hr, c1_ok, asC_ok, lcl_pc, asI_ok]
  by_cases h0 : 0 ≤ l.pc
  · rw [show decide (l.pc < 0) = false from decide_eq_false (by omega), scK_ok, lcl_pc, asI_ok, hx.len, bind_ok]
    dsimp only
    by_cases h1 : l.pc < code.length
    · obtain ⟨q, hq⟩ : ∃ q : Nat, l.pc = (q : Int) := ⟨l.pc.toNat, by omega⟩
      have hql : q < code.length := by omega
      have hg : code[q]? = some code[q] := List.getElem?_eq_getElem hql
      generalize code[q] = i at hg
      obtain ⟨off, cs', hG0, hle, hcs⟩ := hx.insG hg
      have hG : ∀ {α : Type} (G : Nat → List Cell → Option α), (idxSK 9 x l.pc fun k N o => rdH h k N fun l => G o l) = G off cs' := by intro α G; rw [hq]; exact hG0 G
      have hn : nextI code l = if 1 ≤ i.kind ∧ i.kind ≤ 4 then some i else none := by
        unfold nextI
        rw [if_pos h0, show l.pc.toNat = q by omega, hg]
      rw [show decide (l.pc ≥ (code.length : Int)) = false from decide_eq_false (by omega), if_neg (by simp), lcl_pc, asI_ok, hG, if_pos hle, hcs, if_pos ⟨rfl, rfl, rfl⟩, ins_kind, asI_ok, ins_kind, asI_ok, scK_or, hn]
      by_cases hk : 1 ≤ i.kind ∧ i.kind ≤ 4
      · rw [if_neg (by simp; omega), if_pos hk, if_pos ⟨rfl, rfl⟩, if_pos ⟨rfl, rfl, rfl⟩, if_pos ⟨rfl, rfl⟩]; rfl
      · rw [if_pos (by simp; omega), if_neg hk, if_pos ⟨rfl, rfl, rfl⟩, if_pos ⟨rfl, rfl⟩]; rfl
    · have hn : nextI code l = none := by unfold nextI; rw [if_pos h0, List.getElem?_eq_none (by omega)]
      rw [show decide (l.pc ≥ (code.length : Int)) = true from decide_eq_true (by omega), if_pos rfl, hn, if_pos ⟨rfl, rfl, rfl⟩, if_pos ⟨rfl, rfl⟩]; rfl
  · have hn : nextI code l = none := by unfold nextI; rw [if_neg h0]
    rw [show decide (l.pc < 0) = true from decide_eq_true (by omega), scK_tf, if_pos rfl, hn, if_pos ⟨rfl, rfl, rfl⟩, if_pos ⟨rfl, rfl⟩]; rfl

/-- Where a thread is behind an instruction that reads a value. -/
def afterL (code : List Ins) (l : Lcl) (v : Int) : Lcl := match nextI code l with
  | none => l
  | some i => normL code { (if i.kind = 2 ∨ i.kind = 4 then l.setR i.reg v else l) with pc := l.pc + 1 }

end
end Jq

namespace Jq
open Go

/- jacquard/jacquardref2.Check: 99 -/
def jacquardref2_Check_k2 (C : CallF) (L : LoopF) (G : Glo) (h0 : AHeap) : Ex → St → Option (List AV × AHeap) :=
  kSeq (fun st => jacquardref2_Check_p1.exec C L G st (jacquardref2_Check.fin G h0)) (jacquardref2_Check.fin G h0)
def jacquardref2_Check_k3 (C : CallF) (L : LoopF) (G : Glo) (h0 : AHeap) : Ex → St → Option (List AV × AHeap) :=
  kBlk 0 (jacquardref2_Check_k2 C L G h0)
def jacquardref2_Check_s1 (a3 : Int) (b4 : Bool) (a5 : Int) (s0 : List Cell) (h : AHeap) : St := ⟨[.top, .loc 0 0, .top, .v (.c (.int .i64 a3)), .v (.c (.bool b4)), .v (.c (.int .i64 a5)), .top, .top, .top, .top, .top, .top, .top, .top, .top, .top, .top, .top, .top, .top, .top, .top, .top, .top, .top, .top, .top, .top, .top, .top, .top, .top, .top, .top, .top, .top, .top, .top, .top, .top, .top, .top, .top, .top, .top, .top, .top, .top, .top, .top, .top, .top, .top, .top, .top, .top, .top, .top, .top, .top, .top, .top, .top, .top, .top, .top, .top, .top, .top, .top, .top, .top, .top, .top, .top, .top, .top, .top, .top, .top, .top, .top, .top, .top, .top, .top, .top, .top, .top, .top, .top, .top, .top, .top, .top, .top, .top, .top, .top, .top, .top, .top, .top, .top, .top, .top, .top, .top, .top, .top, .top, .top, .top, .top, .top, .top, .top, .top, .top, .top, .top, .top, .top, .top, .top, .top, .top, .top, .top, .top, .top, .top, .top, .top, .top, .top, .top, .top, .top, .top, .top, .top, .top, .top, .top, .top, .top, .top, .top, .top, .top, .top, .top, .top, .top, .top, .top, .top, .top, .top, .top, .top, .top, .top, .top, .top, .top, .top, .top, .top, .top, .top, .top, .top, .top, .top, .top, .top, .top, .top, .top, .top, .top, .top, .top, .top, .top, .top, .top, .top, .top, .top, .top, .top, .top, .top, .top, .top, .top, .top, .top, .top, .top, .top], [some s0, none], h⟩
def jacquardref2_Check_F1 (C : CallF) (L : LoopF) (G : Glo) : St → Option (Ex × St) :=
  roundF (fun st f => jacquardref2_Check_b1.exec C L G st f) [1, 3, 4, 5] [0] [(1, [1, 3, 4], [0])]
def jacquardref2_Check_x1_1 (a3 : Int) (b4 : Bool) (s0 : List Cell) (h : AHeap) : St := ⟨[.top, .loc 0 0, .top, .v (.c (.int .i64 a3)), .v (.c (.bool b4)), .top, .top, .top, .top, .top, .top, .top, .top, .top, .top, .top, .top, .top, .top, .top, .top, .top, .top, .top, .top, .top, .top, .top, .top, .top, .top, .top, .top, .top, .top, .top, .top, .top, .top, .top, .top, .top, .top, .top, .top, .top, .top, .top, .top, .top, .top, .top, .top, .top, .top, .top, .top, .top, .top, .top, .top, .top, .top, .top, .top, .top, .top, .top, .top, .top, .top, .top, .top, .top, .top, .top, .top, .top, .top, .top, .top, .top, .top, .top, .top, .top, .top, .top, .top, .top, .top, .top, .top, .top, .top, .top, .top, .top, .top, .top, .top, .top, .top, .top, .top, .top, .top, .top, .top, .top, .top, .top, .top, .top, .top, .top, .top, .top, .top, .top, .top, .top, .top, .top, .top, .top, .top, .top, .top, .top, .top, .top, .top, .top, .top, .top, .top, .top, .top, .top, .top, .top, .top, .top, .top, .top, .top, .top, .top, .top, .top, .top, .top, .top, .top, .top, .top, .top, .top, .top, .top, .top, .top, .top, .top, .top, .top, .top, .top, .top, .top, .top, .top, .top, .top, .top, .top, .top, .top, .top, .top, .top, .top, .top, .top, .top, .top, .top, .top, .top, .top, .top, .top, .top, .top, .top, .top, .top, .top, .top, .top, .top, .top, .top], [some s0, none], h⟩
def jacquardref2_Check_k4 (C : CallF) (L : LoopF) (G : Glo) (h0 : AHeap) : Ex → St → Option (List AV × AHeap) :=
  kSeq (fun st => jacquardref2_Check_p2.exec C L G st (jacquardref2_Check.fin G h0)) (jacquardref2_Check.fin G h0)
def jacquardref2_Check_k5 (C : CallF) (L : LoopF) (G : Glo) (h0 : AHeap) : Ex → St → Option (List AV × AHeap) :=
  kBlk 2 (jacquardref2_Check_k4 C L G h0)
def jacquardref2_Check_s2 (a3 : Int) (b4 : Bool) (a6 : Int) (s0 : List Cell) (h : AHeap) : St := ⟨[.top, .loc 0 0, .top, .v (.c (.int .i64 a3)), .v (.c (.bool b4)), .top, .v (.c (.int .i64 a6)), .top, .top, .top, .top, .top, .top, .top, .top, .top, .top, .top, .top, .top, .top, .top, .top, .top, .top, .top, .top, .top, .top, .top, .top, .top, .top, .top, .top, .top, .top, .top, .top, .top, .top, .top, .top, .top, .top, .top, .top, .top, .top, .top, .top, .top, .top, .top, .top, .top, .top, .top, .top, .top, .top, .top, .top, .top, .top, .top, .top, .top, .top, .top, .top, .top, .top, .top, .top, .top, .top, .top, .top, .top, .top, .top, .top, .top, .top, .top, .top, .top, .top, .top, .top, .top, .top, .top, .top, .top, .top, .top, .top, .top, .top, .top, .top, .top, .top, .top, .top, .top, .top, .top, .top, .top, .top, .top, .top, .top, .top, .top, .top, .top, .top, .top, .top, .top, .top, .top, .top, .top, .top, .top, .top, .top, .top, .top, .top, .top, .top, .top, .top, .top, .top, .top, .top, .top, .top, .top, .top, .top, .top, .top, .top, .top, .top, .top, .top, .top, .top, .top, .top, .top, .top, .top, .top, .top, .top, .top, .top, .top, .top, .top, .top, .top, .top, .top, .top, .top, .top, .top, .top, .top, .top, .top, .top, .top, .top, .top, .top, .top, .top, .top, .top, .top, .top, .top, .top, .top, .top, .top, .top, .top, .top, .top, .top, .top], [some s0, none], h⟩
def jacquardref2_Check_F2 (C : CallF) (L : LoopF) (G : Glo) : St → Option (Ex × St) :=
  roundF (fun st f => jacquardref2_Check_b2.exec C L G st f) [1, 3, 4, 6] [0] [(3, [1, 3, 4], [0])]
def jacquardref2_Check_x2_3 (a3 : Int) (b4 : Bool) (s0 : List Cell) (h : AHeap) : St := ⟨[.top, .loc 0 0, .top, .v (.c (.int .i64 a3)), .v (.c (.bool b4)), .top, .top, .top, .top, .top, .top, .top, .top, .top, .top, .top, .top, .top, .top, .top, .top, .top, .top, .top, .top, .top, .top, .top, .top, .top, .top, .top, .top, .top, .top, .top, .top, .top, .top, .top, .top, .top, .top, .top, .top, .top, .top, .top, .top, .top, .top, .top, .top, .top, .top, .top, .top, .top, .top, .top, .top, .top, .top, .top, .top, .top, .top, .top, .top, .top, .top, .top, .top, .top, .top, .top, .top, .top, .top, .top, .top, .top, .top, .top, .top, .top, .top, .top, .top, .top, .top, .top, .top, .top, .top, .top, .top, .top, .top, .top, .top, .top, .top, .top, .top, .top, .top, .top, .top, .top, .top, .top, .top, .top, .top, .top, .top, .top, .top, .top, .top, .top, .top, .top, .top, .top, .top, .top, .top, .top, .top, .top, .top, .top, .top, .top, .top, .top, .top, .top, .top, .top, .top, .top, .top, .top, .top, .top, .top, .top, .top, .top, .top, .top, .top, .top, .top, .top, .top, .top, .top, .top, .top, .top, .top, .top, .top, .top, .top, .top, .top, .top, .top, .top, .top, .top, .top, .top, .top, .top, .top, .top, .top, .top, .top, .top, .top, .top, .top, .top, .top, .top, .top, .top, .top, .top, .top, .top, .top, .top, .top, .top, .top, .top], [some s0, none], h⟩
def jacquardref2_Check_k6 (C : CallF) (L : LoopF) (G : Glo) (h0 : AHeap) : Ex → St → Option (List AV × AHeap) :=
  kSeq (fun st => jacquardref2_Check_p3.exec C L G st (jacquardref2_Check.fin G h0)) (jacquardref2_Check.fin G h0)
def jacquardref2_Check_k7 (C : CallF) (L : LoopF) (G : Glo) (h0 : AHeap) : Ex → St → Option (List AV × AHeap) :=
  kBlk 4 (jacquardref2_Check_k6 C L G h0)
def jacquardref2_Check_s4 (a7 : Int) (s0 : List Cell) (h : AHeap) : St := ⟨[.top, .loc 0 0, .top, .top, .top, .top, .top, .v (.c (.int .i64 a7)), .top, .top, .top, .top, .top, .top, .top, .top, .top, .top, .top, .top, .top, .top, .top, .top, .top, .top, .top, .top, .top, .top, .top, .top, .top, .top, .top, .top, .top, .top, .top, .top, .top, .top, .top, .top, .top, .top, .top, .top, .top, .top, .top, .top, .top, .top, .top, .top, .top, .top, .top, .top, .top, .top, .top, .top, .top, .top, .top, .top, .top, .top, .top, .top, .top, .top, .top, .top, .top, .top, .top, .top, .top, .top, .top, .top, .top, .top, .top, .top, .top, .top, .top, .top, .top, .top, .top, .top, .top, .top, .top, .top, .top, .top, .top, .top, .top, .top, .top, .top, .top, .top, .top, .top, .top, .top, .top, .top, .top, .top, .top, .top, .top, .top, .top, .top, .top, .top, .top, .top, .top, .top, .top, .top, .top, .top, .top, .top, .top, .top, .top, .top, .top, .top, .top, .top, .top, .top, .top, .top, .top, .top, .top, .top, .top, .top, .top, .top, .top, .top, .top, .top, .top, .top, .top, .top, .top, .top, .top, .top, .top, .top, .top, .top, .top, .top, .top, .top, .top, .top, .top, .top, .top, .top, .top, .top, .top, .top, .top, .top, .top, .top, .top, .top, .top, .top, .top, .top, .top, .top, .top, .top, .top, .top, .top, .top], [some s0, none], h⟩
def jacquardref2_Check_F4 (C : CallF) (L : LoopF) (G : Glo) : St → Option (Ex × St) :=
  roundF (fun st f => jacquardref2_Check_b4.exec C L G st f) [1, 7] [0] [(0, [2], []), (5, [1], [0])]
def jacquardref2_Check_k8 (C : CallF) (L : LoopF) (G : Glo) : Ex → St → Option (Ex × St) :=
  kSeq (fun st => jacquardref2_Check_p4.exec C L G st (kLoop [1, 7] [0] [(0, [2], []), (5, [1], [0])])) (kLoop [1, 7] [0] [(0, [2], []), (5, [1], [0])])
def jacquardref2_Check_k9 (C : CallF) (L : LoopF) (G : Glo) : Ex → St → Option (Ex × St) :=
  kBlk 5 (jacquardref2_Check_k8 C L G)
def jacquardref2_Check_k10 (C : CallF) (L : LoopF) (G : Glo) : Ex → St → Option (Ex × St) :=
  kBlk 6 (jacquardref2_Check_k9 C L G)
def jacquardref2_Check_s3 (a7 : Int) (a8 : Int) (s0 : List Cell) (h : AHeap) : St := ⟨[.top, .loc 0 0, .top, .top, .top, .top, .top, .v (.c (.int .i64 a7)), .v (.c (.int .i64 a8)), .top, .top, .top, .top, .top, .top, .top, .top, .top, .top, .top, .top, .top, .top, .top, .top, .top, .top, .top, .top, .top, .top, .top, .top, .top, .top, .top, .top, .top, .top, .top, .top, .top, .top, .top, .top, .top, .top, .top, .top, .top, .top, .top, .top, .top, .top, .top, .top, .top, .top, .top, .top, .top, .top, .top, .top, .top, .top, .top, .top, .top, .top, .top, .top, .top, .top, .top, .top, .top, .top, .top, .top, .top, .top, .top, .top, .top, .top, .top, .top, .top, .top, .top, .top, .top, .top, .top, .top, .top, .top, .top, .top, .top, .top, .top, .top, .top, .top, .top, .top, .top, .top, .top, .top, .top, .top, .top, .top, .top, .top, .top, .top, .top, .top, .top, .top, .top, .top, .top, .top, .top, .top, .top, .top, .top, .top, .top, .top, .top, .top, .top, .top, .top, .top, .top, .top, .top, .top, .top, .top, .top, .top, .top, .top, .top, .top, .top, .top, .top, .top, .top, .top, .top, .top, .top, .top, .top, .top, .top, .top, .top, .top, .top, .top, .top, .top, .top, .top, .top, .top, .top, .top, .top, .top, .top, .top, .top, .top, .top, .top, .top, .top, .top, .top, .top, .top, .top, .top, .top, .top, .top, .top, .top, .top, .top], [some s0, none], h⟩
def jacquardref2_Check_F3 (C : CallF) (L : LoopF) (G : Glo) : St → Option (Ex × St) :=
  roundF (fun st f => jacquardref2_Check_b3.exec C L G st f) [1, 7, 8] [0] [(0, [2], []), (7, [1, 7], [0])]
def jacquardref2_Check_x3_0 (a2 : Int) (h : AHeap) : St := ⟨[.top, .top, .v (.c (.int .i64 a2)), .top, .top, .top, .top, .top, .top, .top, .top, .top, .top, .top, .top, .top, .top, .top, .top, .top, .top, .top, .top, .top, .top, .top, .top, .top, .top, .top, .top, .top, .top, .top, .top, .top, .top, .top, .top, .top, .top, .top, .top, .top, .top, .top, .top, .top, .top, .top, .top, .top, .top, .top, .top, .top, .top, .top, .top, .top, .top, .top, .top, .top, .top, .top, .top, .top, .top, .top, .top, .top, .top, .top, .top, .top, .top, .top, .top, .top, .top, .top, .top, .top, .top, .top, .top, .top, .top, .top, .top, .top, .top, .top, .top, .top, .top, .top, .top, .top, .top, .top, .top, .top, .top, .top, .top, .top, .top, .top, .top, .top, .top, .top, .top, .top, .top, .top, .top, .top, .top, .top, .top, .top, .top, .top, .top, .top, .top, .top, .top, .top, .top, .top, .top, .top, .top, .top, .top, .top, .top, .top, .top, .top, .top, .top, .top, .top, .top, .top, .top, .top, .top, .top, .top, .top, .top, .top, .top, .top, .top, .top, .top, .top, .top, .top, .top, .top, .top, .top, .top, .top, .top, .top, .top, .top, .top, .top, .top, .top, .top, .top, .top, .top, .top, .top, .top, .top, .top, .top, .top, .top, .top, .top, .top, .top, .top, .top, .top, .top, .top, .top, .top, .top], [none, none], h⟩
def jacquardref2_Check_x3_7 (a7 : Int) (s0 : List Cell) (h : AHeap) : St := ⟨[.top, .loc 0 0, .top, .top, .top, .top, .top, .v (.c (.int .i64 a7)), .top, .top, .top, .top, .top, .top, .top, .top, .top, .top, .top, .top, .top, .top, .top, .top, .top, .top, .top, .top, .top, .top, .top, .top, .top, .top, .top, .top, .top, .top, .top, .top, .top, .top, .top, .top, .top, .top, .top, .top, .top, .top, .top, .top, .top, .top, .top, .top, .top, .top, .top, .top, .top, .top, .top, .top, .top, .top, .top, .top, .top, .top, .top, .top, .top, .top, .top, .top, .top, .top, .top, .top, .top, .top, .top, .top, .top, .top, .top, .top, .top, .top, .top, .top, .top, .top, .top, .top, .top, .top, .top, .top, .top, .top, .top, .top, .top, .top, .top, .top, .top, .top, .top, .top, .top, .top, .top, .top, .top, .top, .top, .top, .top, .top, .top, .top, .top, .top, .top, .top, .top, .top, .top, .top, .top, .top, .top, .top, .top, .top, .top, .top, .top, .top, .top, .top, .top, .top, .top, .top, .top, .top, .top, .top, .top, .top, .top, .top, .top, .top, .top, .top, .top, .top, .top, .top, .top, .top, .top, .top, .top, .top, .top, .top, .top, .top, .top, .top, .top, .top, .top, .top, .top, .top, .top, .top, .top, .top, .top, .top, .top, .top, .top, .top, .top, .top, .top, .top, .top, .top, .top, .top, .top, .top, .top, .top], [some s0, none], h⟩
def jacquardref2_Check_x4_0 (a2 : Int) (h : AHeap) : St := ⟨[.top, .top, .v (.c (.int .i64 a2)), .top, .top, .top, .top, .top, .top, .top, .top, .top, .top, .top, .top, .top, .top, .top, .top, .top, .top, .top, .top, .top, .top, .top, .top, .top, .top, .top, .top, .top, .top, .top, .top, .top, .top, .top, .top, .top, .top, .top, .top, .top, .top, .top, .top, .top, .top, .top, .top, .top, .top, .top, .top, .top, .top, .top, .top, .top, .top, .top, .top, .top, .top, .top, .top, .top, .top, .top, .top, .top, .top, .top, .top, .top, .top, .top, .top, .top, .top, .top, .top, .top, .top, .top, .top, .top, .top, .top, .top, .top, .top, .top, .top, .top, .top, .top, .top, .top, .top, .top, .top, .top, .top, .top, .top, .top, .top, .top, .top, .top, .top, .top, .top, .top, .top, .top, .top, .top, .top, .top, .top, .top, .top, .top, .top, .top, .top, .top, .top, .top, .top, .top, .top, .top, .top, .top, .top, .top, .top, .top, .top, .top, .top, .top, .top, .top, .top, .top, .top, .top, .top, .top, .top, .top, .top, .top, .top, .top, .top, .top, .top, .top, .top, .top, .top, .top, .top, .top, .top, .top, .top, .top, .top, .top, .top, .top, .top, .top, .top, .top, .top, .top, .top, .top, .top, .top, .top, .top, .top, .top, .top, .top, .top, .top, .top, .top, .top, .top, .top, .top, .top, .top], [none, none], h⟩
def jacquardref2_Check_x4_5 (s0 : List Cell) (h : AHeap) : St := ⟨[.top, .loc 0 0, .top, .top, .top, .top, .top, .top, .top, .top, .top, .top, .top, .top, .top, .top, .top, .top, .top, .top, .top, .top, .top, .top, .top, .top, .top, .top, .top, .top, .top, .top, .top, .top, .top, .top, .top, .top, .top, .top, .top, .top, .top, .top, .top, .top, .top, .top, .top, .top, .top, .top, .top, .top, .top, .top, .top, .top, .top, .top, .top, .top, .top, .top, .top, .top, .top, .top, .top, .top, .top, .top, .top, .top, .top, .top, .top, .top, .top, .top, .top, .top, .top, .top, .top, .top, .top, .top, .top, .top, .top, .top, .top, .top, .top, .top, .top, .top, .top, .top, .top, .top, .top, .top, .top, .top, .top, .top, .top, .top, .top, .top, .top, .top, .top, .top, .top, .top, .top, .top, .top, .top, .top, .top, .top, .top, .top, .top, .top, .top, .top, .top, .top, .top, .top, .top, .top, .top, .top, .top, .top, .top, .top, .top, .top, .top, .top, .top, .top, .top, .top, .top, .top, .top, .top, .top, .top, .top, .top, .top, .top, .top, .top, .top, .top, .top, .top, .top, .top, .top, .top, .top, .top, .top, .top, .top, .top, .top, .top, .top, .top, .top, .top, .top, .top, .top, .top, .top, .top, .top, .top, .top, .top, .top, .top, .top, .top, .top, .top, .top, .top, .top, .top, .top], [some s0, none], h⟩
def jacquardref2_Check_k11 (C : CallF) (L : LoopF) (G : Glo) (h0 : AHeap) : Ex → St → Option (List AV × AHeap) :=
  kSeq (fun st => jacquardref2_Check_p5.exec C L G st (jacquardref2_Check.fin G h0)) (jacquardref2_Check.fin G h0)
def jacquardref2_Check_k12 (C : CallF) (L : LoopF) (G : Glo) (h0 : AHeap) : Ex → St → Option (List AV × AHeap) :=
  kBlk 8 (jacquardref2_Check_k11 C L G h0)
def jacquardref2_Check_s6 (a9 : Int) (s0 : List Cell) (h : AHeap) : St := ⟨[.top, .loc 0 0, .top, .top, .top, .top, .top, .top, .top, .v (.c (.int .i64 a9)), .top, .top, .top, .top, .top, .top, .top, .top, .top, .top, .top, .top, .top, .top, .top, .top, .top, .top, .top, .top, .top, .top, .top, .top, .top, .top, .top, .top, .top, .top, .top, .top, .top, .top, .top, .top, .top, .top, .top, .top, .top, .top, .top, .top, .top, .top, .top, .top, .top, .top, .top, .top, .top, .top, .top, .top, .top, .top, .top, .top, .top, .top, .top, .top, .top, .top, .top, .top, .top, .top, .top, .top, .top, .top, .top, .top, .top, .top, .top, .top, .top, .top, .top, .top, .top, .top, .top, .top, .top, .top, .top, .top, .top, .top, .top, .top, .top, .top, .top, .top, .top, .top, .top, .top, .top, .top, .top, .top, .top, .top, .top, .top, .top, .top, .top, .top, .top, .top, .top, .top, .top, .top, .top, .top, .top, .top, .top, .top, .top, .top, .top, .top, .top, .top, .top, .top, .top, .top, .top, .top, .top, .top, .top, .top, .top, .top, .top, .top, .top, .top, .top, .top, .top, .top, .top, .top, .top, .top, .top, .top, .top, .top, .top, .top, .top, .top, .top, .top, .top, .top, .top, .top, .top, .top, .top, .top, .top, .top, .top, .top, .top, .top, .top, .top, .top, .top, .top, .top, .top, .top, .top, .top, .top, .top], [some s0, none], h⟩
def jacquardref2_Check_F6 (C : CallF) (L : LoopF) (G : Glo) : St → Option (Ex × St) :=
  roundF (fun st f => jacquardref2_Check_b6.exec C L G st f) [1, 9] [0] [(0, [2], []), (9, [1], [0])]
def jacquardref2_Check_k13 (C : CallF) (L : LoopF) (G : Glo) : Ex → St → Option (Ex × St) :=
  kSeq (fun st => jacquardref2_Check_p6.exec C L G st (kLoop [1, 9] [0] [(0, [2], []), (9, [1], [0])])) (kLoop [1, 9] [0] [(0, [2], []), (9, [1], [0])])
def jacquardref2_Check_k14 (C : CallF) (L : LoopF) (G : Glo) : Ex → St → Option (Ex × St) :=
  kBlk 9 (jacquardref2_Check_k13 C L G)
def jacquardref2_Check_k15 (C : CallF) (L : LoopF) (G : Glo) : Ex → St → Option (Ex × St) :=
  kBlk 10 (jacquardref2_Check_k14 C L G)
def jacquardref2_Check_s5 (a9 : Int) (a10 : Int) (s0 : List Cell) (h : AHeap) : St := ⟨[.top, .loc 0 0, .top, .top, .top, .top, .top, .top, .top, .v (.c (.int .i64 a9)), .v (.c (.int .i64 a10)), .top, .top, .top, .top, .top, .top, .top, .top, .top, .top, .top, .top, .top, .top, .top, .top, .top, .top, .top, .top, .top, .top, .top, .top, .top, .top, .top, .top, .top, .top, .top, .top, .top, .top, .top, .top, .top, .top, .top, .top, .top, .top, .top, .top, .top, .top, .top, .top, .top, .top, .top, .top, .top, .top, .top, .top, .top, .top, .top, .top, .top, .top, .top, .top, .top, .top, .top, .top, .top, .top, .top, .top, .top, .top, .top, .top, .top, .top, .top, .top, .top, .top, .top, .top, .top, .top, .top, .top, .top, .top, .top, .top, .top, .top, .top, .top, .top, .top, .top, .top, .top, .top, .top, .top, .top, .top, .top, .top, .top, .top, .top, .top, .top, .top, .top, .top, .top, .top, .top, .top, .top, .top, .top, .top, .top, .top, .top, .top, .top, .top, .top, .top, .top, .top, .top, .top, .top, .top, .top, .top, .top, .top, .top, .top, .top, .top, .top, .top, .top, .top, .top, .top, .top, .top, .top, .top, .top, .top, .top, .top, .top, .top, .top, .top, .top, .top, .top, .top, .top, .top, .top, .top, .top, .top, .top, .top, .top, .top, .top, .top, .top, .top, .top, .top, .top, .top, .top, .top, .top, .top, .top, .top, .top], [some s0, none], h⟩
def jacquardref2_Check_F5 (C : CallF) (L : LoopF) (G : Glo) : St → Option (Ex × St) :=
  roundF (fun st f => jacquardref2_Check_b5.exec C L G st f) [1, 9, 10] [0] [(0, [2], []), (11, [1, 9], [0])]
def jacquardref2_Check_x5_0 (a2 : Int) (h : AHeap) : St := ⟨[.top, .top, .v (.c (.int .i64 a2)), .top, .top, .top, .top, .top, .top, .top, .top, .top, .top, .top, .top, .top, .top, .top, .top, .top, .top, .top, .top, .top, .top, .top, .top, .top, .top, .top, .top, .top, .top, .top, .top, .top, .top, .top, .top, .top, .top, .top, .top, .top, .top, .top, .top, .top, .top, .top, .top, .top, .top, .top, .top, .top, .top, .top, .top, .top, .top, .top, .top, .top, .top, .top, .top, .top, .top, .top, .top, .top, .top, .top, .top, .top, .top, .top, .top, .top, .top, .top, .top, .top, .top, .top, .top, .top, .top, .top, .top, .top, .top, .top, .top, .top, .top, .top, .top, .top, .top, .top, .top, .top, .top, .top, .top, .top, .top, .top, .top, .top, .top, .top, .top, .top, .top, .top, .top, .top, .top, .top, .top, .top, .top, .top, .top, .top, .top, .top, .top, .top, .top, .top, .top, .top, .top, .top, .top, .top, .top, .top, .top, .top, .top, .top, .top, .top, .top, .top, .top, .top, .top, .top, .top, .top, .top, .top, .top, .top, .top, .top, .top, .top, .top, .top, .top, .top, .top, .top, .top, .top, .top, .top, .top, .top, .top, .top, .top, .top, .top, .top, .top, .top, .top, .top, .top, .top, .top, .top, .top, .top, .top, .top, .top, .top, .top, .top, .top, .top, .top, .top, .top, .top], [none, none], h⟩
def jacquardref2_Check_x5_11 (a9 : Int) (s0 : List Cell) (h : AHeap) : St := ⟨[.top, .loc 0 0, .top, .top, .top, .top, .top, .top, .top, .v (.c (.int .i64 a9)), .top, .top, .top, .top, .top, .top, .top, .top, .top, .top, .top, .top, .top, .top, .top, .top, .top, .top, .top, .top, .top, .top, .top, .top, .top, .top, .top, .top, .top, .top, .top, .top, .top, .top, .top, .top, .top, .top, .top, .top, .top, .top, .top, .top, .top, .top, .top, .top, .top, .top, .top, .top, .top, .top, .top, .top, .top, .top, .top, .top, .top, .top, .top, .top, .top, .top, .top, .top, .top, .top, .top, .top, .top, .top, .top, .top, .top, .top, .top, .top, .top, .top, .top, .top, .top, .top, .top, .top, .top, .top, .top, .top, .top, .top, .top, .top, .top, .top, .top, .top, .top, .top, .top, .top, .top, .top, .top, .top, .top, .top, .top, .top, .top, .top, .top, .top, .top, .top, .top, .top, .top, .top, .top, .top, .top, .top, .top, .top, .top, .top, .top, .top, .top, .top, .top, .top, .top, .top, .top, .top, .top, .top, .top, .top, .top, .top, .top, .top, .top, .top, .top, .top, .top, .top, .top, .top, .top, .top, .top, .top, .top, .top, .top, .top, .top, .top, .top, .top, .top, .top, .top, .top, .top, .top, .top, .top, .top, .top, .top, .top, .top, .top, .top, .top, .top, .top, .top, .top, .top, .top, .top, .top, .top, .top], [some s0, none], h⟩
def jacquardref2_Check_x6_0 (a2 : Int) (h : AHeap) : St := ⟨[.top, .top, .v (.c (.int .i64 a2)), .top, .top, .top, .top, .top, .top, .top, .top, .top, .top, .top, .top, .top, .top, .top, .top, .top, .top, .top, .top, .top, .top, .top, .top, .top, .top, .top, .top, .top, .top, .top, .top, .top, .top, .top, .top, .top, .top, .top, .top, .top, .top, .top, .top, .top, .top, .top, .top, .top, .top, .top, .top, .top, .top, .top, .top, .top, .top, .top, .top, .top, .top, .top, .top, .top, .top, .top, .top, .top, .top, .top, .top, .top, .top, .top, .top, .top, .top, .top, .top, .top, .top, .top, .top, .top, .top, .top, .top, .top, .top, .top, .top, .top, .top, .top, .top, .top, .top, .top, .top, .top, .top, .top, .top, .top, .top, .top, .top, .top, .top, .top, .top, .top, .top, .top, .top, .top, .top, .top, .top, .top, .top, .top, .top, .top, .top, .top, .top, .top, .top, .top, .top, .top, .top, .top, .top, .top, .top, .top, .top, .top, .top, .top, .top, .top, .top, .top, .top, .top, .top, .top, .top, .top, .top, .top, .top, .top, .top, .top, .top, .top, .top, .top, .top, .top, .top, .top, .top, .top, .top, .top, .top, .top, .top, .top, .top, .top, .top, .top, .top, .top, .top, .top, .top, .top, .top, .top, .top, .top, .top, .top, .top, .top, .top, .top, .top, .top, .top, .top, .top, .top], [none, none], h⟩
def jacquardref2_Check_x6_9 (s0 : List Cell) (h : AHeap) : St := ⟨[.top, .loc 0 0, .top, .top, .top, .top, .top, .top, .top, .top, .top, .top, .top, .top, .top, .top, .top, .top, .top, .top, .top, .top, .top, .top, .top, .top, .top, .top, .top, .top, .top, .top, .top, .top, .top, .top, .top, .top, .top, .top, .top, .top, .top, .top, .top, .top, .top, .top, .top, .top, .top, .top, .top, .top, .top, .top, .top, .top, .top, .top, .top, .top, .top, .top, .top, .top, .top, .top, .top, .top, .top, .top, .top, .top, .top, .top, .top, .top, .top, .top, .top, .top, .top, .top, .top, .top, .top, .top, .top, .top, .top, .top, .top, .top, .top, .top, .top, .top, .top, .top, .top, .top, .top, .top, .top, .top, .top, .top, .top, .top, .top, .top, .top, .top, .top, .top, .top, .top, .top, .top, .top, .top, .top, .top, .top, .top, .top, .top, .top, .top, .top, .top, .top, .top, .top, .top, .top, .top, .top, .top, .top, .top, .top, .top, .top, .top, .top, .top, .top, .top, .top, .top, .top, .top, .top, .top, .top, .top, .top, .top, .top, .top, .top, .top, .top, .top, .top, .top, .top, .top, .top, .top, .top, .top, .top, .top, .top, .top, .top, .top, .top, .top, .top, .top, .top, .top, .top, .top, .top, .top, .top, .top, .top, .top, .top, .top, .top, .top, .top, .top, .top, .top, .top, .top], [some s0, none], h⟩
def jacquardref2_Check_k16 (C : CallF) (L : LoopF) (G : Glo) (h0 : AHeap) : Ex → St → Option (List AV × AHeap) :=
  kSeq (fun st => jacquardref2_Check_p7.exec C L G st (jacquardref2_Check.fin G h0)) (jacquardref2_Check.fin G h0)
def jacquardref2_Check_k17 (C : CallF) (L : LoopF) (G : Glo) (h0 : AHeap) : Ex → St → Option (List AV × AHeap) :=
  kBlk 12 (jacquardref2_Check_k16 C L G h0)
def jacquardref2_Check_s8 (a12 : Int) (s0 : List Cell) (h : AHeap) : St := ⟨[.top, .loc 0 0, .top, .top, .top, .top, .top, .top, .top, .top, .top, .top, .v (.c (.int .i64 a12)), .top, .top, .top, .top, .top, .top, .top, .top, .top, .top, .top, .top, .top, .top, .top, .top, .top, .top, .top, .top, .top, .top, .top, .top, .top, .top, .top, .top, .top, .top, .top, .top, .top, .top, .top, .top, .top, .top, .top, .top, .top, .top, .top, .top, .top, .top, .top, .top, .top, .top, .top, .top, .top, .top, .top, .top, .top, .top, .top, .top, .top, .top, .top, .top, .top, .top, .top, .top, .top, .top, .top, .top, .top, .top, .top, .top, .top, .top, .top, .top, .top, .top, .top, .top, .top, .top, .top, .top, .top, .top, .top, .top, .top, .top, .top, .top, .top, .top, .top, .top, .top, .top, .top, .top, .top, .top, .top, .top, .top, .top, .top, .top, .top, .top, .top, .top, .top, .top, .top, .top, .top, .top, .top, .top, .top, .top, .top, .top, .top, .top, .top, .top, .top, .top, .top, .top, .top, .top, .top, .top, .top, .top, .top, .top, .top, .top, .top, .top, .top, .top, .top, .top, .top, .top, .top, .top, .top, .top, .top, .top, .top, .top, .top, .top, .top, .top, .top, .top, .top, .top, .top, .top, .top, .top, .top, .top, .top, .top, .top, .top, .top, .top, .top, .top, .top, .top, .top, .top, .top, .top, .top], [some s0, none], h⟩
def jacquardref2_Check_F8 (C : CallF) (L : LoopF) (G : Glo) : St → Option (Ex × St) :=
  roundF (fun st f => jacquardref2_Check_b8.exec C L G st f) [1, 12] [0] [(0, [2], []), (13, [], [])]
def jacquardref2_Check_k18 (C : CallF) (L : LoopF) (G : Glo) : Ex → St → Option (Ex × St) :=
  kSeq (fun st => jacquardref2_Check_p8.exec C L G st (kLoop [1, 12] [0] [(0, [2], []), (13, [], [])])) (kLoop [1, 12] [0] [(0, [2], []), (13, [], [])])
def jacquardref2_Check_k19 (C : CallF) (L : LoopF) (G : Glo) : Ex → St → Option (Ex × St) :=
  kBlk 13 (jacquardref2_Check_k18 C L G)
def jacquardref2_Check_k20 (C : CallF) (L : LoopF) (G : Glo) : Ex → St → Option (Ex × St) :=
  kBlk 14 (jacquardref2_Check_k19 C L G)
def jacquardref2_Check_s7 (a12 : Int) (a13 : Int) (s0 : List Cell) (h : AHeap) : St := ⟨[.top, .loc 0 0, .top, .top, .top, .top, .top, .top, .top, .top, .top, .top, .v (.c (.int .i64 a12)), .v (.c (.int .i64 a13)), .top, .top, .top, .top, .top, .top, .top, .top, .top, .top, .top, .top, .top, .top, .top, .top, .top, .top, .top, .top, .top, .top, .top, .top, .top, .top, .top, .top, .top, .top, .top, .top, .top, .top, .top, .top, .top, .top, .top, .top, .top, .top, .top, .top, .top, .top, .top, .top, .top, .top, .top, .top, .top, .top, .top, .top, .top, .top, .top, .top, .top, .top, .top, .top, .top, .top, .top, .top, .top, .top, .top, .top, .top, .top, .top, .top, .top, .top, .top, .top, .top, .top, .top, .top, .top, .top, .top, .top, .top, .top, .top, .top, .top, .top, .top, .top, .top, .top, .top, .top, .top, .top, .top, .top, .top, .top, .top, .top, .top, .top, .top, .top, .top, .top, .top, .top, .top, .top, .top, .top, .top, .top, .top, .top, .top, .top, .top, .top, .top, .top, .top, .top, .top, .top, .top, .top, .top, .top, .top, .top, .top, .top, .top, .top, .top, .top, .top, .top, .top, .top, .top, .top, .top, .top, .top, .top, .top, .top, .top, .top, .top, .top, .top, .top, .top, .top, .top, .top, .top, .top, .top, .top, .top, .top, .top, .top, .top, .top, .top, .top, .top, .top, .top, .top, .top, .top, .top, .top, .top, .top], [some s0, none], h⟩
def jacquardref2_Check_F7 (C : CallF) (L : LoopF) (G : Glo) : St → Option (Ex × St) :=
  roundF (fun st f => jacquardref2_Check_b7.exec C L G st f) [1, 12, 13] [0] [(0, [2], []), (15, [1, 12], [0])]
def jacquardref2_Check_x7_0 (a2 : Int) (h : AHeap) : St := ⟨[.top, .top, .v (.c (.int .i64 a2)), .top, .top, .top, .top, .top, .top, .top, .top, .top, .top, .top, .top, .top, .top, .top, .top, .top, .top, .top, .top, .top, .top, .top, .top, .top, .top, .top, .top, .top, .top, .top, .top, .top, .top, .top, .top, .top, .top, .top, .top, .top, .top, .top, .top, .top, .top, .top, .top, .top, .top, .top, .top, .top, .top, .top, .top, .top, .top, .top, .top, .top, .top, .top, .top, .top, .top, .top, .top, .top, .top, .top, .top, .top, .top, .top, .top, .top, .top, .top, .top, .top, .top, .top, .top, .top, .top, .top, .top, .top, .top, .top, .top, .top, .top, .top, .top, .top, .top, .top, .top, .top, .top, .top, .top, .top, .top, .top, .top, .top, .top, .top, .top, .top, .top, .top, .top, .top, .top, .top, .top, .top, .top, .top, .top, .top, .top, .top, .top, .top, .top, .top, .top, .top, .top, .top, .top, .top, .top, .top, .top, .top, .top, .top, .top, .top, .top, .top, .top, .top, .top, .top, .top, .top, .top, .top, .top, .top, .top, .top, .top, .top, .top, .top, .top, .top, .top, .top, .top, .top, .top, .top, .top, .top, .top, .top, .top, .top, .top, .top, .top, .top, .top, .top, .top, .top, .top, .top, .top, .top, .top, .top, .top, .top, .top, .top, .top, .top, .top, .top, .top, .top], [none, none], h⟩
def jacquardref2_Check_x7_15 (a12 : Int) (s0 : List Cell) (h : AHeap) : St := ⟨[.top, .loc 0 0, .top, .top, .top, .top, .top, .top, .top, .top, .top, .top, .v (.c (.int .i64 a12)), .top, .top, .top, .top, .top, .top, .top, .top, .top, .top, .top, .top, .top, .top, .top, .top, .top, .top, .top, .top, .top, .top, .top, .top, .top, .top, .top, .top, .top, .top, .top, .top, .top, .top, .top, .top, .top, .top, .top, .top, .top, .top, .top, .top, .top, .top, .top, .top, .top, .top, .top, .top, .top, .top, .top, .top, .top, .top, .top, .top, .top, .top, .top, .top, .top, .top, .top, .top, .top, .top, .top, .top, .top, .top, .top, .top, .top, .top, .top, .top, .top, .top, .top, .top, .top, .top, .top, .top, .top, .top, .top, .top, .top, .top, .top, .top, .top, .top, .top, .top, .top, .top, .top, .top, .top, .top, .top, .top, .top, .top, .top, .top, .top, .top, .top, .top, .top, .top, .top, .top, .top, .top, .top, .top, .top, .top, .top, .top, .top, .top, .top, .top, .top, .top, .top, .top, .top, .top, .top, .top, .top, .top, .top, .top, .top, .top, .top, .top, .top, .top, .top, .top, .top, .top, .top, .top, .top, .top, .top, .top, .top, .top, .top, .top, .top, .top, .top, .top, .top, .top, .top, .top, .top, .top, .top, .top, .top, .top, .top, .top, .top, .top, .top, .top, .top, .top, .top, .top, .top, .top, .top], [some s0, none], h⟩
def jacquardref2_Check_x8_0 (a2 : Int) (h : AHeap) : St := ⟨[.top, .top, .v (.c (.int .i64 a2)), .top, .top, .top, .top, .top, .top, .top, .top, .top, .top, .top, .top, .top, .top, .top, .top, .top, .top, .top, .top, .top, .top, .top, .top, .top, .top, .top, .top, .top, .top, .top, .top, .top, .top, .top, .top, .top, .top, .top, .top, .top, .top, .top, .top, .top, .top, .top, .top, .top, .top, .top, .top, .top, .top, .top, .top, .top, .top, .top, .top, .top, .top, .top, .top, .top, .top, .top, .top, .top, .top, .top, .top, .top, .top, .top, .top, .top, .top, .top, .top, .top, .top, .top, .top, .top, .top, .top, .top, .top, .top, .top, .top, .top, .top, .top, .top, .top, .top, .top, .top, .top, .top, .top, .top, .top, .top, .top, .top, .top, .top, .top, .top, .top, .top, .top, .top, .top, .top, .top, .top, .top, .top, .top, .top, .top, .top, .top, .top, .top, .top, .top, .top, .top, .top, .top, .top, .top, .top, .top, .top, .top, .top, .top, .top, .top, .top, .top, .top, .top, .top, .top, .top, .top, .top, .top, .top, .top, .top, .top, .top, .top, .top, .top, .top, .top, .top, .top, .top, .top, .top, .top, .top, .top, .top, .top, .top, .top, .top, .top, .top, .top, .top, .top, .top, .top, .top, .top, .top, .top, .top, .top, .top, .top, .top, .top, .top, .top, .top, .top, .top, .top], [none, none], h⟩
def jacquardref2_Check_x8_13 (h : AHeap) : St := ⟨[.top, .top, .top, .top, .top, .top, .top, .top, .top, .top, .top, .top, .top, .top, .top, .top, .top, .top, .top, .top, .top, .top, .top, .top, .top, .top, .top, .top, .top, .top, .top, .top, .top, .top, .top, .top, .top, .top, .top, .top, .top, .top, .top, .top, .top, .top, .top, .top, .top, .top, .top, .top, .top, .top, .top, .top, .top, .top, .top, .top, .top, .top, .top, .top, .top, .top, .top, .top, .top, .top, .top, .top, .top, .top, .top, .top, .top, .top, .top, .top, .top, .top, .top, .top, .top, .top, .top, .top, .top, .top, .top, .top, .top, .top, .top, .top, .top, .top, .top, .top, .top, .top, .top, .top, .top, .top, .top, .top, .top, .top, .top, .top, .top, .top, .top, .top, .top, .top, .top, .top, .top, .top, .top, .top, .top, .top, .top, .top, .top, .top, .top, .top, .top, .top, .top, .top, .top, .top, .top, .top, .top, .top, .top, .top, .top, .top, .top, .top, .top, .top, .top, .top, .top, .top, .top, .top, .top, .top, .top, .top, .top, .top, .top, .top, .top, .top, .top, .top, .top, .top, .top, .top, .top, .top, .top, .top, .top, .top, .top, .top, .top, .top, .top, .top, .top, .top, .top, .top, .top, .top, .top, .top, .top, .top, .top, .top, .top, .top, .top, .top, .top, .top, .top, .top], [none, none], h⟩
theorem jacquardref2_Check_r1 (C : CallF) (L : LoopF) (G : Glo) (a3 : Int) (b4 : Bool) (a5 : Int) (s0 : List Cell) (h : AHeap) :
    jacquardref2_Check_F1 C L G (jacquardref2_Check_s1 a3 b4 a5 s0 h) =
    atK s0 2 fun q_25 => lenK q_25 fun n_26 => scK (decide (a5 < n_26)) true (some ((decide (a5 < 5)), h)) false h fun b_27 h_28 => if b_27 = true then scK b4 false (atK s0 2 fun q_29 => idxSK 1 q_29 a5 fun k_30 N_31 o_32 => rdH h_28 k_30 N_31 fun l_33 => atK l_33 o_32 fun q_34 => lenK q_34 fun n_35 => some ((decide (n_35 > 10)), h_28)) true h_28 fun b_36 h_37 => atK s0 2 fun q_38 => idxSK 1 q_38 a5 fun k_39 N_40 o_41 => rdH h_37 k_39 N_40 fun l_42 => atK l_42 o_41 fun q_43 => lenK q_43 fun n_44 => let v_45 : Int := (G.wrap .i64 (a3 + (if 100 < n_44 then 100 else n_44))); some (.normal, (jacquardref2_Check_s1 v_45 b_36 (G.wrap .i64 (a5 + 1)) s0 h_37)) else some ((.exit 0), (jacquardref2_Check_x1_1 a3 b4 s0 h_28)) := by kernel_rfl
theorem jacquardref2_Check_r2 (C : CallF) (L : LoopF) (G : Glo) (a3 : Int) (b4 : Bool) (a6 : Int) (s0 : List Cell) (h : AHeap) :
    jacquardref2_Check_F2 C L G (jacquardref2_Check_s2 a3 b4 a6 s0 h) =
    atK s0 4 fun q_46 => lenK q_46 fun n_47 => if (decide (a6 < n_47)) = true then scK b4 false (atK s0 4 fun q_48 => idxSK 1 q_48 a6 fun k_49 N_50 o_51 => rdH h k_49 N_50 fun l_52 => atK l_52 o_51 fun q_53 => lenK q_53 fun n_54 => some ((decide (n_54 > 8)), h)) true h fun b_55 h_56 => some (.normal, (jacquardref2_Check_s2 a3 b_55 (G.wrap .i64 (a6 + 1)) s0 h_56)) else some ((.exit 2), (jacquardref2_Check_x2_3 a3 b4 s0 h)) := by kernel_rfl
theorem jacquardref2_Check_r3 (C : CallF) (L : LoopF) (G : Glo) (a7 : Int) (a8 : Int) (s0 : List Cell) (h : AHeap) :
    jacquardref2_Check_F3 C L G (jacquardref2_Check_s3 a7 a8 s0 h) =
    if (decide (a8 < a7)) = true then atK s0 1 fun q_61 => idxSK 2 q_61 a7 fun k_62 N_63 o_64 => rdH h k_62 N_63 fun l_65 => atK l_65 (o_64 + 0) fun q_66 => asI .i64 (.c q_66) fun n_67 => atK s0 1 fun q_68 => idxSK 2 q_68 a8 fun k_69 N_70 o_71 => rdH h k_69 N_70 fun l_72 => atK l_72 (o_71 + 0) fun q_73 => asI .i64 (.c q_73) fun n_74 => if (n_67 == n_74) = true then some (.ret, (jacquardref2_Check_x3_0 9 h)) else some (.normal, (jacquardref2_Check_s3 a7 (G.wrap .i64 (a8 + 1)) s0 h)) else some ((.exit 6), (jacquardref2_Check_x3_7 a7 s0 h)) := by kernel_rfl
theorem jacquardref2_Check_e3_0 (C : CallF) (L : LoopF) (G : Glo) (a2 : Int) (h : AHeap) :
    (jacquardref2_Check_k10 C L G) .ret (jacquardref2_Check_x3_0 a2 h) =
    some (.ret, (jacquardref2_Check_x4_0 a2 h)) := by kernel_rfl
theorem jacquardref2_Check_e3_7 (C : CallF) (L : LoopF) (G : Glo) (a7 : Int) (s0 : List Cell) (h : AHeap) :
    (jacquardref2_Check_k10 C L G) (.exit 6) (jacquardref2_Check_x3_7 a7 s0 h) =
    some (.normal, (jacquardref2_Check_s4 (G.wrap .i64 (a7 + 1)) s0 h)) := by kernel_rfl
theorem jacquardref2_Check_r4 (C : CallF) (L : LoopF) (G : Glo) (a7 : Int) (s0 : List Cell) (h : AHeap) :
    jacquardref2_Check_F4 C L G (jacquardref2_Check_s4 a7 s0 h) =
    atK s0 1 fun q_59 => lenK q_59 fun n_60 => if (decide (a7 < n_60)) = true then (L (jacquardref2_Check_F3 C L G) (jacquardref2_Check_s3 a7 0 s0 h)).bind fun p_75 => (jacquardref2_Check_k10 C L G) p_75.1 p_75.2 else some ((.exit 4), (jacquardref2_Check_x4_5 s0 h)) := by kernel_rfl
theorem jacquardref2_Check_e4_0 (C : CallF) (L : LoopF) (G : Glo) (h0 : AHeap) (a2 : Int) (h : AHeap) :
    (jacquardref2_Check_k7 C L G h0) .ret (jacquardref2_Check_x4_0 a2 h) =
    some ([(.c (.int .i64 a2))], h) := by kernel_rfl
theorem jacquardref2_Check_r5 (C : CallF) (L : LoopF) (G : Glo) (a9 : Int) (a10 : Int) (s0 : List Cell) (h : AHeap) :
    jacquardref2_Check_F5 C L G (jacquardref2_Check_s5 a9 a10 s0 h) =
    atK s0 2 fun q_78 => idxSK 1 q_78 a9 fun k_79 N_80 o_81 => rdH h k_79 N_80 fun l_82 => atK l_82 o_81 fun q_83 => lenK q_83 fun n_84 => if (decide (a10 < n_84)) = true then atK s0 2 fun q_85 => idxSK 1 q_85 a9 fun k_86 N_87 o_88 => rdH h k_86 N_87 fun l_89 => atK l_89 o_88 fun q_90 => idxSK 9 q_90 a10 fun k_91 N_92 o_93 => rdH h k_91 N_92 fun l_94 => if o_93 + 9 ≤ l_94.length then if 0 = 0 ∧ (List.replicate 9 (Cell.int .i64 0)).length = 9 ∧ ((l_94.drop o_93).take 9).length = 9 then atK ((l_94.drop o_93).take 9) 0 fun q_95 => asI .i64 (.c q_95) fun n_96 => scK (n_96 == 6) true (atK ((l_94.drop o_93).take 9) 8 fun q_97 => asI .i64 (.c q_97) fun n_98 => scK (n_98 == 0) false (atK ((l_94.drop o_93).take 9) 8 fun q_99 => asI .i64 (.c q_99) fun n_100 => atK s0 2 fun q_101 => idxSK 1 q_101 a9 fun k_102 N_103 o_104 => rdH h k_102 N_103 fun l_105 => atK l_105 o_104 fun q_106 => lenK q_106 fun n_107 => some ((decide (n_100 ≥ (G.wrap .i64 (n_107 - a10)))), h)) true h fun b_108 h_109 => some (b_108, h_109)) false h fun b_110 h_111 => if b_110 = true then some (.ret, (jacquardref2_Check_x5_0 10 h_111)) else some (.normal, (jacquardref2_Check_s5 a9 (G.wrap .i64 (a10 + 1)) s0 h_111)) else none else none else some ((.exit 10), (jacquardref2_Check_x5_11 a9 s0 h)) := by kernel_rfl
theorem jacquardref2_Check_e5_0 (C : CallF) (L : LoopF) (G : Glo) (a2 : Int) (h : AHeap) :
    (jacquardref2_Check_k15 C L G) .ret (jacquardref2_Check_x5_0 a2 h) =
    some (.ret, (jacquardref2_Check_x6_0 a2 h)) := by kernel_rfl
theorem jacquardref2_Check_e5_11 (C : CallF) (L : LoopF) (G : Glo) (a9 : Int) (s0 : List Cell) (h : AHeap) :
    (jacquardref2_Check_k15 C L G) (.exit 10) (jacquardref2_Check_x5_11 a9 s0 h) =
    some (.normal, (jacquardref2_Check_s6 (G.wrap .i64 (a9 + 1)) s0 h)) := by kernel_rfl
theorem jacquardref2_Check_r6 (C : CallF) (L : LoopF) (G : Glo) (a9 : Int) (s0 : List Cell) (h : AHeap) :
    jacquardref2_Check_F6 C L G (jacquardref2_Check_s6 a9 s0 h) =
    atK s0 2 fun q_76 => lenK q_76 fun n_77 => if (decide (a9 < n_77)) = true then (L (jacquardref2_Check_F5 C L G) (jacquardref2_Check_s5 a9 0 s0 h)).bind fun p_112 => (jacquardref2_Check_k15 C L G) p_112.1 p_112.2 else some ((.exit 8), (jacquardref2_Check_x6_9 s0 h)) := by kernel_rfl
theorem jacquardref2_Check_e6_0 (C : CallF) (L : LoopF) (G : Glo) (h0 : AHeap) (a2 : Int) (h : AHeap) :
    (jacquardref2_Check_k12 C L G h0) .ret (jacquardref2_Check_x6_0 a2 h) =
    some ([(.c (.int .i64 a2))], h) := by kernel_rfl
theorem jacquardref2_Check_r7 (C : CallF) (L : LoopF) (G : Glo) (a12 : Int) (a13 : Int) (s0 : List Cell) (h : AHeap) :
    jacquardref2_Check_F7 C L G (jacquardref2_Check_s7 a12 a13 s0 h) =
    atK s0 4 fun q_115 => idxSK 1 q_115 a12 fun k_116 N_117 o_118 => rdH h k_116 N_117 fun l_119 => atK l_119 o_118 fun q_120 => lenK q_120 fun n_121 => if (decide (a13 < n_121)) = true then atK s0 4 fun q_122 => idxSK 1 q_122 a12 fun k_123 N_124 o_125 => rdH h k_123 N_124 fun l_126 => atK l_126 o_125 fun q_127 => idxSK 4 q_127 a13 fun k_128 N_129 o_130 => rdH h k_128 N_129 fun l_131 => atK l_131 (o_130 + 0) fun q_132 => asI .i64 (.c q_132) fun n_133 => atK s0 2 fun q_134 => lenK q_134 fun n_135 => if (decide (n_133 ≥ n_135)) = true then some (.ret, (jacquardref2_Check_x7_0 10 h)) else some (.normal, (jacquardref2_Check_s7 a12 (G.wrap .i64 (a13 + 1)) s0 h)) else some ((.exit 14), (jacquardref2_Check_x7_15 a12 s0 h)) := by kernel_rfl
theorem jacquardref2_Check_e7_0 (C : CallF) (L : LoopF) (G : Glo) (a2 : Int) (h : AHeap) :
    (jacquardref2_Check_k20 C L G) .ret (jacquardref2_Check_x7_0 a2 h) =
    some (.ret, (jacquardref2_Check_x8_0 a2 h)) := by kernel_rfl
theorem jacquardref2_Check_e7_15 (C : CallF) (L : LoopF) (G : Glo) (a12 : Int) (s0 : List Cell) (h : AHeap) :
    (jacquardref2_Check_k20 C L G) (.exit 14) (jacquardref2_Check_x7_15 a12 s0 h) =
    some (.normal, (jacquardref2_Check_s8 (G.wrap .i64 (a12 + 1)) s0 h)) := by kernel_rfl
theorem jacquardref2_Check_r8 (C : CallF) (L : LoopF) (G : Glo) (a12 : Int) (s0 : List Cell) (h : AHeap) :
    jacquardref2_Check_F8 C L G (jacquardref2_Check_s8 a12 s0 h) =
    atK s0 4 fun q_113 => lenK q_113 fun n_114 => if (decide (a12 < n_114)) = true then (L (jacquardref2_Check_F7 C L G) (jacquardref2_Check_s7 a12 0 s0 h)).bind fun p_136 => (jacquardref2_Check_k20 C L G) p_136.1 p_136.2 else some ((.exit 12), (jacquardref2_Check_x8_13 h)) := by kernel_rfl
theorem jacquardref2_Check_e8_0 (C : CallF) (L : LoopF) (G : Glo) (h0 : AHeap) (a2 : Int) (h : AHeap) :
    (jacquardref2_Check_k17 C L G h0) .ret (jacquardref2_Check_x8_0 a2 h) =
    some ([(.c (.int .i64 a2))], h) := by kernel_rfl
theorem jacquardref2_Check_e8_13 (C : CallF) (L : LoopF) (G : Glo) (h0 : AHeap) (h : AHeap) :
    (jacquardref2_Check_k17 C L G h0) (.exit 12) (jacquardref2_Check_x8_13 h) =
    some ([(.c (.int .i64 0))], h) := by kernel_rfl
theorem jacquardref2_Check_e6_9 (C : CallF) (L : LoopF) (G : Glo) (h0 : AHeap) (s0 : List Cell) (h : AHeap) :
    (jacquardref2_Check_k12 C L G h0) (.exit 8) (jacquardref2_Check_x6_9 s0 h) =
    (L (jacquardref2_Check_F8 C L G) (jacquardref2_Check_s8 0 s0 h)).bind fun p_137 => (jacquardref2_Check_k17 C L G h0) p_137.1 p_137.2 := by kernel_rfl
theorem jacquardref2_Check_e4_5 (C : CallF) (L : LoopF) (G : Glo) (h0 : AHeap) (s0 : List Cell) (h : AHeap) :
    (jacquardref2_Check_k7 C L G h0) (.exit 4) (jacquardref2_Check_x4_5 s0 h) =
    (L (jacquardref2_Check_F6 C L G) (jacquardref2_Check_s6 0 s0 h)).bind fun p_138 => (jacquardref2_Check_k12 C L G h0) p_138.1 p_138.2 := by kernel_rfl
theorem jacquardref2_Check_e2_3 (C : CallF) (L : LoopF) (G : Glo) (h0 : AHeap) (a3 : Int) (b4 : Bool) (s0 : List Cell) (h : AHeap) :
    (jacquardref2_Check_k5 C L G h0) (.exit 2) (jacquardref2_Check_x2_3 a3 b4 s0 h) =
    scK b4 false (some ((decide (a3 > 24)), h)) true h fun b_57 h_58 => if b_57 = true then some ([(.c (.int .i64 8))], h_58) else (L (jacquardref2_Check_F4 C L G) (jacquardref2_Check_s4 0 s0 h_58)).bind fun p_139 => (jacquardref2_Check_k7 C L G h0) p_139.1 p_139.2 := by kernel_rfl
theorem jacquardref2_Check_e1_1 (C : CallF) (L : LoopF) (G : Glo) (h0 : AHeap) (a3 : Int) (b4 : Bool) (s0 : List Cell) (h : AHeap) :
    (jacquardref2_Check_k3 C L G h0) (.exit 0) (jacquardref2_Check_x1_1 a3 b4 s0 h) =
    (L (jacquardref2_Check_F2 C L G) (jacquardref2_Check_s2 a3 b4 0 s0 h)).bind fun p_140 => (jacquardref2_Check_k5 C L G h0) p_140.1 p_140.2 := by kernel_rfl
set_option maxRecDepth 100000 in
theorem jacquardref2_Check_eq (C : CallF) (L : LoopF) (G : Glo) (l0 : List Cell) (h0 : AHeap) :
    jacquardref2_Check.body C L G [(.agg l0)] h0 =
    if 0 = 0 ∧ l0.length = 5 then c1 (C 120 [(.agg l0)] h0) fun y_2 h_1 => asB y_2 fun b_3 => if (!b_3) = true then some ([(.c (.int .i64 1))], h_1) else atK l0 2 fun q_4 => lenK q_4 fun n_5 => scK (decide (n_5 < 1)) false (atK l0 2 fun q_6 => lenK q_6 fun n_7 => some ((decide (n_7 > 4)), h_1)) true h_1 fun b_8 h_9 => scK b_8 false (atK l0 0 fun q_10 => asS (.c q_10) fun z_11 => lenSK (.str z_11) fun n_12 => some ((decide (n_12 > 20)), h_9)) true h_9 fun b_13 h_14 => scK b_13 false (atK l0 4 fun q_15 => lenK q_15 fun n_16 => some ((decide (n_16 > 8)), h_14)) true h_14 fun b_17 h_18 => scK b_17 false (if 0 = 0 ∧ l0.length = 5 then c1 (C 121 [(.agg l0)] h_18) fun y_20 h_19 => asC y_20 fun x_21 => lenK x_21 fun n_22 => some ((decide (n_22 > 4)), h_19) else none) true h_18 fun b_23 h_24 => (L (jacquardref2_Check_F1 C L G) (jacquardref2_Check_s1 0 b_23 0 l0 h_24)).bind fun p_141 => (jacquardref2_Check_k3 C L G h0) p_141.1 p_141.2 else none := by kernel_rfl

/- jacquard/jacquardref2.TestOk: 120 -/
def jacquardref2_TestOk_k2 (C : CallF) (L : LoopF) (G : Glo) (h0 : AHeap) : Ex → St → Option (List AV × AHeap) :=
  kSeq (fun st => jacquardref2_TestOk_p1.exec C L G st (jacquardref2_TestOk.fin G h0)) (jacquardref2_TestOk.fin G h0)
def jacquardref2_TestOk_k3 (C : CallF) (L : LoopF) (G : Glo) (h0 : AHeap) : Ex → St → Option (List AV × AHeap) :=
  kBlk 0 (jacquardref2_TestOk_k2 C L G h0)
def jacquardref2_TestOk_s1 (a3 : Int) (s0 : List Cell) (h : AHeap) : St := ⟨[.top, .loc 0 0, .top, .v (.c (.int .i64 a3)), .top, .top, .top, .top, .top, .top, .top, .top, .top, .top, .top, .top, .top, .top, .top, .top, .top, .top, .top, .top, .top, .top, .top, .top, .top, .top, .top, .top, .top, .top, .top, .top, .top, .top, .top, .top, .top, .top, .top, .top, .top, .top, .top, .top, .top, .top, .top, .top, .top, .top, .top, .top, .top, .top], [some s0], h⟩
def jacquardref2_TestOk_F1 (C : CallF) (L : LoopF) (G : Glo) : St → Option (Ex × St) :=
  roundF (fun st f => jacquardref2_TestOk_b1.exec C L G st f) [1, 3] [0] [(0, [2], []), (1, [1], [0])]
def jacquardref2_TestOk_x1_0 (b2 : Bool) (h : AHeap) : St := ⟨[.top, .top, .v (.c (.bool b2)), .top, .top, .top, .top, .top, .top, .top, .top, .top, .top, .top, .top, .top, .top, .top, .top, .top, .top, .top, .top, .top, .top, .top, .top, .top, .top, .top, .top, .top, .top, .top, .top, .top, .top, .top, .top, .top, .top, .top, .top, .top, .top, .top, .top, .top, .top, .top, .top, .top, .top, .top, .top, .top, .top, .top], [none], h⟩
def jacquardref2_TestOk_x1_1 (s0 : List Cell) (h : AHeap) : St := ⟨[.top, .loc 0 0, .top, .top, .top, .top, .top, .top, .top, .top, .top, .top, .top, .top, .top, .top, .top, .top, .top, .top, .top, .top, .top, .top, .top, .top, .top, .top, .top, .top, .top, .top, .top, .top, .top, .top, .top, .top, .top, .top, .top, .top, .top, .top, .top, .top, .top, .top, .top, .top, .top, .top, .top, .top, .top, .top, .top, .top], [some s0], h⟩
def jacquardref2_TestOk_k4 (C : CallF) (L : LoopF) (G : Glo) (h0 : AHeap) : Ex → St → Option (List AV × AHeap) :=
  kSeq (fun st => jacquardref2_TestOk_p2.exec C L G st (jacquardref2_TestOk.fin G h0)) (jacquardref2_TestOk.fin G h0)
def jacquardref2_TestOk_k5 (C : CallF) (L : LoopF) (G : Glo) (h0 : AHeap) : Ex → St → Option (List AV × AHeap) :=
  kBlk 2 (jacquardref2_TestOk_k4 C L G h0)
def jacquardref2_TestOk_s3 (a4 : Int) (s0 : List Cell) (h : AHeap) : St := ⟨[.top, .loc 0 0, .top, .top, .v (.c (.int .i64 a4)), .top, .top, .top, .top, .top, .top, .top, .top, .top, .top, .top, .top, .top, .top, .top, .top, .top, .top, .top, .top, .top, .top, .top, .top, .top, .top, .top, .top, .top, .top, .top, .top, .top, .top, .top, .top, .top, .top, .top, .top, .top, .top, .top, .top, .top, .top, .top, .top, .top, .top, .top, .top, .top], [some s0], h⟩
def jacquardref2_TestOk_F3 (C : CallF) (L : LoopF) (G : Glo) : St → Option (Ex × St) :=
  roundF (fun st f => jacquardref2_TestOk_b3.exec C L G st f) [1, 4] [0] [(0, [2], []), (3, [], [])]
def jacquardref2_TestOk_k6 (C : CallF) (L : LoopF) (G : Glo) : Ex → St → Option (Ex × St) :=
  kSeq (fun st => jacquardref2_TestOk_p3.exec C L G st (kLoop [1, 4] [0] [(0, [2], []), (3, [], [])])) (kLoop [1, 4] [0] [(0, [2], []), (3, [], [])])
def jacquardref2_TestOk_k7 (C : CallF) (L : LoopF) (G : Glo) : Ex → St → Option (Ex × St) :=
  kBlk 3 (jacquardref2_TestOk_k6 C L G)
def jacquardref2_TestOk_k8 (C : CallF) (L : LoopF) (G : Glo) : Ex → St → Option (Ex × St) :=
  kBlk 4 (jacquardref2_TestOk_k7 C L G)
def jacquardref2_TestOk_s2 (a4 : Int) (a5 : Int) (s0 : List Cell) (h : AHeap) : St := ⟨[.top, .loc 0 0, .top, .top, .v (.c (.int .i64 a4)), .v (.c (.int .i64 a5)), .top, .top, .top, .top, .top, .top, .top, .top, .top, .top, .top, .top, .top, .top, .top, .top, .top, .top, .top, .top, .top, .top, .top, .top, .top, .top, .top, .top, .top, .top, .top, .top, .top, .top, .top, .top, .top, .top, .top, .top, .top, .top, .top, .top, .top, .top, .top, .top, .top, .top, .top, .top], [some s0], h⟩
def jacquardref2_TestOk_F2 (C : CallF) (L : LoopF) (G : Glo) : St → Option (Ex × St) :=
  roundF (fun st f => jacquardref2_TestOk_b2.exec C L G st f) [1, 4, 5] [0] [(0, [2], []), (5, [1, 4], [0])]
def jacquardref2_TestOk_x2_0 (b2 : Bool) (h : AHeap) : St := ⟨[.top, .top, .v (.c (.bool b2)), .top, .top, .top, .top, .top, .top, .top, .top, .top, .top, .top, .top, .top, .top, .top, .top, .top, .top, .top, .top, .top, .top, .top, .top, .top, .top, .top, .top, .top, .top, .top, .top, .top, .top, .top, .top, .top, .top, .top, .top, .top, .top, .top, .top, .top, .top, .top, .top, .top, .top, .top, .top, .top, .top, .top], [none], h⟩
def jacquardref2_TestOk_x2_5 (a4 : Int) (s0 : List Cell) (h : AHeap) : St := ⟨[.top, .loc 0 0, .top, .top, .v (.c (.int .i64 a4)), .top, .top, .top, .top, .top, .top, .top, .top, .top, .top, .top, .top, .top, .top, .top, .top, .top, .top, .top, .top, .top, .top, .top, .top, .top, .top, .top, .top, .top, .top, .top, .top, .top, .top, .top, .top, .top, .top, .top, .top, .top, .top, .top, .top, .top, .top, .top, .top, .top, .top, .top, .top, .top], [some s0], h⟩
def jacquardref2_TestOk_x3_0 (b2 : Bool) (h : AHeap) : St := ⟨[.top, .top, .v (.c (.bool b2)), .top, .top, .top, .top, .top, .top, .top, .top, .top, .top, .top, .top, .top, .top, .top, .top, .top, .top, .top, .top, .top, .top, .top, .top, .top, .top, .top, .top, .top, .top, .top, .top, .top, .top, .top, .top, .top, .top, .top, .top, .top, .top, .top, .top, .top, .top, .top, .top, .top, .top, .top, .top, .top, .top, .top], [none], h⟩
def jacquardref2_TestOk_x3_3 (h : AHeap) : St := ⟨[.top, .top, .top, .top, .top, .top, .top, .top, .top, .top, .top, .top, .top, .top, .top, .top, .top, .top, .top, .top, .top, .top, .top, .top, .top, .top, .top, .top, .top, .top, .top, .top, .top, .top, .top, .top, .top, .top, .top, .top, .top, .top, .top, .top, .top, .top, .top, .top, .top, .top, .top, .top, .top, .top, .top, .top, .top, .top], [none], h⟩
theorem jacquardref2_TestOk_r1 (C : CallF) (L : LoopF) (G : Glo) (a3 : Int) (s0 : List Cell) (h : AHeap) :
    jacquardref2_TestOk_F1 C L G (jacquardref2_TestOk_s1 a3 s0 h) =
    atK s0 1 fun q_11 => lenK q_11 fun n_12 => if (decide (a3 < n_12)) = true then atK s0 1 fun q_13 => idxSK 2 q_13 a3 fun k_14 N_15 o_16 => rdH h k_14 N_15 fun l_17 => atK l_17 (o_16 + 0) fun q_18 => asI .i64 (.c q_18) fun n_19 => c1 (C 137 [(.c (.int .i64 n_19))] h) fun y_21 h_20 => asB y_21 fun b_22 => if (!b_22) = true then some (.ret, (jacquardref2_TestOk_x1_0 false h_20)) else some (.normal, (jacquardref2_TestOk_s1 (G.wrap .i64 (a3 + 1)) s0 h_20)) else some ((.exit 0), (jacquardref2_TestOk_x1_1 s0 h)) := by kernel_rfl
theorem jacquardref2_TestOk_e1_0 (C : CallF) (L : LoopF) (G : Glo) (h0 : AHeap) (b2 : Bool) (h : AHeap) :
    (jacquardref2_TestOk_k3 C L G h0) .ret (jacquardref2_TestOk_x1_0 b2 h) =
    some ([(.c (.bool b2))], h) := by kernel_rfl
theorem jacquardref2_TestOk_r2 (C : CallF) (L : LoopF) (G : Glo) (a4 : Int) (a5 : Int) (s0 : List Cell) (h : AHeap) :
    jacquardref2_TestOk_F2 C L G (jacquardref2_TestOk_s2 a4 a5 s0 h) =
    atK s0 2 fun q_25 => idxSK 1 q_25 a4 fun k_26 N_27 o_28 => rdH h k_26 N_27 fun l_29 => atK l_29 o_28 fun q_30 => lenK q_30 fun n_31 => if (decide (a5 < n_31)) = true then atK s0 2 fun q_32 => idxSK 1 q_32 a4 fun k_33 N_34 o_35 => rdH h k_33 N_34 fun l_36 => atK l_36 o_35 fun q_37 => idxSK 9 q_37 a5 fun k_38 N_39 o_40 => rdH h k_38 N_39 fun l_41 => if o_40 + 9 ≤ l_41.length then c1 (C 138 [(.agg ((l_41.drop o_40).take 9))] h) fun y_43 h_42 => asB y_43 fun b_44 => if (!b_44) = true then some (.ret, (jacquardref2_TestOk_x2_0 false h_42)) else some (.normal, (jacquardref2_TestOk_s2 a4 (G.wrap .i64 (a5 + 1)) s0 h_42)) else none else some ((.exit 4), (jacquardref2_TestOk_x2_5 a4 s0 h)) := by kernel_rfl
theorem jacquardref2_TestOk_e2_0 (C : CallF) (L : LoopF) (G : Glo) (b2 : Bool) (h : AHeap) :
    (jacquardref2_TestOk_k8 C L G) .ret (jacquardref2_TestOk_x2_0 b2 h) =
    some (.ret, (jacquardref2_TestOk_x3_0 b2 h)) := by kernel_rfl
theorem jacquardref2_TestOk_e2_5 (C : CallF) (L : LoopF) (G : Glo) (a4 : Int) (s0 : List Cell) (h : AHeap) :
    (jacquardref2_TestOk_k8 C L G) (.exit 4) (jacquardref2_TestOk_x2_5 a4 s0 h) =
    some (.normal, (jacquardref2_TestOk_s3 (G.wrap .i64 (a4 + 1)) s0 h)) := by kernel_rfl
theorem jacquardref2_TestOk_r3 (C : CallF) (L : LoopF) (G : Glo) (a4 : Int) (s0 : List Cell) (h : AHeap) :
    jacquardref2_TestOk_F3 C L G (jacquardref2_TestOk_s3 a4 s0 h) =
    atK s0 2 fun q_23 => lenK q_23 fun n_24 => if (decide (a4 < n_24)) = true then (L (jacquardref2_TestOk_F2 C L G) (jacquardref2_TestOk_s2 a4 0 s0 h)).bind fun p_45 => (jacquardref2_TestOk_k8 C L G) p_45.1 p_45.2 else some ((.exit 2), (jacquardref2_TestOk_x3_3 h)) := by kernel_rfl
theorem jacquardref2_TestOk_e3_0 (C : CallF) (L : LoopF) (G : Glo) (h0 : AHeap) (b2 : Bool) (h : AHeap) :
    (jacquardref2_TestOk_k5 C L G h0) .ret (jacquardref2_TestOk_x3_0 b2 h) =
    some ([(.c (.bool b2))], h) := by kernel_rfl
theorem jacquardref2_TestOk_e3_3 (C : CallF) (L : LoopF) (G : Glo) (h0 : AHeap) (h : AHeap) :
    (jacquardref2_TestOk_k5 C L G h0) (.exit 2) (jacquardref2_TestOk_x3_3 h) =
    some ([(.c (.bool true))], h) := by kernel_rfl
theorem jacquardref2_TestOk_e1_1 (C : CallF) (L : LoopF) (G : Glo) (h0 : AHeap) (s0 : List Cell) (h : AHeap) :
    (jacquardref2_TestOk_k3 C L G h0) (.exit 0) (jacquardref2_TestOk_x1_1 s0 h) =
    (L (jacquardref2_TestOk_F3 C L G) (jacquardref2_TestOk_s3 0 s0 h)).bind fun p_46 => (jacquardref2_TestOk_k5 C L G h0) p_46.1 p_46.2 := by kernel_rfl
set_option maxRecDepth 100000 in
theorem jacquardref2_TestOk_eq (C : CallF) (L : LoopF) (G : Glo) (l0 : List Cell) (h0 : AHeap) :
    jacquardref2_TestOk.body C L G [(.agg l0)] h0 =
    atK l0 0 fun q_1 => asS (.c q_1) fun z_2 => c1 (C 135 [(.c (.str z_2))] h0) fun y_4 h_3 => asB y_4 fun b_5 => scK (!b_5) false (if 3 + 2 ≤ l0.length then c1 (C 136 [(.agg ((l0.drop 3).take 2))] h_3) fun y_7 h_6 => asB y_7 fun b_8 => some ((!b_8), h_6) else none) true h_3 fun b_9 h_10 => if b_9 = true then some ([(.c (.bool false))], h_10) else (L (jacquardref2_TestOk_F1 C L G) (jacquardref2_TestOk_s1 0 l0 h_10)).bind fun p_47 => (jacquardref2_TestOk_k3 C L G h0) p_47.1 p_47.2 := by kernel_rfl

/- jacquard/jacquardref2.Locs: 121 -/
def jacquardref2_Locs_k2 (C : CallF) (L : LoopF) (G : Glo) (h0 : AHeap) : Ex → St → Option (List AV × AHeap) :=
  kSeq (fun st => jacquardref2_Locs_p1.exec C L G st (jacquardref2_Locs.fin G h0)) (jacquardref2_Locs.fin G h0)
def jacquardref2_Locs_k3 (C : CallF) (L : LoopF) (G : Glo) (h0 : AHeap) : Ex → St → Option (List AV × AHeap) :=
  kBlk 0 (jacquardref2_Locs_k2 C L G h0)
def jacquardref2_Locs_s1 (a4 : Int) (s0 : List Cell) (s1 : List Cell) (h : AHeap) : St := ⟨[.top, .loc 0 0, .top, .loc 1 0, .v (.c (.int .i64 a4)), .top, .top, .top, .top, .top, .top, .top, .top, .top, .top, .top, .top, .top, .top, .top, .top, .top, .top, .top, .top, .top, .top, .top, .top, .top, .top, .top, .top, .top, .top, .top, .top, .top, .top, .top, .top, .top, .top, .top, .top, .top, .top, .top, .top, .top, .top, .top, .top, .top, .top, .top, .top, .top, .top, .top, .top, .top, .top, .top, .top, .top, .top, .top, .top, .top, .top, .top, .top, .top, .top, .top, .top, .top, .top, .top, .top, .top, .top, .top, .top, .top, .top, .top, .top, .top, .top, .top, .top, .top, .top, .top, .top, .top], [some s0, some s1], h⟩
def jacquardref2_Locs_F1 (C : CallF) (L : LoopF) (G : Glo) : St → Option (Ex × St) :=
  roundF (fun st f => jacquardref2_Locs_b1.exec C L G st f) [1, 3, 4] [0, 1] [(1, [1, 3], [0, 1])]
def jacquardref2_Locs_x1_1 (s0 : List Cell) (s1 : List Cell) (h : AHeap) : St := ⟨[.top, .loc 0 0, .top, .loc 1 0, .top, .top, .top, .top, .top, .top, .top, .top, .top, .top, .top, .top, .top, .top, .top, .top, .top, .top, .top, .top, .top, .top, .top, .top, .top, .top, .top, .top, .top, .top, .top, .top, .top, .top, .top, .top, .top, .top, .top, .top, .top, .top, .top, .top, .top, .top, .top, .top, .top, .top, .top, .top, .top, .top, .top, .top, .top, .top, .top, .top, .top, .top, .top, .top, .top, .top, .top, .top, .top, .top, .top, .top, .top, .top, .top, .top, .top, .top, .top, .top, .top, .top, .top, .top, .top, .top, .top, .top, .top, .top, .top, .top, .top, .top], [some s0, some s1], h⟩
def jacquardref2_Locs_k4 (C : CallF) (L : LoopF) (G : Glo) (h0 : AHeap) : Ex → St → Option (List AV × AHeap) :=
  kSeq (fun st => jacquardref2_Locs_p2.exec C L G st (jacquardref2_Locs.fin G h0)) (jacquardref2_Locs.fin G h0)
def jacquardref2_Locs_k5 (C : CallF) (L : LoopF) (G : Glo) (h0 : AHeap) : Ex → St → Option (List AV × AHeap) :=
  kBlk 2 (jacquardref2_Locs_k4 C L G h0)
def jacquardref2_Locs_s3 (a5 : Int) (s0 : List Cell) (s1 : List Cell) (h : AHeap) : St := ⟨[.top, .loc 0 0, .top, .loc 1 0, .top, .v (.c (.int .i64 a5)), .top, .top, .top, .top, .top, .top, .top, .top, .top, .top, .top, .top, .top, .top, .top, .top, .top, .top, .top, .top, .top, .top, .top, .top, .top, .top, .top, .top, .top, .top, .top, .top, .top, .top, .top, .top, .top, .top, .top, .top, .top, .top, .top, .top, .top, .top, .top, .top, .top, .top, .top, .top, .top, .top, .top, .top, .top, .top, .top, .top, .top, .top, .top, .top, .top, .top, .top, .top, .top, .top, .top, .top, .top, .top, .top, .top, .top, .top, .top, .top, .top, .top, .top, .top, .top, .top, .top, .top, .top, .top, .top, .top], [some s0, some s1], h⟩
def jacquardref2_Locs_F3 (C : CallF) (L : LoopF) (G : Glo) : St → Option (Ex × St) :=
  roundF (fun st f => jacquardref2_Locs_b3.exec C L G st f) [1, 3, 5] [0, 1] [(3, [1, 3], [0, 1])]
def jacquardref2_Locs_k6 (C : CallF) (L : LoopF) (G : Glo) : Ex → St → Option (Ex × St) :=
  kSeq (fun st => jacquardref2_Locs_p3.exec C L G st (kLoop [1, 3, 5] [0, 1] [(3, [1, 3], [0, 1])])) (kLoop [1, 3, 5] [0, 1] [(3, [1, 3], [0, 1])])
def jacquardref2_Locs_k7 (C : CallF) (L : LoopF) (G : Glo) : Ex → St → Option (Ex × St) :=
  kBlk 3 (jacquardref2_Locs_k6 C L G)
def jacquardref2_Locs_k8 (C : CallF) (L : LoopF) (G : Glo) : Ex → St → Option (Ex × St) :=
  kBlk 4 (jacquardref2_Locs_k7 C L G)
def jacquardref2_Locs_s2 (a5 : Int) (a6 : Int) (s0 : List Cell) (s1 : List Cell) (h : AHeap) : St := ⟨[.top, .loc 0 0, .top, .loc 1 0, .top, .v (.c (.int .i64 a5)), .v (.c (.int .i64 a6)), .top, .top, .top, .top, .top, .top, .top, .top, .top, .top, .top, .top, .top, .top, .top, .top, .top, .top, .top, .top, .top, .top, .top, .top, .top, .top, .top, .top, .top, .top, .top, .top, .top, .top, .top, .top, .top, .top, .top, .top, .top, .top, .top, .top, .top, .top, .top, .top, .top, .top, .top, .top, .top, .top, .top, .top, .top, .top, .top, .top, .top, .top, .top, .top, .top, .top, .top, .top, .top, .top, .top, .top, .top, .top, .top, .top, .top, .top, .top, .top, .top, .top, .top, .top, .top, .top, .top, .top, .top, .top, .top], [some s0, some s1], h⟩
def jacquardref2_Locs_F2 (C : CallF) (L : LoopF) (G : Glo) : St → Option (Ex × St) :=
  roundF (fun st f => jacquardref2_Locs_b2.exec C L G st f) [1, 3, 5, 6] [0, 1] [(5, [1, 3, 5], [0, 1])]
def jacquardref2_Locs_x2_5 (a5 : Int) (s0 : List Cell) (s1 : List Cell) (h : AHeap) : St := ⟨[.top, .loc 0 0, .top, .loc 1 0, .top, .v (.c (.int .i64 a5)), .top, .top, .top, .top, .top, .top, .top, .top, .top, .top, .top, .top, .top, .top, .top, .top, .top, .top, .top, .top, .top, .top, .top, .top, .top, .top, .top, .top, .top, .top, .top, .top, .top, .top, .top, .top, .top, .top, .top, .top, .top, .top, .top, .top, .top, .top, .top, .top, .top, .top, .top, .top, .top, .top, .top, .top, .top, .top, .top, .top, .top, .top, .top, .top, .top, .top, .top, .top, .top, .top, .top, .top, .top, .top, .top, .top, .top, .top, .top, .top, .top, .top, .top, .top, .top, .top, .top, .top, .top, .top, .top, .top], [some s0, some s1], h⟩
def jacquardref2_Locs_x3_3 (s0 : List Cell) (s1 : List Cell) (h : AHeap) : St := ⟨[.top, .loc 0 0, .top, .loc 1 0, .top, .top, .top, .top, .top, .top, .top, .top, .top, .top, .top, .top, .top, .top, .top, .top, .top, .top, .top, .top, .top, .top, .top, .top, .top, .top, .top, .top, .top, .top, .top, .top, .top, .top, .top, .top, .top, .top, .top, .top, .top, .top, .top, .top, .top, .top, .top, .top, .top, .top, .top, .top, .top, .top, .top, .top, .top, .top, .top, .top, .top, .top, .top, .top, .top, .top, .top, .top, .top, .top, .top, .top, .top, .top, .top, .top, .top, .top, .top, .top, .top, .top, .top, .top, .top, .top, .top, .top, .top, .top, .top, .top, .top, .top], [some s0, some s1], h⟩
def jacquardref2_Locs_k9 (C : CallF) (L : LoopF) (G : Glo) (h0 : AHeap) : Ex → St → Option (List AV × AHeap) :=
  kSeq (fun st => jacquardref2_Locs_p4.exec C L G st (jacquardref2_Locs.fin G h0)) (jacquardref2_Locs.fin G h0)
def jacquardref2_Locs_k10 (C : CallF) (L : LoopF) (G : Glo) (h0 : AHeap) : Ex → St → Option (List AV × AHeap) :=
  kBlk 6 (jacquardref2_Locs_k9 C L G h0)
def jacquardref2_Locs_s5 (a7 : Int) (s0 : List Cell) (s1 : List Cell) (h : AHeap) : St := ⟨[.top, .loc 0 0, .top, .loc 1 0, .top, .top, .top, .v (.c (.int .i64 a7)), .top, .top, .top, .top, .top, .top, .top, .top, .top, .top, .top, .top, .top, .top, .top, .top, .top, .top, .top, .top, .top, .top, .top, .top, .top, .top, .top, .top, .top, .top, .top, .top, .top, .top, .top, .top, .top, .top, .top, .top, .top, .top, .top, .top, .top, .top, .top, .top, .top, .top, .top, .top, .top, .top, .top, .top, .top, .top, .top, .top, .top, .top, .top, .top, .top, .top, .top, .top, .top, .top, .top, .top, .top, .top, .top, .top, .top, .top, .top, .top, .top, .top, .top, .top, .top, .top, .top, .top, .top, .top], [some s0, some s1], h⟩
def jacquardref2_Locs_F5 (C : CallF) (L : LoopF) (G : Glo) : St → Option (Ex × St) :=
  roundF (fun st f => jacquardref2_Locs_b5.exec C L G st f) [1, 3, 7] [0, 1] [(7, [3], [1])]
def jacquardref2_Locs_k11 (C : CallF) (L : LoopF) (G : Glo) : Ex → St → Option (Ex × St) :=
  kSeq (fun st => jacquardref2_Locs_p5.exec C L G st (kLoop [1, 3, 7] [0, 1] [(7, [3], [1])])) (kLoop [1, 3, 7] [0, 1] [(7, [3], [1])])
def jacquardref2_Locs_k12 (C : CallF) (L : LoopF) (G : Glo) : Ex → St → Option (Ex × St) :=
  kBlk 7 (jacquardref2_Locs_k11 C L G)
def jacquardref2_Locs_k13 (C : CallF) (L : LoopF) (G : Glo) : Ex → St → Option (Ex × St) :=
  kBlk 8 (jacquardref2_Locs_k12 C L G)
def jacquardref2_Locs_s4 (a7 : Int) (a8 : Int) (s0 : List Cell) (s1 : List Cell) (h : AHeap) : St := ⟨[.top, .loc 0 0, .top, .loc 1 0, .top, .top, .top, .v (.c (.int .i64 a7)), .v (.c (.int .i64 a8)), .top, .top, .top, .top, .top, .top, .top, .top, .top, .top, .top, .top, .top, .top, .top, .top, .top, .top, .top, .top, .top, .top, .top, .top, .top, .top, .top, .top, .top, .top, .top, .top, .top, .top, .top, .top, .top, .top, .top, .top, .top, .top, .top, .top, .top, .top, .top, .top, .top, .top, .top, .top, .top, .top, .top, .top, .top, .top, .top, .top, .top, .top, .top, .top, .top, .top, .top, .top, .top, .top, .top, .top, .top, .top, .top, .top, .top, .top, .top, .top, .top, .top, .top, .top, .top, .top, .top, .top, .top], [some s0, some s1], h⟩
def jacquardref2_Locs_F4 (C : CallF) (L : LoopF) (G : Glo) : St → Option (Ex × St) :=
  roundF (fun st f => jacquardref2_Locs_b4.exec C L G st f) [1, 3, 7, 8] [0, 1] [(9, [1, 3, 7], [0, 1])]
def jacquardref2_Locs_x4_9 (a7 : Int) (s0 : List Cell) (s1 : List Cell) (h : AHeap) : St := ⟨[.top, .loc 0 0, .top, .loc 1 0, .top, .top, .top, .v (.c (.int .i64 a7)), .top, .top, .top, .top, .top, .top, .top, .top, .top, .top, .top, .top, .top, .top, .top, .top, .top, .top, .top, .top, .top, .top, .top, .top, .top, .top, .top, .top, .top, .top, .top, .top, .top, .top, .top, .top, .top, .top, .top, .top, .top, .top, .top, .top, .top, .top, .top, .top, .top, .top, .top, .top, .top, .top, .top, .top, .top, .top, .top, .top, .top, .top, .top, .top, .top, .top, .top, .top, .top, .top, .top, .top, .top, .top, .top, .top, .top, .top, .top, .top, .top, .top, .top, .top, .top, .top, .top, .top, .top, .top], [some s0, some s1], h⟩
def jacquardref2_Locs_x5_7 (s1 : List Cell) (h : AHeap) : St := ⟨[.top, .top, .top, .loc 1 0, .top, .top, .top, .top, .top, .top, .top, .top, .top, .top, .top, .top, .top, .top, .top, .top, .top, .top, .top, .top, .top, .top, .top, .top, .top, .top, .top, .top, .top, .top, .top, .top, .top, .top, .top, .top, .top, .top, .top, .top, .top, .top, .top, .top, .top, .top, .top, .top, .top, .top, .top, .top, .top, .top, .top, .top, .top, .top, .top, .top, .top, .top, .top, .top, .top, .top, .top, .top, .top, .top, .top, .top, .top, .top, .top, .top, .top, .top, .top, .top, .top, .top, .top, .top, .top, .top, .top, .top, .top, .top, .top, .top, .top, .top], [none, some s1], h⟩
def jacquardref2_Locs_k14 (C : CallF) (L : LoopF) (G : Glo) (h0 : AHeap) : Ex → St → Option (List AV × AHeap) :=
  kSeq (fun st => jacquardref2_Locs_p6.exec C L G st (jacquardref2_Locs.fin G h0)) (jacquardref2_Locs.fin G h0)
def jacquardref2_Locs_k15 (C : CallF) (L : LoopF) (G : Glo) (h0 : AHeap) : Ex → St → Option (List AV × AHeap) :=
  kBlk 10 (jacquardref2_Locs_k14 C L G h0)
def jacquardref2_Locs_s6 (x9 : Cell) (a10 : Int) (s1 : List Cell) (h : AHeap) : St := ⟨[.top, .top, .top, .loc 1 0, .top, .top, .top, .top, .top, .v (.c x9), .v (.c (.int .i32 a10)), .top, .top, .top, .top, .top, .top, .top, .top, .top, .top, .top, .top, .top, .top, .top, .top, .top, .top, .top, .top, .top, .top, .top, .top, .top, .top, .top, .top, .top, .top, .top, .top, .top, .top, .top, .top, .top, .top, .top, .top, .top, .top, .top, .top, .top, .top, .top, .top, .top, .top, .top, .top, .top, .top, .top, .top, .top, .top, .top, .top, .top, .top, .top, .top, .top, .top, .top, .top, .top, .top, .top, .top, .top, .top, .top, .top, .top, .top, .top, .top, .top, .top, .top, .top, .top, .top, .top], [none, some s1], h⟩
def jacquardref2_Locs_F6 (C : CallF) (L : LoopF) (G : Glo) : St → Option (Ex × St) :=
  roundF (fun st f => jacquardref2_Locs_b6.exec C L G st f) [3, 9, 10] [1] [(11, [9], [])]
def jacquardref2_Locs_x6_11 (x9 : Cell) (h : AHeap) : St := ⟨[.top, .top, .top, .top, .top, .top, .top, .top, .top, .v (.c x9), .top, .top, .top, .top, .top, .top, .top, .top, .top, .top, .top, .top, .top, .top, .top, .top, .top, .top, .top, .top, .top, .top, .top, .top, .top, .top, .top, .top, .top, .top, .top, .top, .top, .top, .top, .top, .top, .top, .top, .top, .top, .top, .top, .top, .top, .top, .top, .top, .top, .top, .top, .top, .top, .top, .top, .top, .top, .top, .top, .top, .top, .top, .top, .top, .top, .top, .top, .top, .top, .top, .top, .top, .top, .top, .top, .top, .top, .top, .top, .top, .top, .top, .top, .top, .top, .top, .top, .top], [none, none], h⟩
theorem jacquardref2_Locs_r1 (C : CallF) (L : LoopF) (G : Glo) (a4 : Int) (s0 : List Cell) (s1 : List Cell) (h : AHeap) :
    jacquardref2_Locs_F1 C L G (jacquardref2_Locs_s1 a4 s0 s1 h) =
    atK s0 1 fun q_1 => lenK q_1 fun n_2 => if (decide (a4 < n_2)) = true then atK s0 1 fun q_3 => idxSK 2 q_3 a4 fun k_4 N_5 o_6 => rdH h k_4 N_5 fun l_7 => atK l_7 (o_6 + 0) fun q_8 => asI .i64 (.c q_8) fun n_9 => if 0 ≤ (G.band .i64 n_9 255) ∧ (G.band .i64 n_9 255) < ((256 : Nat) : Int) then if (0 + ((Int.toNat (G.band .i64 n_9 255)) * 1)) < s1.length then some (.normal, (jacquardref2_Locs_s1 (G.wrap .i64 (a4 + 1)) s0 (s1.set (0 + ((Int.toNat (G.band .i64 n_9 255)) * 1)) (.bool true)) h)) else none else none else some ((.exit 0), (jacquardref2_Locs_x1_1 s0 s1 h)) := by kernel_rfl
theorem jacquardref2_Locs_r2 (C : CallF) (L : LoopF) (G : Glo) (a5 : Int) (a6 : Int) (s0 : List Cell) (s1 : List Cell) (h : AHeap) :
    jacquardref2_Locs_F2 C L G (jacquardref2_Locs_s2 a5 a6 s0 s1 h) =
    atK s0 2 fun q_12 => idxSK 1 q_12 a5 fun k_13 N_14 o_15 => rdH h k_13 N_14 fun l_16 => atK l_16 o_15 fun q_17 => lenK q_17 fun n_18 => if (decide (a6 < n_18)) = true then atK s0 2 fun q_19 => idxSK 1 q_19 a5 fun k_20 N_21 o_22 => rdH h k_20 N_21 fun l_23 => atK l_23 o_22 fun q_24 => idxSK 9 q_24 a6 fun k_25 N_26 o_27 => rdH h k_25 N_26 fun l_28 => atK l_28 (o_27 + 2) fun q_29 => asI .i64 (.c q_29) fun n_30 => if 0 ≤ (G.band .i64 n_30 255) ∧ (G.band .i64 n_30 255) < ((256 : Nat) : Int) then if (0 + ((Int.toNat (G.band .i64 n_30 255)) * 1)) < s1.length then some (.normal, (jacquardref2_Locs_s2 a5 (G.wrap .i64 (a6 + 1)) s0 (s1.set (0 + ((Int.toNat (G.band .i64 n_30 255)) * 1)) (.bool true)) h)) else none else none else some ((.exit 4), (jacquardref2_Locs_x2_5 a5 s0 s1 h)) := by kernel_rfl
theorem jacquardref2_Locs_e2_5 (C : CallF) (L : LoopF) (G : Glo) (a5 : Int) (s0 : List Cell) (s1 : List Cell) (h : AHeap) :
    (jacquardref2_Locs_k8 C L G) (.exit 4) (jacquardref2_Locs_x2_5 a5 s0 s1 h) =
    some (.normal, (jacquardref2_Locs_s3 (G.wrap .i64 (a5 + 1)) s0 s1 h)) := by kernel_rfl
theorem jacquardref2_Locs_r3 (C : CallF) (L : LoopF) (G : Glo) (a5 : Int) (s0 : List Cell) (s1 : List Cell) (h : AHeap) :
    jacquardref2_Locs_F3 C L G (jacquardref2_Locs_s3 a5 s0 s1 h) =
    atK s0 2 fun q_10 => lenK q_10 fun n_11 => if (decide (a5 < n_11)) = true then (L (jacquardref2_Locs_F2 C L G) (jacquardref2_Locs_s2 a5 0 s0 s1 h)).bind fun p_31 => (jacquardref2_Locs_k8 C L G) p_31.1 p_31.2 else some ((.exit 2), (jacquardref2_Locs_x3_3 s0 s1 h)) := by kernel_rfl
theorem jacquardref2_Locs_r4 (C : CallF) (L : LoopF) (G : Glo) (a7 : Int) (a8 : Int) (s0 : List Cell) (s1 : List Cell) (h : AHeap) :
    jacquardref2_Locs_F4 C L G (jacquardref2_Locs_s4 a7 a8 s0 s1 h) =
    atK s0 4 fun q_34 => idxSK 1 q_34 a7 fun k_35 N_36 o_37 => rdH h k_35 N_36 fun l_38 => atK l_38 o_37 fun q_39 => lenK q_39 fun n_40 => if (decide (a8 < n_40)) = true then atK s0 4 fun q_41 => idxSK 1 q_41 a7 fun k_42 N_43 o_44 => rdH h k_42 N_43 fun l_45 => atK l_45 o_44 fun q_46 => idxSK 4 q_46 a8 fun k_47 N_48 o_49 => rdH h k_47 N_48 fun l_50 => atK l_50 (o_49 + 2) fun q_51 => asI .i64 (.c q_51) fun n_52 => if 0 ≤ (G.band .i64 n_52 255) ∧ (G.band .i64 n_52 255) < ((256 : Nat) : Int) then if (0 + ((Int.toNat (G.band .i64 n_52 255)) * 1)) < s1.length then some (.normal, (jacquardref2_Locs_s4 a7 (G.wrap .i64 (a8 + 1)) s0 (s1.set (0 + ((Int.toNat (G.band .i64 n_52 255)) * 1)) (.bool true)) h)) else none else none else some ((.exit 8), (jacquardref2_Locs_x4_9 a7 s0 s1 h)) := by kernel_rfl
theorem jacquardref2_Locs_e4_9 (C : CallF) (L : LoopF) (G : Glo) (a7 : Int) (s0 : List Cell) (s1 : List Cell) (h : AHeap) :
    (jacquardref2_Locs_k13 C L G) (.exit 8) (jacquardref2_Locs_x4_9 a7 s0 s1 h) =
    some (.normal, (jacquardref2_Locs_s5 (G.wrap .i64 (a7 + 1)) s0 s1 h)) := by kernel_rfl
theorem jacquardref2_Locs_r5 (C : CallF) (L : LoopF) (G : Glo) (a7 : Int) (s0 : List Cell) (s1 : List Cell) (h : AHeap) :
    jacquardref2_Locs_F5 C L G (jacquardref2_Locs_s5 a7 s0 s1 h) =
    atK s0 4 fun q_32 => lenK q_32 fun n_33 => if (decide (a7 < n_33)) = true then (L (jacquardref2_Locs_F4 C L G) (jacquardref2_Locs_s4 a7 0 s0 s1 h)).bind fun p_53 => (jacquardref2_Locs_k13 C L G) p_53.1 p_53.2 else some ((.exit 6), (jacquardref2_Locs_x5_7 s1 h)) := by kernel_rfl
theorem jacquardref2_Locs_r6 (C : CallF) (L : LoopF) (G : Glo) (x9 : Cell) (a10 : Int) (s1 : List Cell) (h : AHeap) :
    jacquardref2_Locs_F6 C L G (jacquardref2_Locs_s6 x9 a10 s1 h) =
    if (decide (a10 ≤ 122)) = true then if 0 ≤ a10 ∧ a10 < ((256 : Nat) : Int) then atK s1 (0 + ((Int.toNat a10) * 1)) fun q_54 => asB (.c q_54) fun b_55 => if b_55 = true then if (splice [Cell.int .u8 0] 0 ([(.int .u8 (G.wrap .u8 a10))] : List Cell)).length = 1 * 1 then appK 1 1 x9 (splice [Cell.int .u8 0] 0 ([(.int .u8 (G.wrap .u8 a10))] : List Cell)) h fun x_56 h_57 => some (.normal, (jacquardref2_Locs_s6 x_56 (G.wrap .i32 (a10 + 1)) s1 h_57)) else none else some (.normal, (jacquardref2_Locs_s6 x9 (G.wrap .i32 (a10 + 1)) s1 h)) else none else some ((.exit 10), (jacquardref2_Locs_x6_11 x9 h)) := by kernel_rfl
theorem jacquardref2_Locs_e6_11 (C : CallF) (L : LoopF) (G : Glo) (h0 : AHeap) (x9 : Cell) (h : AHeap) :
    (jacquardref2_Locs_k15 C L G h0) (.exit 10) (jacquardref2_Locs_x6_11 x9 h) =
    some ([(.c x9)], h) := by kernel_rfl
theorem jacquardref2_Locs_e5_7 (C : CallF) (L : LoopF) (G : Glo) (h0 : AHeap) (s1 : List Cell) (h : AHeap) :
    (jacquardref2_Locs_k10 C L G h0) (.exit 6) (jacquardref2_Locs_x5_7 s1 h) =
    (L (jacquardref2_Locs_F6 C L G) (jacquardref2_Locs_s6 .nils 97 s1 h)).bind fun p_58 => (jacquardref2_Locs_k15 C L G h0) p_58.1 p_58.2 := by kernel_rfl
theorem jacquardref2_Locs_e3_3 (C : CallF) (L : LoopF) (G : Glo) (h0 : AHeap) (s0 : List Cell) (s1 : List Cell) (h : AHeap) :
    (jacquardref2_Locs_k5 C L G h0) (.exit 2) (jacquardref2_Locs_x3_3 s0 s1 h) =
    (L (jacquardref2_Locs_F5 C L G) (jacquardref2_Locs_s5 0 s0 s1 h)).bind fun p_59 => (jacquardref2_Locs_k10 C L G h0) p_59.1 p_59.2 := by kernel_rfl
theorem jacquardref2_Locs_e1_1 (C : CallF) (L : LoopF) (G : Glo) (h0 : AHeap) (s0 : List Cell) (s1 : List Cell) (h : AHeap) :
    (jacquardref2_Locs_k3 C L G h0) (.exit 0) (jacquardref2_Locs_x1_1 s0 s1 h) =
    (L (jacquardref2_Locs_F3 C L G) (jacquardref2_Locs_s3 0 s0 s1 h)).bind fun p_60 => (jacquardref2_Locs_k5 C L G h0) p_60.1 p_60.2 := by kernel_rfl
set_option maxRecDepth 100000 in
theorem jacquardref2_Locs_eq (C : CallF) (L : LoopF) (G : Glo) (l0 : List Cell) (h0 : AHeap) :
    jacquardref2_Locs.body C L G [(.agg l0)] h0 =
    (L (jacquardref2_Locs_F1 C L G) (jacquardref2_Locs_s1 0 l0 (List.replicate 256 (Cell.bool false)) h0)).bind fun p_61 => (jacquardref2_Locs_k3 C L G h0) p_61.1 p_61.2 := by kernel_rfl

/- jacquard/jacquardref2.word: 135 -/
def jacquardref2_word_k2 (C : CallF) (L : LoopF) (G : Glo) (h0 : AHeap) : Ex → St → Option (List AV × AHeap) :=
  kSeq (fun st => jacquardref2_word_p1.exec C L G st (jacquardref2_word.fin G h0)) (jacquardref2_word.fin G h0)
def jacquardref2_word_k3 (C : CallF) (L : LoopF) (G : Glo) (h0 : AHeap) : Ex → St → Option (List AV × AHeap) :=
  kBlk 0 (jacquardref2_word_k2 C L G h0)
def jacquardref2_word_s1 (z0 : ByteArray) (a3 : Int) (h : AHeap) : St := ⟨[.v (.c (.str z0)), .top, .top, .v (.c (.int .i64 a3)), .top, .top, .top, .top, .top, .top, .top, .top, .top, .top, .top, .top, .top, .top, .top, .top, .top, .top, .top, .top, .top, .top, .top, .top], [], h⟩
def jacquardref2_word_F1 (C : CallF) (L : LoopF) (G : Glo) : St → Option (Ex × St) :=
  roundF (fun st f => jacquardref2_word_b1.exec C L G st f) [0, 3] [] [(0, [2], []), (1, [0], [])]
def jacquardref2_word_x1_0 (b2 : Bool) (h : AHeap) : St := ⟨[.top, .top, .v (.c (.bool b2)), .top, .top, .top, .top, .top, .top, .top, .top, .top, .top, .top, .top, .top, .top, .top, .top, .top, .top, .top, .top, .top, .top, .top, .top, .top], [], h⟩
def jacquardref2_word_x1_1 (z0 : ByteArray) (h : AHeap) : St := ⟨[.v (.c (.str z0)), .top, .top, .top, .top, .top, .top, .top, .top, .top, .top, .top, .top, .top, .top, .top, .top, .top, .top, .top, .top, .top, .top, .top, .top, .top, .top, .top], [], h⟩
theorem jacquardref2_word_r1 (C : CallF) (L : LoopF) (G : Glo) (z0 : ByteArray) (a3 : Int) (h : AHeap) :
    jacquardref2_word_F1 C L G (jacquardref2_word_s1 z0 a3 h) =
    lenSK (.str z0) fun n_1 => if (decide (a3 < n_1)) = true then if 0 ≤ a3 then (z0[Int.toNat a3]?.bind fun u_2 => c1 (C 151 [(.c (.int .u8 (UInt8.toNat u_2 : Int)))] h) fun y_4 h_3 => asB y_4 fun b_5 => scK (!b_5) true (scK (decide (a3 > 0)) true (if 0 ≤ a3 then (z0[Int.toNat a3]?.bind fun u_6 => c1 (C 152 [(.c (.int .u8 (UInt8.toNat u_6 : Int)))] h_3) fun y_8 h_7 => asB y_8 fun b_9 => some (b_9, h_7)) else none) false h_3 fun b_10 h_11 => some ((!b_10), h_11)) false h_3 fun b_12 h_13 => if b_12 = true then some (.ret, (jacquardref2_word_x1_0 false h_13)) else some (.normal, (jacquardref2_word_s1 z0 (G.wrap .i64 (a3 + 1)) h_13))) else none else some ((.exit 0), (jacquardref2_word_x1_1 z0 h)) := by kernel_rfl
theorem jacquardref2_word_e1_0 (C : CallF) (L : LoopF) (G : Glo) (h0 : AHeap) (b2 : Bool) (h : AHeap) :
    (jacquardref2_word_k3 C L G h0) .ret (jacquardref2_word_x1_0 b2 h) =
    some ([(.c (.bool b2))], h) := by kernel_rfl
theorem jacquardref2_word_e1_1 (C : CallF) (L : LoopF) (G : Glo) (h0 : AHeap) (z0 : ByteArray) (h : AHeap) :
    (jacquardref2_word_k3 C L G h0) (.exit 0) (jacquardref2_word_x1_1 z0 h) =
    some ([(.c (.bool (!(ByteArray.toList z0 == ByteArray.toList (ByteArray.mk #[])))))], h) := by kernel_rfl
set_option maxRecDepth 100000 in
theorem jacquardref2_word_eq (C : CallF) (L : LoopF) (G : Glo) (z0 : ByteArray) (h0 : AHeap) :
    jacquardref2_word.body C L G [(.c (.str z0))] h0 =
    (L (jacquardref2_word_F1 C L G) (jacquardref2_word_s1 z0 0 h0)).bind fun p_14 => (jacquardref2_word_k3 C L G h0) p_14.1 p_14.2 := by kernel_rfl

/- jacquard/jacquardref2.CondOk: 136 -/
def jacquardref2_CondOk_k2 (C : CallF) (L : LoopF) (G : Glo) (h0 : AHeap) : Ex → St → Option (List AV × AHeap) :=
  kSeq (fun st => jacquardref2_CondOk_p1.exec C L G st (jacquardref2_CondOk.fin G h0)) (jacquardref2_CondOk.fin G h0)
def jacquardref2_CondOk_k3 (C : CallF) (L : LoopF) (G : Glo) (h0 : AHeap) : Ex → St → Option (List AV × AHeap) :=
  kBlk 0 (jacquardref2_CondOk_k2 C L G h0)
def jacquardref2_CondOk_s2 (a3 : Int) (s0 : List Cell) (h : AHeap) : St := ⟨[.top, .loc 0 0, .top, .v (.c (.int .i64 a3)), .top, .top, .top, .top, .top, .top, .top, .top, .top, .top, .top, .top, .top, .top, .top, .top, .top, .top, .top, .top, .top, .top, .top, .top, .top, .top, .top, .top, .top, .top, .top, .top, .top, .top, .top, .top, .top, .top, .top, .top, .top, .top, .top, .top, .top, .top, .top, .top, .top, .top, .top, .top, .top, .top, .top, .top, .top, .top, .top, .top, .top, .top, .top, .top, .top, .top, .top, .top, .top, .top, .top, .top, .top, .top, .top, .top, .top, .top, .top, .top, .top, .top, .top, .top, .top, .top, .top, .top, .top, .top, .top, .top, .top, .top, .top, .top, .top, .top, .top], [some s0, none], h⟩
def jacquardref2_CondOk_F2 (C : CallF) (L : LoopF) (G : Glo) : St → Option (Ex × St) :=
  roundF (fun st f => jacquardref2_CondOk_b2.exec C L G st f) [1, 3] [0] [(0, [2], []), (1, [], [])]
def jacquardref2_CondOk_k4 (C : CallF) (L : LoopF) (G : Glo) : Ex → St → Option (Ex × St) :=
  kSeq (fun st => jacquardref2_CondOk_p2.exec C L G st (kLoop [1, 3] [0] [(0, [2], []), (1, [], [])])) (kLoop [1, 3] [0] [(0, [2], []), (1, [], [])])
def jacquardref2_CondOk_k5 (C : CallF) (L : LoopF) (G : Glo) : Ex → St → Option (Ex × St) :=
  kBlk 1 (jacquardref2_CondOk_k4 C L G)
def jacquardref2_CondOk_x2_0 (b2 : Bool) (h : AHeap) : St := ⟨[.top, .top, .v (.c (.bool b2)), .top, .top, .top, .top, .top, .top, .top, .top, .top, .top, .top, .top, .top, .top, .top, .top, .top, .top, .top, .top, .top, .top, .top, .top, .top, .top, .top, .top, .top, .top, .top, .top, .top, .top, .top, .top, .top, .top, .top, .top, .top, .top, .top, .top, .top, .top, .top, .top, .top, .top, .top, .top, .top, .top, .top, .top, .top, .top, .top, .top, .top, .top, .top, .top, .top, .top, .top, .top, .top, .top, .top, .top, .top, .top, .top, .top, .top, .top, .top, .top, .top, .top, .top, .top, .top, .top, .top, .top, .top, .top, .top, .top, .top, .top, .top, .top, .top, .top, .top, .top], [none, none], h⟩
def jacquardref2_CondOk_k6 (C : CallF) (L : LoopF) (G : Glo) : Ex → St → Option (Ex × St) :=
  kBlk 2 (jacquardref2_CondOk_k5 C L G)
def jacquardref2_CondOk_s1 (a3 : Int) (a4 : Int) (s0 : List Cell) (h : AHeap) : St := ⟨[.top, .loc 0 0, .top, .v (.c (.int .i64 a3)), .v (.c (.int .i64 a4)), .top, .top, .top, .top, .top, .top, .top, .top, .top, .top, .top, .top, .top, .top, .top, .top, .top, .top, .top, .top, .top, .top, .top, .top, .top, .top, .top, .top, .top, .top, .top, .top, .top, .top, .top, .top, .top, .top, .top, .top, .top, .top, .top, .top, .top, .top, .top, .top, .top, .top, .top, .top, .top, .top, .top, .top, .top, .top, .top, .top, .top, .top, .top, .top, .top, .top, .top, .top, .top, .top, .top, .top, .top, .top, .top, .top, .top, .top, .top, .top, .top, .top, .top, .top, .top, .top, .top, .top, .top, .top, .top, .top, .top, .top, .top, .top, .top, .top], [some s0, none], h⟩
def jacquardref2_CondOk_F1 (C : CallF) (L : LoopF) (G : Glo) : St → Option (Ex × St) :=
  roundF (fun st f => jacquardref2_CondOk_b1.exec C L G st f) [1, 3, 4] [0] [(0, [2], []), (3, [1, 3], [0])]
def jacquardref2_CondOk_x1_0 (b2 : Bool) (h : AHeap) : St := ⟨[.top, .top, .v (.c (.bool b2)), .top, .top, .top, .top, .top, .top, .top, .top, .top, .top, .top, .top, .top, .top, .top, .top, .top, .top, .top, .top, .top, .top, .top, .top, .top, .top, .top, .top, .top, .top, .top, .top, .top, .top, .top, .top, .top, .top, .top, .top, .top, .top, .top, .top, .top, .top, .top, .top, .top, .top, .top, .top, .top, .top, .top, .top, .top, .top, .top, .top, .top, .top, .top, .top, .top, .top, .top, .top, .top, .top, .top, .top, .top, .top, .top, .top, .top, .top, .top, .top, .top, .top, .top, .top, .top, .top, .top, .top, .top, .top, .top, .top, .top, .top, .top, .top, .top, .top, .top, .top], [none, none], h⟩
def jacquardref2_CondOk_x1_3 (a3 : Int) (s0 : List Cell) (h : AHeap) : St := ⟨[.top, .loc 0 0, .top, .v (.c (.int .i64 a3)), .top, .top, .top, .top, .top, .top, .top, .top, .top, .top, .top, .top, .top, .top, .top, .top, .top, .top, .top, .top, .top, .top, .top, .top, .top, .top, .top, .top, .top, .top, .top, .top, .top, .top, .top, .top, .top, .top, .top, .top, .top, .top, .top, .top, .top, .top, .top, .top, .top, .top, .top, .top, .top, .top, .top, .top, .top, .top, .top, .top, .top, .top, .top, .top, .top, .top, .top, .top, .top, .top, .top, .top, .top, .top, .top, .top, .top, .top, .top, .top, .top, .top, .top, .top, .top, .top, .top, .top, .top, .top, .top, .top, .top, .top, .top, .top, .top, .top, .top], [some s0, none], h⟩
def jacquardref2_CondOk_x2_1 (h : AHeap) : St := ⟨[.top, .top, .top, .top, .top, .top, .top, .top, .top, .top, .top, .top, .top, .top, .top, .top, .top, .top, .top, .top, .top, .top, .top, .top, .top, .top, .top, .top, .top, .top, .top, .top, .top, .top, .top, .top, .top, .top, .top, .top, .top, .top, .top, .top, .top, .top, .top, .top, .top, .top, .top, .top, .top, .top, .top, .top, .top, .top, .top, .top, .top, .top, .top, .top, .top, .top, .top, .top, .top, .top, .top, .top, .top, .top, .top, .top, .top, .top, .top, .top, .top, .top, .top, .top, .top, .top, .top, .top, .top, .top, .top, .top, .top, .top, .top, .top, .top, .top, .top, .top, .top, .top, .top], [none, none], h⟩
theorem jacquardref2_CondOk_r1 (C : CallF) (L : LoopF) (G : Glo) (a3 : Int) (a4 : Int) (s0 : List Cell) (h : AHeap) :
    jacquardref2_CondOk_F1 C L G (jacquardref2_CondOk_s1 a3 a4 s0 h) =
    atK s0 1 fun q_24 => idxSK 1 q_24 a3 fun k_25 N_26 o_27 => rdH h k_25 N_26 fun l_28 => atK l_28 o_27 fun q_29 => lenK q_29 fun n_30 => if (decide (a4 < n_30)) = true then atK s0 1 fun q_31 => idxSK 1 q_31 a3 fun k_32 N_33 o_34 => rdH h k_32 N_33 fun l_35 => atK l_35 o_34 fun q_36 => idxSK 4 q_36 a4 fun k_37 N_38 o_39 => rdH h k_37 N_38 fun l_40 => if o_39 + 4 ≤ l_40.length then if 0 = 0 ∧ [Cell.int .i64 0, Cell.int .i64 0, Cell.int .i64 0, Cell.int .i64 0].length = 4 ∧ ((l_40.drop o_39).take 4).length = 4 then atK ((l_40.drop o_39).take 4) 0 fun q_41 => asI .i64 (.c q_41) fun n_42 => scK (n_42 == (-1)) true (atK ((l_40.drop o_39).take 4) 1 fun q_43 => asI .i64 (.c q_43) fun n_44 => some ((n_44 == 0), h)) false h fun b_45 h_46 => scK b_45 true (atK ((l_40.drop o_39).take 4) 2 fun q_47 => asI .i64 (.c q_47) fun n_48 => c1 (C 137 [(.c (.int .i64 n_48))] h_46) fun y_50 h_49 => asB y_50 fun b_51 => some (b_51, h_49)) false h_46 fun b_52 h_53 => atK ((l_40.drop o_39).take 4) 0 fun q_54 => asI .i64 (.c q_54) fun n_55 => scK (decide (n_55 ≥ 0)) true (atK ((l_40.drop o_39).take 4) 0 fun q_56 => asI .i64 (.c q_56) fun n_57 => some ((decide (n_57 ≤ 9)), h_53)) false h_53 fun b_58 h_59 => scK b_58 true (atK ((l_40.drop o_39).take 4) 1 fun q_60 => asI .i64 (.c q_60) fun n_61 => some ((decide (n_61 ≥ 0)), h_59)) false h_59 fun b_62 h_63 => scK b_62 true (atK ((l_40.drop o_39).take 4) 1 fun q_64 => asI .i64 (.c q_64) fun n_65 => some ((decide (n_65 ≤ 3)), h_63)) false h_63 fun b_66 h_67 => scK b_66 true (atK ((l_40.drop o_39).take 4) 2 fun q_68 => asI .i64 (.c q_68) fun n_69 => some ((n_69 == 0), h_67)) false h_67 fun b_70 h_71 => scK (!b_52) true (some ((!b_70), h_71)) false h_71 fun b_72 h_73 => if b_72 = true then some (.ret, (jacquardref2_CondOk_x1_0 false h_73)) else some (.normal, (jacquardref2_CondOk_s1 a3 (G.wrap .i64 (a4 + 1)) s0 h_73)) else none else none else some ((.exit 2), (jacquardref2_CondOk_x1_3 a3 s0 h)) := by kernel_rfl
theorem jacquardref2_CondOk_e1_0 (C : CallF) (L : LoopF) (G : Glo) (b2 : Bool) (h : AHeap) :
    (jacquardref2_CondOk_k6 C L G) .ret (jacquardref2_CondOk_x1_0 b2 h) =
    some (.ret, (jacquardref2_CondOk_x2_0 b2 h)) := by kernel_rfl
theorem jacquardref2_CondOk_e1_3 (C : CallF) (L : LoopF) (G : Glo) (a3 : Int) (s0 : List Cell) (h : AHeap) :
    (jacquardref2_CondOk_k6 C L G) (.exit 2) (jacquardref2_CondOk_x1_3 a3 s0 h) =
    some (.normal, (jacquardref2_CondOk_s2 (G.wrap .i64 (a3 + 1)) s0 h)) := by kernel_rfl
theorem jacquardref2_CondOk_r2 (C : CallF) (L : LoopF) (G : Glo) (a3 : Int) (s0 : List Cell) (h : AHeap) :
    jacquardref2_CondOk_F2 C L G (jacquardref2_CondOk_s2 a3 s0 h) =
    atK s0 1 fun q_15 => lenK q_15 fun n_16 => if (decide (a3 < n_16)) = true then atK s0 1 fun q_17 => idxSK 1 q_17 a3 fun k_18 N_19 o_20 => rdH h k_18 N_19 fun l_21 => atK l_21 o_20 fun q_22 => lenK q_22 fun n_23 => if (n_23 == 0) = true then some (.ret, (jacquardref2_CondOk_x2_0 false h)) else (L (jacquardref2_CondOk_F1 C L G) (jacquardref2_CondOk_s1 a3 0 s0 h)).bind fun p_74 => (jacquardref2_CondOk_k6 C L G) p_74.1 p_74.2 else some ((.exit 0), (jacquardref2_CondOk_x2_1 h)) := by kernel_rfl
theorem jacquardref2_CondOk_e2_0 (C : CallF) (L : LoopF) (G : Glo) (h0 : AHeap) (b2 : Bool) (h : AHeap) :
    (jacquardref2_CondOk_k3 C L G h0) .ret (jacquardref2_CondOk_x2_0 b2 h) =
    some ([(.c (.bool b2))], h) := by kernel_rfl
theorem jacquardref2_CondOk_e2_1 (C : CallF) (L : LoopF) (G : Glo) (h0 : AHeap) (h : AHeap) :
    (jacquardref2_CondOk_k3 C L G h0) (.exit 0) (jacquardref2_CondOk_x2_1 h) =
    some ([(.c (.bool true))], h) := by kernel_rfl
set_option maxRecDepth 100000 in
theorem jacquardref2_CondOk_eq (C : CallF) (L : LoopF) (G : Glo) (l0 : List Cell) (h0 : AHeap) :
    jacquardref2_CondOk.body C L G [(.agg l0)] h0 =
    atK l0 0 fun q_1 => asI .i64 (.c q_1) fun n_2 => if (n_2 == 0) = true then atK l0 1 fun q_3 => lenK q_3 fun n_4 => some ([(.c (.bool (n_4 == 0)))], h0) else atK l0 0 fun q_5 => asI .i64 (.c q_5) fun n_6 => scK (decide (n_6 < 0)) false (atK l0 0 fun q_7 => asI .i64 (.c q_7) fun n_8 => some ((decide (n_8 > 2)), h0)) true h0 fun b_9 h_10 => scK b_9 false (atK l0 1 fun q_11 => lenK q_11 fun n_12 => some ((n_12 == 0), h_10)) true h_10 fun b_13 h_14 => if b_13 = true then some ([(.c (.bool false))], h_14) else (L (jacquardref2_CondOk_F2 C L G) (jacquardref2_CondOk_s2 0 l0 h_14)).bind fun p_75 => (jacquardref2_CondOk_k3 C L G h0) p_75.1 p_75.2 := by kernel_rfl

/- jacquard/jacquardref2.named: 137 -/
set_option maxRecDepth 100000 in
theorem jacquardref2_named_eq (C : CallF) (L : LoopF) (G : Glo) (a0 : Int) (h0 : AHeap) :
    jacquardref2_named.body C L G [(.c (.int .i64 a0))] h0 =
    scK (decide (a0 ≥ 97)) true (some ((decide (a0 ≤ 122)), h0)) false h0 fun b_1 h_2 => some ([(.c (.bool b_1))], h_2) := by kernel_rfl

/- jacquard/jacquardref2.InsOk: 138 -/
set_option maxRecDepth 100000 in
theorem jacquardref2_InsOk_eq (C : CallF) (L : LoopF) (G : Glo) (l0 : List Cell) (h0 : AHeap) :
    jacquardref2_InsOk.body C L G [(.agg l0)] h0 =
    if 0 = 0 ∧ [Cell.int .i64 0, Cell.int .i64 0].length = 2 ∧ [Cell.int .i64 0, Cell.int .i64 0].length = 2 then atK l0 0 fun q_1 => asI .i64 (.c q_1) fun n_2 => if (n_2 == 1) = true then atK l0 1 fun q_3 => asI .i64 (.c q_3) fun n_4 => scK (n_4 == 0) true (atK l0 2 fun q_5 => asI .i64 (.c q_5) fun n_6 => c1 (C 137 [(.c (.int .i64 n_6))] h0) fun y_8 h_7 => asB y_8 fun b_9 => some (b_9, h_7)) false h0 fun b_10 h_11 => scK b_10 true (if 3 + 2 ≤ l0.length then c1 (C 153 [(.agg ((l0.drop 3).take 2))] h_11) fun y_13 h_12 => asB y_13 fun b_14 => some (b_14, h_12) else none) false h_11 fun b_15 h_16 => scK b_15 true (atK l0 5 fun q_17 => asI .i64 (.c q_17) fun n_18 => some ((n_18 == 0), h_16)) false h_16 fun b_19 h_20 => scK b_19 true (if 6 + 2 ≤ l0.length then if 0 = 0 ∧ [Cell.int .i64 0, Cell.int .i64 0].length = 2 then if alike ((l0.drop 6).take 2) ([Cell.int .i64 0, Cell.int .i64 0]) = true ∧ alike [Cell.int .i64 0, Cell.int .i64 0] ([Cell.int .i64 0, Cell.int .i64 0]) = true then some ((decide (((l0.drop 6).take 2) = [Cell.int .i64 0, Cell.int .i64 0])), h_20) else none else none else none) false h_20 fun b_21 h_22 => scK b_21 true (atK l0 8 fun q_23 => asI .i64 (.c q_23) fun n_24 => some ((n_24 == 0), h_22)) false h_22 fun b_25 h_26 => some ([(.c (.bool b_25))], h_26) else if (n_2 == 2) = true then atK l0 1 fun q_27 => asI .i64 (.c q_27) fun n_28 => scK (decide (n_28 ≥ 0)) true (atK l0 1 fun q_29 => asI .i64 (.c q_29) fun n_30 => some ((decide (n_30 ≤ 3)), h0)) false h0 fun b_31 h_32 => scK b_31 true (atK l0 2 fun q_33 => asI .i64 (.c q_33) fun n_34 => c1 (C 137 [(.c (.int .i64 n_34))] h_32) fun y_36 h_35 => asB y_36 fun b_37 => some (b_37, h_35)) false h_32 fun b_38 h_39 => scK b_38 true (if 3 + 2 ≤ l0.length then if 0 = 0 ∧ [Cell.int .i64 0, Cell.int .i64 0].length = 2 then if alike ((l0.drop 3).take 2) ([Cell.int .i64 0, Cell.int .i64 0]) = true ∧ alike [Cell.int .i64 0, Cell.int .i64 0] ([Cell.int .i64 0, Cell.int .i64 0]) = true then some ((decide (((l0.drop 3).take 2) = [Cell.int .i64 0, Cell.int .i64 0])), h_39) else none else none else none) false h_39 fun b_40 h_41 => scK b_40 true (atK l0 5 fun q_42 => asI .i64 (.c q_42) fun n_43 => some ((n_43 == 0), h_41)) false h_41 fun b_44 h_45 => scK b_44 true (if 6 + 2 ≤ l0.length then if 0 = 0 ∧ [Cell.int .i64 0, Cell.int .i64 0].length = 2 then if alike ((l0.drop 6).take 2) ([Cell.int .i64 0, Cell.int .i64 0]) = true ∧ alike [Cell.int .i64 0, Cell.int .i64 0] ([Cell.int .i64 0, Cell.int .i64 0]) = true then some ((decide (((l0.drop 6).take 2) = [Cell.int .i64 0, Cell.int .i64 0])), h_45) else none else none else none) false h_45 fun b_46 h_47 => scK b_46 true (atK l0 8 fun q_48 => asI .i64 (.c q_48) fun n_49 => some ((n_49 == 0), h_47)) false h_47 fun b_50 h_51 => some ([(.c (.bool b_50))], h_51) else if (n_2 == 3) = true then if 0 = 0 ∧ l0.length = 9 then if alike l0 (List.replicate 9 (Cell.int .i64 0)) = true ∧ alike (splice (List.replicate 9 (Cell.int .i64 0)) 0 ([(.int .i64 3)] : List Cell)) (List.replicate 9 (Cell.int .i64 0)) = true then some ([(.c (.bool (decide (l0 = (splice (List.replicate 9 (Cell.int .i64 0)) 0 ([(.int .i64 3)] : List Cell))))))], h0) else none else none else if (n_2 == 4) = true then atK l0 1 fun q_52 => asI .i64 (.c q_52) fun n_53 => scK (decide (n_53 ≥ 0)) true (atK l0 1 fun q_54 => asI .i64 (.c q_54) fun n_55 => some ((decide (n_55 ≤ 3)), h0)) false h0 fun b_56 h_57 => scK b_56 true (atK l0 2 fun q_58 => asI .i64 (.c q_58) fun n_59 => c1 (C 137 [(.c (.int .i64 n_59))] h_57) fun y_61 h_60 => asB y_61 fun b_62 => some (b_62, h_60)) false h_57 fun b_63 h_64 => scK b_63 true (if 3 + 2 ≤ l0.length then c1 (C 153 [(.agg ((l0.drop 3).take 2))] h_64) fun y_66 h_65 => asB y_66 fun b_67 => some (b_67, h_65) else none) false h_64 fun b_68 h_69 => scK b_68 true (atK l0 5 fun q_70 => asI .i64 (.c q_70) fun n_71 => some ((n_71 == 0), h_69)) false h_69 fun b_72 h_73 => scK b_72 true (if 6 + 2 ≤ l0.length then c1 (C 153 [(.agg ((l0.drop 6).take 2))] h_73) fun y_75 h_74 => asB y_75 fun b_76 => some (b_76, h_74) else none) false h_73 fun b_77 h_78 => scK b_77 true (atK l0 8 fun q_79 => asI .i64 (.c q_79) fun n_80 => some ((n_80 == 0), h_78)) false h_78 fun b_81 h_82 => some ([(.c (.bool b_81))], h_82) else if (n_2 == 5) = true then atK l0 5 fun q_83 => asI .i64 (.c q_83) fun n_84 => scK (n_84 == 0) true (if 6 + 2 ≤ l0.length then if alike ((l0.drop 6).take 2) ([Cell.int .i64 0, Cell.int .i64 0]) = true ∧ alike (splice [Cell.int .i64 0, Cell.int .i64 0] 0 ([(.int .i64 (-1))] : List Cell)) ([Cell.int .i64 0, Cell.int .i64 0]) = true then some ((!(decide (((l0.drop 6).take 2) = (splice [Cell.int .i64 0, Cell.int .i64 0] 0 ([(.int .i64 (-1))] : List Cell))))), h0) else none else none) false h0 fun b_85 h_86 => if b_85 = true then some ([(.c (.bool false))], h_86) else atK l0 1 fun q_87 => asI .i64 (.c q_87) fun n_88 => scK (decide (n_88 ≥ 0)) true (atK l0 1 fun q_89 => asI .i64 (.c q_89) fun n_90 => some ((decide (n_90 ≤ 3)), h_86)) false h_86 fun b_91 h_92 => scK b_91 true (atK l0 2 fun q_93 => asI .i64 (.c q_93) fun n_94 => some ((n_94 == 0), h_92)) false h_92 fun b_95 h_96 => scK b_95 true (if 3 + 2 ≤ l0.length then c1 (C 153 [(.agg ((l0.drop 3).take 2))] h_96) fun y_98 h_97 => asB y_98 fun b_99 => some (b_99, h_97) else none) false h_96 fun b_100 h_101 => scK b_100 true (atK l0 5 fun q_102 => asI .i64 (.c q_102) fun n_103 => some ((decide (n_103 ≥ 0)), h_101)) false h_101 fun b_104 h_105 => scK b_104 true (atK l0 5 fun q_106 => asI .i64 (.c q_106) fun n_107 => some ((decide (n_107 ≤ 11)), h_105)) false h_105 fun b_108 h_109 => scK b_108 true (if 6 + 2 ≤ l0.length then c1 (C 153 [(.agg ((l0.drop 6).take 2))] h_109) fun y_111 h_110 => asB y_111 fun b_112 => some (b_112, h_110) else none) false h_109 fun b_113 h_114 => scK b_113 true (atK l0 8 fun q_115 => asI .i64 (.c q_115) fun n_116 => some ((n_116 == 0), h_114)) false h_114 fun b_117 h_118 => some ([(.c (.bool b_117))], h_118) else if (n_2 == 6) = true then atK l0 1 fun q_119 => asI .i64 (.c q_119) fun n_120 => scK (n_120 == 0) true (atK l0 2 fun q_121 => asI .i64 (.c q_121) fun n_122 => some ((n_122 == 0), h0)) false h0 fun b_123 h_124 => scK b_123 true (if 3 + 2 ≤ l0.length then c1 (C 153 [(.agg ((l0.drop 3).take 2))] h_124) fun y_126 h_125 => asB y_126 fun b_127 => some (b_127, h_125) else none) false h_124 fun b_128 h_129 => scK b_128 true (atK l0 5 fun q_130 => asI .i64 (.c q_130) fun n_131 => some ((n_131 == 0), h_129)) false h_129 fun b_132 h_133 => scK b_132 true (if 6 + 2 ≤ l0.length then c1 (C 153 [(.agg ((l0.drop 6).take 2))] h_133) fun y_135 h_134 => asB y_135 fun b_136 => some (b_136, h_134) else none) false h_133 fun b_137 h_138 => scK b_137 true (atK l0 8 fun q_139 => asI .i64 (.c q_139) fun n_140 => some ((decide (n_140 ≥ 0)), h_138)) false h_138 fun b_141 h_142 => some ([(.c (.bool b_141))], h_142) else some ([(.c (.bool false))], h0) else none := by kernel_rfl

/- jacquard/jacquardref2.letter: 151 -/
set_option maxRecDepth 100000 in
theorem jacquardref2_letter_eq (C : CallF) (L : LoopF) (G : Glo) (a0 : Int) (h0 : AHeap) :
    jacquardref2_letter.body C L G [(.c (.int .u8 a0))] h0 =
    scK (decide (a0 ≥ 97)) true (some ((decide (a0 ≤ 122)), h0)) false h0 fun b_1 h_2 => some ([(.c (.bool b_1))], h_2) := by kernel_rfl

/- jacquard/jacquardref2.digit: 152 -/
set_option maxRecDepth 100000 in
theorem jacquardref2_digit_eq (C : CallF) (L : LoopF) (G : Glo) (a0 : Int) (h0 : AHeap) :
    jacquardref2_digit.body C L G [(.c (.int .u8 a0))] h0 =
    scK (decide (a0 ≥ 48)) true (some ((decide (a0 ≤ 57)), h0)) false h0 fun b_1 h_2 => some ([(.c (.bool b_1))], h_2) := by kernel_rfl

/- jacquard/jacquardref2.operandOk: 153 -/
set_option maxRecDepth 100000 in
theorem jacquardref2_operandOk_eq (C : CallF) (L : LoopF) (G : Glo) (l0 : List Cell) (h0 : AHeap) :
    jacquardref2_operandOk.body C L G [(.agg l0)] h0 =
    atK l0 0 fun q_1 => asI .i64 (.c q_1) fun n_2 => scK (n_2 == (-1)) false (atK l0 0 fun q_3 => asI .i64 (.c q_3) fun n_4 => scK (decide (n_4 ≥ 0)) true (atK l0 0 fun q_5 => asI .i64 (.c q_5) fun n_6 => some ((decide (n_6 ≤ 3)), h0)) false h0 fun b_7 h_8 => scK b_7 true (atK l0 1 fun q_9 => asI .i64 (.c q_9) fun n_10 => some ((n_10 == 0), h_8)) false h_8 fun b_11 h_12 => some (b_11, h_12)) true h0 fun b_13 h_14 => some ([(.c (.bool b_13))], h_14) := by kernel_rfl


end Jq

/- Programs as the document says: what is done at once, what comes next. -/
namespace Jq
open Go

/-- An instruction that may be, in a thread of so many. -/
structure GoodI (len : Nat) (i : Ins) : Prop where
  kind : 1 ≤ i.kind ∧ i.kind ≤ 6
  reg : i.kind = 2 ∨ i.kind = 4 ∨ i.kind = 5 → 0 ≤ i.reg ∧ i.reg < 4
  op : i.kind = 5 → 0 ≤ i.op ∧ i.op ≤ 11
  n : i.kind = 6 → 0 ≤ i.n ∧ i.n ≤ len

def GoodC (code : List Ins) : Prop := ∀ i ∈ code, GoodI code.length i

section
variable {E : Env}

/-- One thread of a program that lies there. -/
theorem ProgAt.thr {h : AHeap} {cs : List Cell} {P : PProg} (p : ProgAt h cs P) {t : Nat} {code : List Ins} (ht : P.thr[t]? = some code) :
    ∃ x, SlAt h x 9 (codeC code) code.length ∧ Low h.length x ∧ ∀ {α : Type} (f : Cell → Option α), (atK cs 2 fun q => idxSK 1 q (t : Int) fun k N o => rdH h k N fun l => atK l o f) = f x := by
  obtain ⟨a, b, c, ts, rfl, _, _, ⟨hc, hcl⟩, hts⟩ := p
  obtain ⟨x, x1, x2, x3⟩ := hts _ _ ht
  refine ⟨x, x2, x3, fun f => ?_⟩
  show (idxSK 1 c (t : Int) fun k N o => rdH h k N fun l => atK l o f) = f x
  exact hc.get1 (getI_lt ht) x1

/-- Each thread may be. -/
def PProg.good (P : PProg) : Prop := P.fits ∧ ∀ code ∈ P.thr, GoodC code

end
end Jq

namespace Jq
open Go


end Jq

/- Events: what an instruction does; a thread unfolded. -/
namespace Jq
open Go

structure Evt where
  t : Int
  i : Int
  kind : Int
  loc : Int
  r : Int
  w : Int
  deriving DecidableEq

def Evt.cs (e : Evt) : List Cell := [.int .i64 e.t, .int .i64 e.i, .int .i64 e.kind, .int .i64 e.loc, .int .i64 e.r, .int .i64 e.w]
def evsC (l : List Evt) : List Cell := l.flatMap Evt.cs
theorem Evt.len (e : Evt) : e.cs.length = 6 := rfl
/-- The event of an instruction that reads v. -/
def evOf (i : Ins) (l : Lcl) (v : Int) : Evt :=
  if i.kind = 1 then ⟨0, 0, 2, i.loc, 0, opV i.a l⟩
  else if i.kind = 2 then ⟨0, 0, 1, i.loc, v, 0⟩
  else if i.kind = 4 then (if opV i.a l = v then ⟨0, 0, 4, i.loc, v, opV i.b l⟩ else ⟨0, 0, 5, i.loc, v, 0⟩)
  else ⟨0, 0, 3, 0, 0, 0⟩

def rdI (i : Ins) : Bool := decide (i.kind = 2 ∨ i.kind = 4)

/-- A thread unfolded: its events, where it is, and whether it would read more. -/
def unf (code : List Ins) (t : Int) : Nat → Lcl → List Int → List Evt → List Evt × Lcl × Bool
  | 0, l, _, out => (out, l, false)
  | k + 1, l, rs, out => match nextI code l with
    | none => (out, l, false)
    | some i =>
      if rdI i = true then match rs with
        | [] => (out, l, true)
        | v :: rs => unf code t k (afterL code l v) rs (out ++ [{ evOf i l v with t := t, i := out.length }])
      else unf code t k (afterL code l 0) rs (out ++ [{ evOf i l 0 with t := t, i := out.length }])

section
variable {E : Env}

/-- A row that can be cut, whatever is made behind it. -/
def SlOkE (h : AHeap) (esz : Nat) (x : Cell) : Prop := ∀ k N off len, x = .sl k N off len → ∀ h', Kp h.length h h' → okSl h' esz k N = true

theorem SlOk.e {h : AHeap} {x : Cell} (s : SlOk h x) (esz : Nat) : SlOkE h esz x := fun k N off len e h' hk => s k N off len e h' hk esz

theorem SlOkE.mono {h h' : AHeap} {esz : Nat} {x : Cell} (s : SlOkE h esz x) (hk : Kp h.length h h') : SlOkE h' esz x :=
  fun k N off len e h2 hk2 => s k N off len e h2 (hk.trans (hk2.mono hk.1))

/-- No thread is long. -/
def PProg.small (P : PProg) : Prop := P.thr.length ≤ 1000 ∧ ∀ code ∈ P.thr, code.length ≤ 1000
theorem PProg.small.fits {P : PProg} (h : P.small) : P.fits := ⟨by have := h.1; omega, fun c hc => by have := h.2 c hc; omega⟩
theorem PProg.small.code {P : PProg} (h : P.small) (t : Int) : (P.code t).length ≤ 1000 := by
  unfold PProg.code
  split
  · rw [List.getD_eq_getElem?_getD]
    cases hq : P.thr[t.toNat]? with
    | none => show (0 : Nat) ≤ _; omega
    | some c => exact h.2 c (List.mem_of_getElem? hq)
  · show (0 : Nat) ≤ _; omega

end
end Jq

namespace Jq
open Go


end Jq

/- What a function needs of an environment. -/
namespace Jq
open Go


end Jq

namespace Jq
open Go


end Jq

namespace Jq
open Go

/- slices.Clone(()jacquard/api.Ins,jacquard/api.Ins): 119 -/
set_option maxRecDepth 100000 in
theorem slices_Clone_sIns_Ins_eq (C : CallF) (L : LoopF) (G : Glo) (x0 : Cell) (h0 : AHeap) :
    slices_Clone_sIns_Ins.body C L G [(.c x0)] h0 =
    eqNilK false x0 .nils fun b_1 => if b_1 = true then some ([(.c .nils)], h0) else if ([] : List Cell).length = 0 * 9 then (slCells (h0 ++ [some (Blk.mk true 9 ([] : List Cell))]) 9 x0).bind fun l_4 => appK 9 72 (.sl h0.length (([] : List Cell).length) 0 0) l_4 (h0 ++ [some (Blk.mk true 9 ([] : List Cell))]) fun x_2 h_3 => some ([(.c x_2)], h_3) else none := by kernel_rfl

/- slices.ContainsFunc(()()jacquard/api.Ins,()jacquard/api.Ins): 130 -/
set_option maxRecDepth 100000 in
theorem slices_ContainsFunc_ssIns_sIns_eq (C : CallF) (L : LoopF) (G : Glo) (x0 : Cell) (x1 : Cell) (h0 : AHeap) :
    slices_ContainsFunc_ssIns_sIns.body C L G [(.c x0), (.c x1)] h0 =
    c1 (C 147 [(.c x0), (.c x1)] h0) fun y_2 h_1 => asI .i64 y_2 fun n_3 => some ([(.c (.bool (decide (n_3 ≥ 0))))], h_1) := by kernel_rfl

/- slices.ContainsFunc(()jacquard/api.Atom,jacquard/api.Atom): 132 -/
set_option maxRecDepth 100000 in
theorem slices_ContainsFunc_sAtom_Atom_eq (C : CallF) (L : LoopF) (G : Glo) (x0 : Cell) (x1 : Cell) (h0 : AHeap) :
    slices_ContainsFunc_sAtom_Atom.body C L G [(.c x0), (.c x1)] h0 =
    c1 (C 149 [(.c x0), (.c x1)] h0) fun y_2 h_1 => asI .i64 y_2 fun n_3 => some ([(.c (.bool (decide (n_3 ≥ 0))))], h_1) := by kernel_rfl

/- slices.Index(()byte,byte): 134 -/
def slices_Index_sbyte_byte_k2 (C : CallF) (L : LoopF) (G : Glo) (h0 : AHeap) : Ex → St → Option (List AV × AHeap) :=
  kSeq (fun st => slices_Index_sbyte_byte_p1.exec C L G st (slices_Index_sbyte_byte.fin G h0)) (slices_Index_sbyte_byte.fin G h0)
def slices_Index_sbyte_byte_k3 (C : CallF) (L : LoopF) (G : Glo) (h0 : AHeap) : Ex → St → Option (List AV × AHeap) :=
  kBlk 0 (slices_Index_sbyte_byte_k2 C L G h0)
def slices_Index_sbyte_byte_s1 (x0 : Cell) (a1 : Int) (a7 : Int) (a8 : Int) (h : AHeap) : St := ⟨[.v (.c x0), .v (.c (.int .u8 a1)), .top, .top, .top, .top, .top, .v (.c (.int .i64 a7)), .v (.c (.int .i64 a8)), .top, .top, .top, .top, .top, .top, .top, .top, .top, .top], [], h⟩
def slices_Index_sbyte_byte_F1 (C : CallF) (L : LoopF) (G : Glo) : St → Option (Ex × St) :=
  roundF (fun st f => slices_Index_sbyte_byte_b1.exec C L G st f) [0, 1, 7, 8] [] [(0, [4], []), (1, [], [])]
def slices_Index_sbyte_byte_x1_0 (a4 : Int) (h : AHeap) : St := ⟨[.top, .top, .top, .top, .v (.c (.int .i64 a4)), .top, .top, .top, .top, .top, .top, .top, .top, .top, .top, .top, .top, .top, .top], [], h⟩
def slices_Index_sbyte_byte_x1_1 (h : AHeap) : St := ⟨[.top, .top, .top, .top, .top, .top, .top, .top, .top, .top, .top, .top, .top, .top, .top, .top, .top, .top, .top], [], h⟩
theorem slices_Index_sbyte_byte_r1 (C : CallF) (L : LoopF) (G : Glo) (x0 : Cell) (a1 : Int) (a7 : Int) (a8 : Int) (h : AHeap) :
    slices_Index_sbyte_byte_F1 C L G (slices_Index_sbyte_byte_s1 x0 a1 a7 a8 h) =
    if (decide (a8 < a7)) = true then idxSK 1 x0 a8 fun k_2 N_3 o_4 => rdH h k_2 N_3 fun l_5 => atK l_5 o_4 fun q_6 => asI .u8 (.c q_6) fun n_7 => if (a1 == n_7) = true then some (.ret, (slices_Index_sbyte_byte_x1_0 a8 h)) else some (.normal, (slices_Index_sbyte_byte_s1 x0 a1 a7 (G.wrap .i64 (a8 + 1)) h)) else some ((.exit 0), (slices_Index_sbyte_byte_x1_1 h)) := by kernel_rfl
theorem slices_Index_sbyte_byte_e1_0 (C : CallF) (L : LoopF) (G : Glo) (h0 : AHeap) (a4 : Int) (h : AHeap) :
    (slices_Index_sbyte_byte_k3 C L G h0) .ret (slices_Index_sbyte_byte_x1_0 a4 h) =
    some ([(.c (.int .i64 a4))], h) := by kernel_rfl
theorem slices_Index_sbyte_byte_e1_1 (C : CallF) (L : LoopF) (G : Glo) (h0 : AHeap) (h : AHeap) :
    (slices_Index_sbyte_byte_k3 C L G h0) (.exit 0) (slices_Index_sbyte_byte_x1_1 h) =
    some ([(.c (.int .i64 (-1)))], h) := by kernel_rfl
set_option maxRecDepth 100000 in
theorem slices_Index_sbyte_byte_eq (C : CallF) (L : LoopF) (G : Glo) (x0 : Cell) (a1 : Int) (h0 : AHeap) :
    slices_Index_sbyte_byte.body C L G [(.c x0), (.c (.int .u8 a1))] h0 =
    lenK x0 fun n_1 => (L (slices_Index_sbyte_byte_F1 C L G) (slices_Index_sbyte_byte_s1 x0 a1 n_1 0 h0)).bind fun p_8 => (slices_Index_sbyte_byte_k3 C L G h0) p_8.1 p_8.2 := by kernel_rfl

/- slices.ContainsFunc(()jacquard/api.Init,jacquard/api.Init): 143 -/
set_option maxRecDepth 100000 in
theorem slices_ContainsFunc_sInit_Init_eq (C : CallF) (L : LoopF) (G : Glo) (x0 : Cell) (x1 : Cell) (h0 : AHeap) :
    slices_ContainsFunc_sInit_Init.body C L G [(.c x0), (.c x1)] h0 =
    c1 (C 160 [(.c x0), (.c x1)] h0) fun y_2 h_1 => asI .i64 y_2 fun n_3 => some ([(.c (.bool (decide (n_3 ≥ 0))))], h_1) := by kernel_rfl

/- slices.ContainsFunc(()()jacquard/api.Atom,()jacquard/api.Atom): 146 -/
set_option maxRecDepth 100000 in
theorem slices_ContainsFunc_ssAtom_sAtom_eq (C : CallF) (L : LoopF) (G : Glo) (x0 : Cell) (x1 : Cell) (h0 : AHeap) :
    slices_ContainsFunc_ssAtom_sAtom.body C L G [(.c x0), (.c x1)] h0 =
    c1 (C 162 [(.c x0), (.c x1)] h0) fun y_2 h_1 => asI .i64 y_2 fun n_3 => some ([(.c (.bool (decide (n_3 ≥ 0))))], h_1) := by kernel_rfl

/- slices.IndexFunc(()()jacquard/api.Ins,()jacquard/api.Ins): 147 -/
def slices_IndexFunc_ssIns_sIns_k2 (C : CallF) (L : LoopF) (G : Glo) (h0 : AHeap) : Ex → St → Option (List AV × AHeap) :=
  kSeq (fun st => slices_IndexFunc_ssIns_sIns_p1.exec C L G st (slices_IndexFunc_ssIns_sIns.fin G h0)) (slices_IndexFunc_ssIns_sIns.fin G h0)
def slices_IndexFunc_ssIns_sIns_k3 (C : CallF) (L : LoopF) (G : Glo) (h0 : AHeap) : Ex → St → Option (List AV × AHeap) :=
  kBlk 0 (slices_IndexFunc_ssIns_sIns_k2 C L G h0)
def slices_IndexFunc_ssIns_sIns_s1 (x0 : Cell) (x1 : Cell) (a7 : Int) (a8 : Int) (h : AHeap) : St := ⟨[.v (.c x0), .v (.c x1), .top, .top, .top, .top, .top, .v (.c (.int .i64 a7)), .v (.c (.int .i64 a8)), .top, .top, .top, .top, .top, .top, .top, .top, .top, .top], [], h⟩
def slices_IndexFunc_ssIns_sIns_F1 (C : CallF) (L : LoopF) (G : Glo) : St → Option (Ex × St) :=
  roundF (fun st f => slices_IndexFunc_ssIns_sIns_b1.exec C L G st f) [0, 1, 7, 8] [] [(0, [4], []), (1, [], [])]
def slices_IndexFunc_ssIns_sIns_x1_0 (a4 : Int) (h : AHeap) : St := ⟨[.top, .top, .top, .top, .v (.c (.int .i64 a4)), .top, .top, .top, .top, .top, .top, .top, .top, .top, .top, .top, .top, .top, .top], [], h⟩
def slices_IndexFunc_ssIns_sIns_x1_1 (h : AHeap) : St := ⟨[.top, .top, .top, .top, .top, .top, .top, .top, .top, .top, .top, .top, .top, .top, .top, .top, .top, .top, .top], [], h⟩
theorem slices_IndexFunc_ssIns_sIns_r1 (C : CallF) (L : LoopF) (G : Glo) (x0 : Cell) (x1 : Cell) (a7 : Int) (a8 : Int) (h : AHeap) :
    slices_IndexFunc_ssIns_sIns_F1 C L G (slices_IndexFunc_ssIns_sIns_s1 x0 x1 a7 a8 h) =
    if (decide (a8 < a7)) = true then idxSK 1 x0 a8 fun k_2 N_3 o_4 => rdH h k_2 N_3 fun l_5 => atK l_5 o_4 fun q_6 => fnK x1 fun g_7 l_8 => c1 (C g_7 ([(.c q_6)] ++ l_8) h) fun y_10 h_9 => asB y_10 fun b_11 => if b_11 = true then some (.ret, (slices_IndexFunc_ssIns_sIns_x1_0 a8 h_9)) else some (.normal, (slices_IndexFunc_ssIns_sIns_s1 x0 x1 a7 (G.wrap .i64 (a8 + 1)) h_9)) else some ((.exit 0), (slices_IndexFunc_ssIns_sIns_x1_1 h)) := by kernel_rfl
theorem slices_IndexFunc_ssIns_sIns_e1_0 (C : CallF) (L : LoopF) (G : Glo) (h0 : AHeap) (a4 : Int) (h : AHeap) :
    (slices_IndexFunc_ssIns_sIns_k3 C L G h0) .ret (slices_IndexFunc_ssIns_sIns_x1_0 a4 h) =
    some ([(.c (.int .i64 a4))], h) := by kernel_rfl
theorem slices_IndexFunc_ssIns_sIns_e1_1 (C : CallF) (L : LoopF) (G : Glo) (h0 : AHeap) (h : AHeap) :
    (slices_IndexFunc_ssIns_sIns_k3 C L G h0) (.exit 0) (slices_IndexFunc_ssIns_sIns_x1_1 h) =
    some ([(.c (.int .i64 (-1)))], h) := by kernel_rfl
set_option maxRecDepth 100000 in
theorem slices_IndexFunc_ssIns_sIns_eq (C : CallF) (L : LoopF) (G : Glo) (x0 : Cell) (x1 : Cell) (h0 : AHeap) :
    slices_IndexFunc_ssIns_sIns.body C L G [(.c x0), (.c x1)] h0 =
    lenK x0 fun n_1 => (L (slices_IndexFunc_ssIns_sIns_F1 C L G) (slices_IndexFunc_ssIns_sIns_s1 x0 x1 n_1 0 h0)).bind fun p_12 => (slices_IndexFunc_ssIns_sIns_k3 C L G h0) p_12.1 p_12.2 := by kernel_rfl

/- slices.IndexFunc(()jacquard/api.Atom,jacquard/api.Atom): 149 -/
def slices_IndexFunc_sAtom_Atom_k2 (C : CallF) (L : LoopF) (G : Glo) (h0 : AHeap) : Ex → St → Option (List AV × AHeap) :=
  kSeq (fun st => slices_IndexFunc_sAtom_Atom_p1.exec C L G st (slices_IndexFunc_sAtom_Atom.fin G h0)) (slices_IndexFunc_sAtom_Atom.fin G h0)
def slices_IndexFunc_sAtom_Atom_k3 (C : CallF) (L : LoopF) (G : Glo) (h0 : AHeap) : Ex → St → Option (List AV × AHeap) :=
  kBlk 0 (slices_IndexFunc_sAtom_Atom_k2 C L G h0)
def slices_IndexFunc_sAtom_Atom_s1 (x0 : Cell) (x1 : Cell) (a7 : Int) (a8 : Int) (h : AHeap) : St := ⟨[.v (.c x0), .v (.c x1), .top, .top, .top, .top, .top, .v (.c (.int .i64 a7)), .v (.c (.int .i64 a8)), .top, .top, .top, .top, .top, .top, .top, .top, .top, .top], [], h⟩
def slices_IndexFunc_sAtom_Atom_F1 (C : CallF) (L : LoopF) (G : Glo) : St → Option (Ex × St) :=
  roundF (fun st f => slices_IndexFunc_sAtom_Atom_b1.exec C L G st f) [0, 1, 7, 8] [] [(0, [4], []), (1, [], [])]
def slices_IndexFunc_sAtom_Atom_x1_0 (a4 : Int) (h : AHeap) : St := ⟨[.top, .top, .top, .top, .v (.c (.int .i64 a4)), .top, .top, .top, .top, .top, .top, .top, .top, .top, .top, .top, .top, .top, .top], [], h⟩
def slices_IndexFunc_sAtom_Atom_x1_1 (h : AHeap) : St := ⟨[.top, .top, .top, .top, .top, .top, .top, .top, .top, .top, .top, .top, .top, .top, .top, .top, .top, .top, .top], [], h⟩
theorem slices_IndexFunc_sAtom_Atom_r1 (C : CallF) (L : LoopF) (G : Glo) (x0 : Cell) (x1 : Cell) (a7 : Int) (a8 : Int) (h : AHeap) :
    slices_IndexFunc_sAtom_Atom_F1 C L G (slices_IndexFunc_sAtom_Atom_s1 x0 x1 a7 a8 h) =
    if (decide (a8 < a7)) = true then idxSK 4 x0 a8 fun k_2 N_3 o_4 => rdH h k_2 N_3 fun l_5 => if o_4 + 4 ≤ l_5.length then fnK x1 fun g_6 l_7 => c1 (C g_6 ([(.agg ((l_5.drop o_4).take 4))] ++ l_7) h) fun y_9 h_8 => asB y_9 fun b_10 => if b_10 = true then some (.ret, (slices_IndexFunc_sAtom_Atom_x1_0 a8 h_8)) else some (.normal, (slices_IndexFunc_sAtom_Atom_s1 x0 x1 a7 (G.wrap .i64 (a8 + 1)) h_8)) else none else some ((.exit 0), (slices_IndexFunc_sAtom_Atom_x1_1 h)) := by kernel_rfl
theorem slices_IndexFunc_sAtom_Atom_e1_0 (C : CallF) (L : LoopF) (G : Glo) (h0 : AHeap) (a4 : Int) (h : AHeap) :
    (slices_IndexFunc_sAtom_Atom_k3 C L G h0) .ret (slices_IndexFunc_sAtom_Atom_x1_0 a4 h) =
    some ([(.c (.int .i64 a4))], h) := by kernel_rfl
theorem slices_IndexFunc_sAtom_Atom_e1_1 (C : CallF) (L : LoopF) (G : Glo) (h0 : AHeap) (h : AHeap) :
    (slices_IndexFunc_sAtom_Atom_k3 C L G h0) (.exit 0) (slices_IndexFunc_sAtom_Atom_x1_1 h) =
    some ([(.c (.int .i64 (-1)))], h) := by kernel_rfl
set_option maxRecDepth 100000 in
theorem slices_IndexFunc_sAtom_Atom_eq (C : CallF) (L : LoopF) (G : Glo) (x0 : Cell) (x1 : Cell) (h0 : AHeap) :
    slices_IndexFunc_sAtom_Atom.body C L G [(.c x0), (.c x1)] h0 =
    lenK x0 fun n_1 => (L (slices_IndexFunc_sAtom_Atom_F1 C L G) (slices_IndexFunc_sAtom_Atom_s1 x0 x1 n_1 0 h0)).bind fun p_11 => (slices_IndexFunc_sAtom_Atom_k3 C L G h0) p_11.1 p_11.2 := by kernel_rfl

/- slices.ContainsFunc(()jacquard/api.Ins,jacquard/api.Ins): 155 -/
set_option maxRecDepth 100000 in
theorem slices_ContainsFunc_sIns_Ins_eq (C : CallF) (L : LoopF) (G : Glo) (x0 : Cell) (x1 : Cell) (h0 : AHeap) :
    slices_ContainsFunc_sIns_Ins.body C L G [(.c x0), (.c x1)] h0 =
    c1 (C 156 [(.c x0), (.c x1)] h0) fun y_2 h_1 => asI .i64 y_2 fun n_3 => some ([(.c (.bool (decide (n_3 ≥ 0))))], h_1) := by kernel_rfl

/- slices.IndexFunc(()jacquard/api.Ins,jacquard/api.Ins): 156 -/
def slices_IndexFunc_sIns_Ins_k2 (C : CallF) (L : LoopF) (G : Glo) (h0 : AHeap) : Ex → St → Option (List AV × AHeap) :=
  kSeq (fun st => slices_IndexFunc_sIns_Ins_p1.exec C L G st (slices_IndexFunc_sIns_Ins.fin G h0)) (slices_IndexFunc_sIns_Ins.fin G h0)
def slices_IndexFunc_sIns_Ins_k3 (C : CallF) (L : LoopF) (G : Glo) (h0 : AHeap) : Ex → St → Option (List AV × AHeap) :=
  kBlk 0 (slices_IndexFunc_sIns_Ins_k2 C L G h0)
def slices_IndexFunc_sIns_Ins_s1 (x0 : Cell) (x1 : Cell) (a7 : Int) (a8 : Int) (h : AHeap) : St := ⟨[.v (.c x0), .v (.c x1), .top, .top, .top, .top, .top, .v (.c (.int .i64 a7)), .v (.c (.int .i64 a8)), .top, .top, .top, .top, .top, .top, .top, .top, .top, .top], [], h⟩
def slices_IndexFunc_sIns_Ins_F1 (C : CallF) (L : LoopF) (G : Glo) : St → Option (Ex × St) :=
  roundF (fun st f => slices_IndexFunc_sIns_Ins_b1.exec C L G st f) [0, 1, 7, 8] [] [(0, [4], []), (1, [], [])]
def slices_IndexFunc_sIns_Ins_x1_0 (a4 : Int) (h : AHeap) : St := ⟨[.top, .top, .top, .top, .v (.c (.int .i64 a4)), .top, .top, .top, .top, .top, .top, .top, .top, .top, .top, .top, .top, .top, .top], [], h⟩
def slices_IndexFunc_sIns_Ins_x1_1 (h : AHeap) : St := ⟨[.top, .top, .top, .top, .top, .top, .top, .top, .top, .top, .top, .top, .top, .top, .top, .top, .top, .top, .top], [], h⟩
theorem slices_IndexFunc_sIns_Ins_r1 (C : CallF) (L : LoopF) (G : Glo) (x0 : Cell) (x1 : Cell) (a7 : Int) (a8 : Int) (h : AHeap) :
    slices_IndexFunc_sIns_Ins_F1 C L G (slices_IndexFunc_sIns_Ins_s1 x0 x1 a7 a8 h) =
    if (decide (a8 < a7)) = true then idxSK 9 x0 a8 fun k_2 N_3 o_4 => rdH h k_2 N_3 fun l_5 => if o_4 + 9 ≤ l_5.length then fnK x1 fun g_6 l_7 => c1 (C g_6 ([(.agg ((l_5.drop o_4).take 9))] ++ l_7) h) fun y_9 h_8 => asB y_9 fun b_10 => if b_10 = true then some (.ret, (slices_IndexFunc_sIns_Ins_x1_0 a8 h_8)) else some (.normal, (slices_IndexFunc_sIns_Ins_s1 x0 x1 a7 (G.wrap .i64 (a8 + 1)) h_8)) else none else some ((.exit 0), (slices_IndexFunc_sIns_Ins_x1_1 h)) := by kernel_rfl
theorem slices_IndexFunc_sIns_Ins_e1_0 (C : CallF) (L : LoopF) (G : Glo) (h0 : AHeap) (a4 : Int) (h : AHeap) :
    (slices_IndexFunc_sIns_Ins_k3 C L G h0) .ret (slices_IndexFunc_sIns_Ins_x1_0 a4 h) =
    some ([(.c (.int .i64 a4))], h) := by kernel_rfl
theorem slices_IndexFunc_sIns_Ins_e1_1 (C : CallF) (L : LoopF) (G : Glo) (h0 : AHeap) (h : AHeap) :
    (slices_IndexFunc_sIns_Ins_k3 C L G h0) (.exit 0) (slices_IndexFunc_sIns_Ins_x1_1 h) =
    some ([(.c (.int .i64 (-1)))], h) := by kernel_rfl
set_option maxRecDepth 100000 in
theorem slices_IndexFunc_sIns_Ins_eq (C : CallF) (L : LoopF) (G : Glo) (x0 : Cell) (x1 : Cell) (h0 : AHeap) :
    slices_IndexFunc_sIns_Ins.body C L G [(.c x0), (.c x1)] h0 =
    lenK x0 fun n_1 => (L (slices_IndexFunc_sIns_Ins_F1 C L G) (slices_IndexFunc_sIns_Ins_s1 x0 x1 n_1 0 h0)).bind fun p_11 => (slices_IndexFunc_sIns_Ins_k3 C L G h0) p_11.1 p_11.2 := by kernel_rfl

/- slices.IndexFunc(()jacquard/api.Init,jacquard/api.Init): 160 -/
def slices_IndexFunc_sInit_Init_k2 (C : CallF) (L : LoopF) (G : Glo) (h0 : AHeap) : Ex → St → Option (List AV × AHeap) :=
  kSeq (fun st => slices_IndexFunc_sInit_Init_p1.exec C L G st (slices_IndexFunc_sInit_Init.fin G h0)) (slices_IndexFunc_sInit_Init.fin G h0)
def slices_IndexFunc_sInit_Init_k3 (C : CallF) (L : LoopF) (G : Glo) (h0 : AHeap) : Ex → St → Option (List AV × AHeap) :=
  kBlk 0 (slices_IndexFunc_sInit_Init_k2 C L G h0)
def slices_IndexFunc_sInit_Init_s1 (x0 : Cell) (x1 : Cell) (a7 : Int) (a8 : Int) (h : AHeap) : St := ⟨[.v (.c x0), .v (.c x1), .top, .top, .top, .top, .top, .v (.c (.int .i64 a7)), .v (.c (.int .i64 a8)), .top, .top, .top, .top, .top, .top, .top, .top, .top, .top], [], h⟩
def slices_IndexFunc_sInit_Init_F1 (C : CallF) (L : LoopF) (G : Glo) : St → Option (Ex × St) :=
  roundF (fun st f => slices_IndexFunc_sInit_Init_b1.exec C L G st f) [0, 1, 7, 8] [] [(0, [4], []), (1, [], [])]
def slices_IndexFunc_sInit_Init_x1_0 (a4 : Int) (h : AHeap) : St := ⟨[.top, .top, .top, .top, .v (.c (.int .i64 a4)), .top, .top, .top, .top, .top, .top, .top, .top, .top, .top, .top, .top, .top, .top], [], h⟩
def slices_IndexFunc_sInit_Init_x1_1 (h : AHeap) : St := ⟨[.top, .top, .top, .top, .top, .top, .top, .top, .top, .top, .top, .top, .top, .top, .top, .top, .top, .top, .top], [], h⟩
theorem slices_IndexFunc_sInit_Init_r1 (C : CallF) (L : LoopF) (G : Glo) (x0 : Cell) (x1 : Cell) (a7 : Int) (a8 : Int) (h : AHeap) :
    slices_IndexFunc_sInit_Init_F1 C L G (slices_IndexFunc_sInit_Init_s1 x0 x1 a7 a8 h) =
    if (decide (a8 < a7)) = true then idxSK 2 x0 a8 fun k_2 N_3 o_4 => rdH h k_2 N_3 fun l_5 => if o_4 + 2 ≤ l_5.length then fnK x1 fun g_6 l_7 => c1 (C g_6 ([(.agg ((l_5.drop o_4).take 2))] ++ l_7) h) fun y_9 h_8 => asB y_9 fun b_10 => if b_10 = true then some (.ret, (slices_IndexFunc_sInit_Init_x1_0 a8 h_8)) else some (.normal, (slices_IndexFunc_sInit_Init_s1 x0 x1 a7 (G.wrap .i64 (a8 + 1)) h_8)) else none else some ((.exit 0), (slices_IndexFunc_sInit_Init_x1_1 h)) := by kernel_rfl
theorem slices_IndexFunc_sInit_Init_e1_0 (C : CallF) (L : LoopF) (G : Glo) (h0 : AHeap) (a4 : Int) (h : AHeap) :
    (slices_IndexFunc_sInit_Init_k3 C L G h0) .ret (slices_IndexFunc_sInit_Init_x1_0 a4 h) =
    some ([(.c (.int .i64 a4))], h) := by kernel_rfl
theorem slices_IndexFunc_sInit_Init_e1_1 (C : CallF) (L : LoopF) (G : Glo) (h0 : AHeap) (h : AHeap) :
    (slices_IndexFunc_sInit_Init_k3 C L G h0) (.exit 0) (slices_IndexFunc_sInit_Init_x1_1 h) =
    some ([(.c (.int .i64 (-1)))], h) := by kernel_rfl
set_option maxRecDepth 100000 in
theorem slices_IndexFunc_sInit_Init_eq (C : CallF) (L : LoopF) (G : Glo) (x0 : Cell) (x1 : Cell) (h0 : AHeap) :
    slices_IndexFunc_sInit_Init.body C L G [(.c x0), (.c x1)] h0 =
    lenK x0 fun n_1 => (L (slices_IndexFunc_sInit_Init_F1 C L G) (slices_IndexFunc_sInit_Init_s1 x0 x1 n_1 0 h0)).bind fun p_11 => (slices_IndexFunc_sInit_Init_k3 C L G h0) p_11.1 p_11.2 := by kernel_rfl

/- slices.IndexFunc(()()jacquard/api.Atom,()jacquard/api.Atom): 162 -/
def slices_IndexFunc_ssAtom_sAtom_k2 (C : CallF) (L : LoopF) (G : Glo) (h0 : AHeap) : Ex → St → Option (List AV × AHeap) :=
  kSeq (fun st => slices_IndexFunc_ssAtom_sAtom_p1.exec C L G st (slices_IndexFunc_ssAtom_sAtom.fin G h0)) (slices_IndexFunc_ssAtom_sAtom.fin G h0)
def slices_IndexFunc_ssAtom_sAtom_k3 (C : CallF) (L : LoopF) (G : Glo) (h0 : AHeap) : Ex → St → Option (List AV × AHeap) :=
  kBlk 0 (slices_IndexFunc_ssAtom_sAtom_k2 C L G h0)
def slices_IndexFunc_ssAtom_sAtom_s1 (x0 : Cell) (x1 : Cell) (a7 : Int) (a8 : Int) (h : AHeap) : St := ⟨[.v (.c x0), .v (.c x1), .top, .top, .top, .top, .top, .v (.c (.int .i64 a7)), .v (.c (.int .i64 a8)), .top, .top, .top, .top, .top, .top, .top, .top, .top, .top], [], h⟩
def slices_IndexFunc_ssAtom_sAtom_F1 (C : CallF) (L : LoopF) (G : Glo) : St → Option (Ex × St) :=
  roundF (fun st f => slices_IndexFunc_ssAtom_sAtom_b1.exec C L G st f) [0, 1, 7, 8] [] [(0, [4], []), (1, [], [])]
def slices_IndexFunc_ssAtom_sAtom_x1_0 (a4 : Int) (h : AHeap) : St := ⟨[.top, .top, .top, .top, .v (.c (.int .i64 a4)), .top, .top, .top, .top, .top, .top, .top, .top, .top, .top, .top, .top, .top, .top], [], h⟩
def slices_IndexFunc_ssAtom_sAtom_x1_1 (h : AHeap) : St := ⟨[.top, .top, .top, .top, .top, .top, .top, .top, .top, .top, .top, .top, .top, .top, .top, .top, .top, .top, .top], [], h⟩
theorem slices_IndexFunc_ssAtom_sAtom_r1 (C : CallF) (L : LoopF) (G : Glo) (x0 : Cell) (x1 : Cell) (a7 : Int) (a8 : Int) (h : AHeap) :
    slices_IndexFunc_ssAtom_sAtom_F1 C L G (slices_IndexFunc_ssAtom_sAtom_s1 x0 x1 a7 a8 h) =
    if (decide (a8 < a7)) = true then idxSK 1 x0 a8 fun k_2 N_3 o_4 => rdH h k_2 N_3 fun l_5 => atK l_5 o_4 fun q_6 => fnK x1 fun g_7 l_8 => c1 (C g_7 ([(.c q_6)] ++ l_8) h) fun y_10 h_9 => asB y_10 fun b_11 => if b_11 = true then some (.ret, (slices_IndexFunc_ssAtom_sAtom_x1_0 a8 h_9)) else some (.normal, (slices_IndexFunc_ssAtom_sAtom_s1 x0 x1 a7 (G.wrap .i64 (a8 + 1)) h_9)) else some ((.exit 0), (slices_IndexFunc_ssAtom_sAtom_x1_1 h)) := by kernel_rfl
theorem slices_IndexFunc_ssAtom_sAtom_e1_0 (C : CallF) (L : LoopF) (G : Glo) (h0 : AHeap) (a4 : Int) (h : AHeap) :
    (slices_IndexFunc_ssAtom_sAtom_k3 C L G h0) .ret (slices_IndexFunc_ssAtom_sAtom_x1_0 a4 h) =
    some ([(.c (.int .i64 a4))], h) := by kernel_rfl
theorem slices_IndexFunc_ssAtom_sAtom_e1_1 (C : CallF) (L : LoopF) (G : Glo) (h0 : AHeap) (h : AHeap) :
    (slices_IndexFunc_ssAtom_sAtom_k3 C L G h0) (.exit 0) (slices_IndexFunc_ssAtom_sAtom_x1_1 h) =
    some ([(.c (.int .i64 (-1)))], h) := by kernel_rfl
set_option maxRecDepth 100000 in
theorem slices_IndexFunc_ssAtom_sAtom_eq (C : CallF) (L : LoopF) (G : Glo) (x0 : Cell) (x1 : Cell) (h0 : AHeap) :
    slices_IndexFunc_ssAtom_sAtom.body C L G [(.c x0), (.c x1)] h0 =
    lenK x0 fun n_1 => (L (slices_IndexFunc_ssAtom_sAtom_F1 C L G) (slices_IndexFunc_ssAtom_sAtom_s1 x0 x1 n_1 0 h0)).bind fun p_12 => (slices_IndexFunc_ssAtom_sAtom_k3 C L G h0) p_12.1 p_12.2 := by kernel_rfl


end Jq

/- Events: those at the beginning; their order; whether two rows are the same; laws of them. -/
namespace Jq
open Go

def initsE (l : List Int) : List Evt := (List.range l.length).map fun (i : Nat) => ⟨-1, i, 2, i, 0, l.getD i 0⟩

theorem getDI {l : List Int} {i : Nat} (hi : i < l.length) : l[i]? = some (l.getD i 0) := by
  rw [List.getD_eq_getElem?_getD, List.getElem?_eq_getElem hi]; rfl

theorem takeI_succ {α : Type} {l : List α} {i : Nat} {p : α} (h : l[i]? = some p) : l.take (i + 1) = l.take i ++ [p] := by
  rw [List.take_add_one, h]; rfl

def shEv : Sh := .agg (Sh.rep (.i .i64) 6)
section
variable {E : Env}

def evRd (e : Evt) : Bool := e.kind == 1 || e.kind == 4 || e.kind == 5
def evWr (e : Evt) : Bool := e.kind == 2 || e.kind == 4
def evFn (e : Evt) : Bool := e.kind == 3 || e.kind == 4 || e.kind == 5

/-- Is one ahead of another by their threads? -/
def poB (a b : Evt) : Bool := (decide (a.t < 0) && decide (b.t ≥ 0)) || (decide (a.t ≥ 0) && a.t == b.t && decide (a.i < b.i))
def poL (l : List Evt) (a b : Nat) : Bool := poB (l.getD a ⟨0, 0, 0, 0, 0, 0⟩) (l.getD b ⟨0, 0, 0, 0, 0, 0⟩)

end
end Jq

/- Tests in memory; their locations; made ready as the document says. -/
namespace Jq
open Go

structure Atm where
  thread : Int
  reg : Int
  loc : Int
  value : Int
def Atm.cs (a : Atm) : List Cell := [.int .i64 a.thread, .int .i64 a.reg, .int .i64 a.loc, .int .i64 a.value]
def atmC (l : List Atm) : List Cell := l.flatMap Atm.cs
theorem Atm.len (a : Atm) : a.cs.length = 4 := rfl
theorem atmC_at : ∀ (l : List Atm) (i : Nat) (s : Atm), l[i]? = some s → ((atmC l).drop (i * 4)).take 4 = s.cs
  | [], _, _, h => by simp at h
  | q :: l, 0, s, h => by simp at h; subst h; rfl
  | q :: l, i + 1, s, h => by
    have := atmC_at l i s (by simpa using h)
    have e : atmC (q :: l) = q.cs ++ atmC l := rfl
    rw [e, List.drop_append, List.drop_of_length_le (by rw [Atm.len]; omega), List.nil_append, show (i + 1) * 4 - q.cs.length = i * 4 by rw [Atm.len]; omega]
    exact this
theorem atmC_cell {l : List Atm} {i j : Nat} {s : Atm} {c : Cell} (h : l[i]? = some s) (hj : j < 4) (hc : s.cs[j]? = some c) : (atmC l)[i * 4 + j]? = some c := by
  rw [← hc, ← atmC_at l i s h, List.getElem?_take, if_pos hj, List.getElem?_drop]
theorem codeC_cell {l : List Ins} {i j : Nat} {s : Ins} {c : Cell} (h : l[i]? = some s) (hj : j < 9) (hc : s.cs[j]? = some c) : (codeC l)[i * 9 + j]? = some c := by
  rw [← hc, ← codeC_at l i s h, List.getElem?_take, if_pos hj, List.getElem?_drop]

structure PTest where
  name : ByteArray
  inits : List (Int × Int)
  thr : List (List Ins)
  ck : Int
  any : List (List Atm)

/-- Rows that lie there. -/
def RowsOf {α : Type} (esz : Nat) (C : List α → List Cell) (h : AHeap) (x : Cell) (rows : List (List α)) : Prop :=
  ∃ ts, SlAt h x 1 ts rows.length ∧ Low h.length x ∧ ∀ (t : Nat) (r : List α), rows[t]? = some r → ∃ y : Cell, ts[t]? = some y ∧ SlAt h y esz (C r) r.length ∧ Low h.length y

theorem RowsOf.keep {α : Type} {esz : Nat} {C : List α → List Cell} {h h' : AHeap} {x : Cell} {rows : List (List α)} (r : RowsOf esz C h x rows) (hk : Kp h.length h h') : RowsOf esz C h' x rows := by
  obtain ⟨ts, h1, h2, h3⟩ := r
  exact ⟨ts, h1.keep h2 hk, Low_mono hk.1 h2, fun t r hr => by
    obtain ⟨y, y1, y2, y3⟩ := h3 t r hr
    exact ⟨y, y1, y2.keep y3 hk, Low_mono hk.1 y3⟩⟩

theorem RowsOf.get {α β : Type} {esz : Nat} {C : List α → List Cell} {h : AHeap} {x : Cell} {rows : List (List α)} (r : RowsOf esz C h x rows) {t : Nat} {row : List α} (ht : rows[t]? = some row) :
    ∃ y, SlAt h y esz (C row) row.length ∧ Low h.length y ∧ ∀ (f : Cell → Option β), (idxSK 1 x (t : Int) fun k N o => rdH h k N fun l => atK l o f) = f y := by
  obtain ⟨ts, h1, h2, h3⟩ := r
  obtain ⟨y, y1, y2, y3⟩ := h3 t row ht
  exact ⟨y, y2, y3, fun f => h1.get1 (getI_lt ht) y1⟩

theorem RowsOf.len {α β : Type} {esz : Nat} {C : List α → List Cell} {h : AHeap} {x : Cell} {rows : List (List α)} (r : RowsOf esz C h x rows) {f : Int → Option β} : lenK x f = f rows.length := by
  obtain ⟨ts, h1, _⟩ := r; exact h1.len

/-- A test lies there. -/
def TestAt (h : AHeap) (cs : List Cell) (T : PTest) : Prop :=
  ∃ a b c, cs = [.str T.name, a, b, .int .i64 T.ck, c] ∧ (SlAt h a 2 (pairC T.inits) T.inits.length ∧ Low h.length a) ∧ RowsOf 9 codeC h b T.thr ∧ RowsOf 4 atmC h c T.any

theorem TestAt.keep {h h' : AHeap} {cs : List Cell} {T : PTest} (p : TestAt h cs T) (hk : Kp h.length h h') : TestAt h' cs T := by
  obtain ⟨a, b, c, e, ⟨a1, a2⟩, hb, hc⟩ := p
  exact ⟨a, b, c, e, ⟨a1.keep a2 hk, Low_mono hk.1 a2⟩, hb.keep hk, hc.keep hk⟩

theorem TestAt.len {h : AHeap} {cs : List Cell} {T : PTest} (p : TestAt h cs T) : cs.length = 5 := by
  obtain ⟨a, b, c, rfl, _⟩ := p; rfl

/-- Nothing of a test is long. -/
structure PTest.small (T : PTest) : Prop where
  inits : T.inits.length ≤ 1000
  thr : T.thr.length ≤ 1000
  code : ∀ c ∈ T.thr, c.length ≤ 1000
  any : T.any.length ≤ 1000
  row : ∀ c ∈ T.any, c.length ≤ 1000

/-- Is a letter named? -/
def thereT (T : PTest) (b : Nat) : Bool := (T.inits.any fun p => p.1 % 256 == (b : Int)) || (T.thr.any fun c => c.any fun i => i.loc % 256 == (b : Int)) || (T.any.any fun c => c.any fun a => a.loc % 256 == (b : Int))

/-- The locations, in order. -/
def locsF (S : Nat → Bool) (n : Nat) : List Int := ((List.range n).filter fun c => S (97 + c)).map fun (c : Nat) => ((97 + c : Nat) : Int)
def locsT (T : PTest) : List Int := locsF (thereT T) 26

theorem locsF_succ (S : Nat → Bool) (n : Nat) : locsF S (n + 1) = if S (97 + n) = true then locsF S n ++ [((97 + n : Nat) : Int)] else locsF S n := by
  unfold locsF
  rw [List.range_succ, List.filter_append, List.filter_cons, List.filter_nil]
  split <;> simp

theorem locsF_len (S : Nat → Bool) : ∀ n, (locsF S n).length ≤ n
  | 0 => by simp [locsF]
  | n + 1 => by
    have := locsF_len S n
    rw [locsF_succ]; split
    · rw [List.length_append, List.length_singleton]; omega
    · omega

theorem locsF_mem {S : Nat → Bool} {n : Nat} {x : Int} : x ∈ locsF S n ↔ ∃ c, c < n ∧ S (97 + c) = true ∧ x = ((97 + c : Nat) : Int) := by
  unfold locsF
  rw [List.mem_map]
  constructor
  · rintro ⟨c, hc, rfl⟩
    rw [List.mem_filter] at hc
    exact ⟨c, by simpa using hc.1, hc.2, rfl⟩
  · rintro ⟨c, h1, h2, rfl⟩
    exact ⟨c, by rw [List.mem_filter]; exact ⟨by simpa using h1, h2⟩, rfl⟩

theorem boolL_congr {s t : Nat → Bool} {n : Nat} (h : ∀ i, i < n → s i = t i) : boolL s n = boolL t n := List.map_congr_left fun i hi => by rw [h i (by simpa using hi)]

theorem mark_next {S S' : Nat → Bool} {v : Int} (h : ∀ b : Nat, b < 256 → S' b = (S b || (v % 256 == (b : Int)))) :
    (boolL S 256).set (0 + (v % 256).toNat * 1) (.bool true) = boolL S' 256 := by
  rw [show 0 + (v % 256).toNat * 1 = (v % 256).toNat by omega, boolL_set]
  refine boolL_congr fun i hi => ?_
  rw [h i hi]
  by_cases e : i = (v % 256).toNat
  · rw [if_pos e, show (v % 256 == (i : Int)) = true by rw [beq_iff_eq]; omega, Bool.or_true]
  · rw [if_neg e, show (v % 256 == (i : Int)) = false by rw [beq_eq_false_iff_ne]; omega, Bool.or_false]

theorem any_take_succ {α : Type} {l : List α} {i : Nat} {p : α} (h : l[i]? = some p) (f : α → Bool) : (l.take (i + 1)).any f = ((l.take i).any f || f p) := by
  rw [takeI_succ h, List.any_append]; simp

section
variable {E : Env}

theorem refLocs_R (hE : jacquardref2_Locs_In E) {cs : List Cell} {T : PTest} {h : AHeap} (p : TestAt h cs T) (hs : T.small) :
    ∃ y h', R E 121 [.agg cs] h = some ([.c y], h') ∧ Own h.length h' y 1 (intC .u8 (locsT T)) (locsT T).length ∧ Kp h.length h h' := by
  obtain ⟨a, b, c, rfl, ⟨ha, hal⟩, hb, hc⟩ := p
  have a1 : ∀ {α : Type} (f : Cell → Option α), atK [.str T.name, a, b, .int .i64 T.ck, c] 1 f = f a := fun _ => rfl
  have a2 : ∀ {α : Type} (f : Cell → Option α), atK [.str T.name, a, b, .int .i64 T.ck, c] 2 f = f b := fun _ => rfl
  have a4 : ∀ {α : Type} (f : Cell → Option α), atK [.str T.name, a, b, .int .i64 T.ck, c] 4 f = f c := fun _ => rfl
  have w : ∀ v : Int, 0 ≤ v % 256 ∧ v % 256 < ((256 : Nat) : Int) := fun v => by omega
  have w2 : ∀ (v : Int) (S : Nat → Bool), 0 + Int.toNat (v % 256) * 1 < (boolL S 256).length := fun v S => by rw [boolL_len]; omega
  have loop1 : Lim (jacquardref2_Locs_F1 (R E) Lim E.glob) (jacquardref2_Locs_s1 ((0 : Nat) : Int) [.str T.name, a, b, .int .i64 T.ck, c] (boolL (fun q => (T.inits.take 0).any fun p => p.1 % 256 == (q : Int)) 256) h) = some (.exit 0, jacquardref2_Locs_x1_1 [.str T.name, a, b, .int .i64 T.ck, c] (boolL (fun q => (T.inits.take T.inits.length).any fun p => p.1 % 256 == (q : Int)) 256) h) := by
    refine Lim_count (fun i => jacquardref2_Locs_s1 (i : Int) [.str T.name, a, b, .int .i64 T.ck, c] (boolL (fun q => (T.inits.take i).any fun p => p.1 % 256 == (q : Int)) 256) h) 0 T.inits.length (by omega) (fun i _ hi => ?_) (Lim_exit ?_)
    · have hq : T.inits[i]? = some T.inits[i] := List.getElem?_eq_getElem hi
      generalize T.inits[i] = q at hq
      have := hs.inits
      rw [jacquardref2_Locs_r1, a1, ha.len, if_pos (by simp; omega), a1, ha.get hi (by omega) (pairC_get _ _ _ hq).1, asI_ok, g_band255, if_pos (w _), if_pos (w2 _ _), g_succ (by omega), mark_next (S' := fun r => (T.inits.take (i + 1)).any fun p => p.1 % 256 == (r : Int)) (fun r _ => any_take_succ hq _)]
    · rw [jacquardref2_Locs_r1, a1, ha.len, if_neg (by simp)]
  rw [List.take_length] at loop1
  generalize hS1 : (fun q : Nat => T.inits.any fun p => p.1 % 256 == (q : Int)) = S1 at loop1
  have loop2 : ∀ (t : Nat) (code : List Ins) (S : Nat → Bool), T.thr[t]? = some code → Lim (jacquardref2_Locs_F2 (R E) Lim E.glob) (jacquardref2_Locs_s2 (t : Int) ((0 : Nat) : Int) [.str T.name, a, b, .int .i64 T.ck, c] (boolL (fun q => S q || (code.take 0).any fun i => i.loc % 256 == (q : Int)) 256) h) = some (.exit 4, jacquardref2_Locs_x2_5 (t : Int) [.str T.name, a, b, .int .i64 T.ck, c] (boolL (fun q => S q || (code.take code.length).any fun i => i.loc % 256 == (q : Int)) 256) h) := by
    intro t code S ht
    obtain ⟨y, y1, y2, y3⟩ := hb.get (β := Ex × St) ht
    refine Lim_count (fun i => jacquardref2_Locs_s2 (t : Int) (i : Int) [.str T.name, a, b, .int .i64 T.ck, c] (boolL (fun q => S q || (code.take i).any fun i => i.loc % 256 == (q : Int)) 256) h) 0 code.length (by omega) (fun i _ hi => ?_) (Lim_exit ?_)
    · have hq : code[i]? = some code[i] := List.getElem?_eq_getElem hi
      generalize code[i] = q at hq
      have := hs.code code (List.mem_of_getElem? ht)
      rw [jacquardref2_Locs_r2, a2, y3, y1.len, if_pos (by simp; omega), a2, y3, y1.get hi (by omega) (codeC_cell hq (by omega) (c := .int .i64 q.loc) rfl), asI_ok, g_band255, if_pos (w _), if_pos (w2 _ _), g_succ (by omega), mark_next (S' := fun r => S r || (code.take (i + 1)).any fun i => i.loc % 256 == (r : Int)) (fun r _ => by rw [any_take_succ hq, Bool.or_assoc])]
    · rw [jacquardref2_Locs_r2, a2, y3, y1.len, if_neg (by simp)]
  have loop3 : Lim (jacquardref2_Locs_F3 (R E) Lim E.glob) (jacquardref2_Locs_s3 ((0 : Nat) : Int) [.str T.name, a, b, .int .i64 T.ck, c] (boolL (fun q => S1 q || (T.thr.take 0).any fun c => c.any fun i => i.loc % 256 == (q : Int)) 256) h) = some (.exit 2, jacquardref2_Locs_x3_3 [.str T.name, a, b, .int .i64 T.ck, c] (boolL (fun q => S1 q || (T.thr.take T.thr.length).any fun c => c.any fun i => i.loc % 256 == (q : Int)) 256) h) := by
    refine Lim_count (fun t => jacquardref2_Locs_s3 (t : Int) [.str T.name, a, b, .int .i64 T.ck, c] (boolL (fun q => S1 q || (T.thr.take t).any fun c => c.any fun i => i.loc % 256 == (q : Int)) 256) h) 0 T.thr.length (by omega) (fun t _ ht => ?_) (Lim_exit ?_)
    · have hq : T.thr[t]? = some T.thr[t] := List.getElem?_eq_getElem ht
      generalize T.thr[t] = code at hq
      have := hs.thr
      have l2 := loop2 t code (fun q => S1 q || (T.thr.take t).any fun c => c.any fun i => i.loc % 256 == (q : Int)) hq
      rw [List.take_length, show ((0 : Nat) : Int) = 0 from rfl] at l2
      have e0 : boolL (fun q => (S1 q || (T.thr.take t).any fun c => c.any fun i => i.loc % 256 == (q : Int)) || (code.take 0).any fun i => i.loc % 256 == (q : Int)) 256 = boolL (fun q => S1 q || (T.thr.take t).any fun c => c.any fun i => i.loc % 256 == (q : Int)) 256 := boolL_congr fun q _ => by simp
      rw [e0] at l2
      rw [jacquardref2_Locs_r3, a2, hb.len, if_pos (by simp; omega), l2, bind_ok, jacquardref2_Locs_e2_5, g_succ (by omega)]
      congr 3
      exact boolL_congr fun q _ => by rw [any_take_succ hq, Bool.or_assoc]
    · rw [jacquardref2_Locs_r3, a2, hb.len, if_neg (by simp)]
  rw [List.take_length] at loop3
  have e3 : boolL (fun q => S1 q || (T.thr.take 0).any fun c => c.any fun i => i.loc % 256 == (q : Int)) 256 = boolL S1 256 := boolL_congr fun q _ => by simp
  rw [e3, show ((0 : Nat) : Int) = 0 from rfl] at loop3
  generalize hS2 : (fun q : Nat => S1 q || T.thr.any fun c => c.any fun i => i.loc % 256 == (q : Int)) = S2 at loop3
  have loop4 : ∀ (t : Nat) (row : List Atm) (S : Nat → Bool), T.any[t]? = some row → Lim (jacquardref2_Locs_F4 (R E) Lim E.glob) (jacquardref2_Locs_s4 (t : Int) ((0 : Nat) : Int) [.str T.name, a, b, .int .i64 T.ck, c] (boolL (fun q => S q || (row.take 0).any fun i => i.loc % 256 == (q : Int)) 256) h) = some (.exit 8, jacquardref2_Locs_x4_9 (t : Int) [.str T.name, a, b, .int .i64 T.ck, c] (boolL (fun q => S q || (row.take row.length).any fun i => i.loc % 256 == (q : Int)) 256) h) := by
    intro t row S ht
    obtain ⟨y, y1, y2, y3⟩ := hc.get (β := Ex × St) ht
    refine Lim_count (fun i => jacquardref2_Locs_s4 (t : Int) (i : Int) [.str T.name, a, b, .int .i64 T.ck, c] (boolL (fun q => S q || (row.take i).any fun i => i.loc % 256 == (q : Int)) 256) h) 0 row.length (by omega) (fun i _ hi => ?_) (Lim_exit ?_)
    · have hq : row[i]? = some row[i] := List.getElem?_eq_getElem hi
      generalize row[i] = q at hq
      have := hs.row row (List.mem_of_getElem? ht)
      rw [jacquardref2_Locs_r4, a4, y3, y1.len, if_pos (by simp; omega), a4, y3, y1.get hi (by omega) (atmC_cell hq (by omega) (c := .int .i64 q.loc) rfl), asI_ok, g_band255, if_pos (w _), if_pos (w2 _ _), g_succ (by omega), mark_next (S' := fun r => S r || (row.take (i + 1)).any fun i => i.loc % 256 == (r : Int)) (fun r _ => by rw [any_take_succ hq, Bool.or_assoc])]
    · rw [jacquardref2_Locs_r4, a4, y3, y1.len, if_neg (by simp)]
  have loop5 : Lim (jacquardref2_Locs_F5 (R E) Lim E.glob) (jacquardref2_Locs_s5 ((0 : Nat) : Int) [.str T.name, a, b, .int .i64 T.ck, c] (boolL (fun q => S2 q || (T.any.take 0).any fun c => c.any fun i => i.loc % 256 == (q : Int)) 256) h) = some (.exit 6, jacquardref2_Locs_x5_7 (boolL (fun q => S2 q || (T.any.take T.any.length).any fun c => c.any fun i => i.loc % 256 == (q : Int)) 256) h) := by
    refine Lim_count (fun t => jacquardref2_Locs_s5 (t : Int) [.str T.name, a, b, .int .i64 T.ck, c] (boolL (fun q => S2 q || (T.any.take t).any fun c => c.any fun i => i.loc % 256 == (q : Int)) 256) h) 0 T.any.length (by omega) (fun t _ ht => ?_) (Lim_exit ?_)
    · have hq : T.any[t]? = some T.any[t] := List.getElem?_eq_getElem ht
      generalize T.any[t] = row at hq
      have := hs.any
      have l2 := loop4 t row (fun q => S2 q || (T.any.take t).any fun c => c.any fun i => i.loc % 256 == (q : Int)) hq
      rw [List.take_length, show ((0 : Nat) : Int) = 0 from rfl] at l2
      have e0 : boolL (fun q => (S2 q || (T.any.take t).any fun c => c.any fun i => i.loc % 256 == (q : Int)) || (row.take 0).any fun i => i.loc % 256 == (q : Int)) 256 = boolL (fun q => S2 q || (T.any.take t).any fun c => c.any fun i => i.loc % 256 == (q : Int)) 256 := boolL_congr fun q _ => by simp
      rw [e0] at l2
      rw [jacquardref2_Locs_r5, a4, hc.len, if_pos (by simp; omega), l2, bind_ok, jacquardref2_Locs_e4_9, g_succ (by omega)]
      congr 3
      exact boolL_congr fun q _ => by rw [any_take_succ hq, Bool.or_assoc]
    · rw [jacquardref2_Locs_r5, a4, hc.len, if_neg (by simp)]
  rw [List.take_length] at loop5
  have e5 : boolL (fun q => S2 q || (T.any.take 0).any fun c => c.any fun i => i.loc % 256 == (q : Int)) 256 = boolL S2 256 := boolL_congr fun q _ => by simp
  rw [e5, show ((0 : Nat) : Int) = 0 from rfl] at loop5
  have hS3 : (fun q : Nat => S2 q || T.any.any fun c => c.any fun i => i.loc % 256 == (q : Int)) = thereT T := by
    funext q; rw [← hS2, ← hS1]; rfl
  rw [hS3] at loop5
  have hm : maxBytes ≥ 100 := by unfold maxBytes; omega
  obtain ⟨st, ⟨y, h1, rfl, hy, hk⟩, hL⟩ := Lim_inv (F := jacquardref2_Locs_F6 (R E) Lim E.glob) (fun i st => ∃ y h1, st = jacquardref2_Locs_s6 y ((97 + i : Nat) : Int) (boolL (thereT T) 256) h1 ∧ Own h.length h1 y 1 (intC .u8 (locsF (thereT T) i)) (locsF (thereT T) i).length ∧ Kp h.length h h1) 0 26 (by omega)
    (fun i st _ hi => by
      rintro ⟨y, h1, rfl, hy, hk⟩
      have hlen := locsF_len (thereT T) i
      have hw : E.glob.wrap .i32 (((97 + i : Nat) : Int) + 1) = ((97 + (i + 1) : Nat) : Int) := by
        show IntKind.wrap .i32 _ = _
        simp only [IntKind.wrap, IntKind.signed, IntKind.bits, Bool.true_and]
        split
        · rename_i hh; have hh := of_decide_eq_true hh; omega
        · omega
      have hw8 : E.glob.wrap .u8 ((97 + i : Nat) : Int) = ((97 + i : Nat) : Int) := by
        show IntKind.wrap .u8 _ = _
        simp only [IntKind.wrap, IntKind.signed, IntKind.bits, Bool.false_and, Bool.false_eq_true, if_false]; omega
      have hrd : jacquardref2_Locs_F6 (R E) Lim E.glob (jacquardref2_Locs_s6 y ((97 + i : Nat) : Int) (boolL (thereT T) 256) h1) = if thereT T (97 + i) = true then appK 1 1 y [.int .u8 ((97 + i : Nat) : Int)] h1 fun x h' => some (.normal, jacquardref2_Locs_s6 x ((97 + (i + 1) : Nat) : Int) (boolL (thereT T) 256) h') else some (.normal, jacquardref2_Locs_s6 y ((97 + (i + 1) : Nat) : Int) (boolL (thereT T) 256) h1) := by
        rw [jacquardref2_Locs_r6, if_pos (by simp; omega), if_pos ⟨by omega, by omega⟩, show 0 + Int.toNat ((97 + i : Nat) : Int) * 1 = 97 + i by omega, atK_ok (boolL_get (show 97 + i < 256 by omega)), asB_ok, hw, hw8]
        rfl
      rw [hrd]
      by_cases ht : thereT T (97 + i) = true
      · obtain ⟨y2, h2, hap, hy2, hk2, _⟩ := hy.app (bytes := 1) (xs := [.int .u8 ((97 + i : Nat) : Int)]) hk.1 rfl (by omega) (by omega) (by omega)
        refine ⟨_, by rw [if_pos ht, hap], y2, h2, rfl, ?_, hk.trans hk2⟩
        rw [locsF_succ, if_pos ht, intC_snoc, List.length_append, List.length_singleton]; exact hy2
      · refine ⟨_, by rw [if_neg ht], y, h1, rfl, ?_, hk⟩
        rw [locsF_succ, if_neg ht]; exact hy) (st := jacquardref2_Locs_s6 .nils ((97 + 0 : Nat) : Int) (boolL (thereT T) 256) h) ⟨.nils, h, rfl, Own.nil _ _ _, Kp.refl _ _⟩
  have hfin : jacquardref2_Locs_F6 (R E) Lim E.glob (jacquardref2_Locs_s6 y ((97 + 26 : Nat) : Int) (boolL (thereT T) 256) h1) = some (.exit 10, jacquardref2_Locs_x6_11 y h1) := by
    rw [jacquardref2_Locs_r6, if_neg (by simp)]
  have hr := hL _ (Lim_exit hfin)
  refine ⟨y, h1, R_intro hE.fn ?_, hy, hk⟩
  have e1 : boolL (fun q => (T.inits.take 0).any fun p => p.1 % 256 == (q : Int)) 256 = List.replicate 256 (Cell.bool false) := by rw [boolL_false]; exact boolL_congr fun q _ => by simp
  rw [e1, show ((0 : Nat) : Int) = 0 from rfl] at loop1
  rw [jacquardref2_Locs_eq, loop1, bind_ok, jacquardref2_Locs_e1_1, loop3, bind_ok, jacquardref2_Locs_e3_3, loop5, bind_ok, jacquardref2_Locs_e5_7, show (97 : Int) = ((97 + 0 : Nat) : Int) from rfl, hr, bind_ok, jacquardref2_Locs_e6_11]

end
end Jq

/- A test made ready as the document says. -/
namespace Jq
open Go

theorem Own.keepK {n : Nat} {h h' : AHeap} {x : Cell} {esz len : Nat} {cs : List Cell} (o : Own n h x esz cs len) (hk : Kp h.length h h') : Own n h' x esz cs len := by
  refine ⟨o.1, o.2.imp id ?_⟩
  rintro ⟨k, e, hn, hb⟩
  exact ⟨k, e, hn, by rw [hk.blk (blk_lt' hb)]; exact hb⟩
theorem Own.monoN {n m : Nat} (hm : m ≤ n) {h : AHeap} {x : Cell} {esz len : Nat} {cs : List Cell} (o : Own n h x esz cs len) : Own m h x esz cs len :=
  ⟨o.1, o.2.imp id fun ⟨k, e, hn, hb⟩ => ⟨k, e, by omega, hb⟩⟩
theorem Own.blkLt {n : Nat} {h : AHeap} {x : Cell} {esz len : Nat} {cs : List Cell} (o : Own n h x esz cs len) {k : Nat} (hk : isBlk x k) : k < h.length ∧ n ≤ k := by
  rcases o.2 with ⟨rfl, _⟩ | ⟨j, rfl, hn, hb⟩
  · cases hk
  · have : j = k := hk
    subst this; exact ⟨blk_lt' hb, hn⟩

/-- Rows of the call's own, each in a block of its own. -/
def RowsOwn {α : Type} (esz : Nat) (C : List α → List Cell) (n : Nat) (h : AHeap) (y : Cell) (rows : List (List α)) : Prop :=
  ∃ ts, Own n h y 1 ts rows.length ∧ ∀ (t : Nat) (r : List α), rows[t]? = some r → ∃ x : Cell, ts[t]? = some x ∧ Own n h x esz (C r) r.length ∧ ∀ k, isBlk x k → ¬ isBlk y k

section rows
variable {α : Type} {esz : Nat} {C : List α → List Cell} {n : Nat}

theorem RowsOwn.nil (h : AHeap) : RowsOwn esz C n h .nils ([] : List (List α)) := ⟨[], Own.nil _ _ _, fun t r hr => by simp at hr⟩

theorem RowsOwn.keep {h h' : AHeap} {y : Cell} {rows : List (List α)} (r : RowsOwn esz C n h y rows) (hk : Kp h.length h h') : RowsOwn esz C n h' y rows := by
  obtain ⟨ts, h1, h2⟩ := r
  exact ⟨ts, h1.keepK hk, fun t r hr => by obtain ⟨x, x1, x2, x3⟩ := h2 t r hr; exact ⟨x, x1, x2.keepK hk, x3⟩⟩

theorem RowsOwn.blkLt {h : AHeap} {y : Cell} {rows : List (List α)} (r : RowsOwn esz C n h y rows) {k : Nat} (hk : isBlk y k) : k < h.length ∧ n ≤ k := by
  obtain ⟨ts, h1, _⟩ := r; exact h1.blkLt hk

theorem RowsOwn.of {h : AHeap} {y : Cell} {rows : List (List α)} (r : RowsOwn esz C n h y rows) : RowsOf esz C h y rows := by
  obtain ⟨ts, h1, h2⟩ := r
  exact ⟨ts, h1.at, h1.low, fun t r hr => by obtain ⟨x, x1, x2, _⟩ := h2 t r hr; exact ⟨x, x1, x2.at, x2.low⟩⟩

theorem RowsOwn.push {h : AHeap} {y x : Cell} {rows : List (List α)} {r : List α} (w : RowsOwn esz C n h y rows) (hx : Own n h x esz (C r) r.length) (hd : ∀ k, isBlk x k → ¬ isBlk y k) (hn : n ≤ h.length) (hl : rows.length ≤ 2000) :
    ∃ y' h', (∀ {β : Type} (f : Cell → AHeap → Option β), appK 1 24 y [x] h f = f y' h') ∧ RowsOwn esz C n h' y' (rows ++ [r]) ∧ Kp n h h' ∧ ∀ j b, blk? h j = some b → ¬ isBlk y j → blk? h' j = some b ∧ ¬ isBlk y' j := by
  have hm : maxBytes ≥ 2001 * 24 := by unfold maxBytes; omega
  obtain ⟨ts, h1, h2⟩ := w
  obtain ⟨y', h', ha, ho, hk, hf⟩ := h1.app (bytes := 24) (xs := [x]) hn rfl (by omega) (by omega) (by omega)
  have mv : ∀ {z : Cell} {cs : List Cell} {len : Nat}, Own n h z esz cs len → (∀ k, isBlk z k → ¬ isBlk y k) → Own n h' z esz cs len ∧ ∀ k, isBlk z k → ¬ isBlk y' k := by
    intro z cs len oz dz
    rcases oz.2 with e | ⟨k, e, hnk, hb⟩
    · refine ⟨⟨oz.1, .inl e⟩, fun k hk => ?_⟩
      rw [e.1] at hk; cases hk
    · have hik : isBlk z k := by rw [e]; rfl
      obtain ⟨b1, b2⟩ := hf k _ hb (dz k hik)
      refine ⟨⟨oz.1, .inr ⟨k, e, hnk, b1⟩⟩, fun j hj => ?_⟩
      rw [e] at hj
      have : k = j := hj
      subst this; exact b2
  refine ⟨y', h', ha, ⟨ts ++ [x], by rw [List.length_append, List.length_singleton]; exact ho, fun t r' hr => ?_⟩, hk, hf⟩
  have hts : ts.length = rows.length := by have := h1.1; omega
  by_cases ht : t < rows.length
  · rw [List.getElem?_append_left ht] at hr
    obtain ⟨z, z1, z2, z3⟩ := h2 t r' hr
    obtain ⟨w1, w2⟩ := mv z2 z3
    exact ⟨z, by rw [List.getElem?_append_left (by omega)]; exact z1, w1, w2⟩
  · rw [List.getElem?_append_right (by omega)] at hr
    have h0 : t - rows.length = 0 := by
      rcases Nat.eq_zero_or_pos (t - rows.length) with e | e
      · exact e
      · rw [List.getElem?_eq_none (by simp; omega)] at hr; cases hr
    rw [h0] at hr
    obtain rfl : r = r' := by simpa using hr
    obtain ⟨w1, w2⟩ := mv hx hd
    exact ⟨x, by rw [List.getElem?_append_right (by omega), show t - ts.length = 0 by omega]; rfl, w1, w2⟩
end rows

/-- Where a letter stands. -/
def plc : List Int → Int → Nat → Int
  | [], _, _ => -1
  | c :: t, x, i => if c = x then i else plc t x (i + 1)

def initV (l : List (Int × Int)) (c : Int) : Int := l.foldl (fun v p => if p.1 = c then p.2 else v) 0
def compI (locs : List Int) (i : Ins) : Ins := if i.loc ≠ 0 then { i with loc := plc locs i.loc 0 } else i
def compT (T : PTest) : PProg := ⟨locsT T, (locsT T).map (initV T.inits), T.thr.map fun c => c.map (compI (locsT T))⟩

theorem locsT_u8 {T : PTest} {x : Int} (h : x ∈ locsT T) : 97 ≤ x ∧ x ≤ 122 := by
  obtain ⟨c, h1, _, rfl⟩ := locsF_mem.1 h
  omega

section
variable {E : Env}

theorem Place_R (hE : jacquardref6_Place_In E) {a b c : Cell} {locs : List Int} {h : AHeap} (ha : SlAt h a 1 (intC .u8 locs) locs.length) (hu : ∀ x ∈ locs, 97 ≤ x ∧ x ≤ 122) (hl : locs.length ≤ 100) (x : Int) :
    R E 122 [.agg [a, b, c], .c (.int .i64 x)] h = some ([.c (.int .i64 (plc locs x 0))], h) := by
  refine R_intro hE.fn ?_
  have a0 : ∀ {α : Type} (f : Cell → Option α), atK [a, b, c] 0 f = f a := fun _ => rfl
  have key : ∀ (t : List Int) (i : Nat), locs.drop i = t → (Lim (jacquardref6_Place_F1 (R E) Lim E.glob) (jacquardref6_Place_s1 x (i : Int) [a, b, c] h)).bind (fun p => jacquardref6_Place_k3 (R E) Lim E.glob h p.1 p.2) = some ([.c (.int .i64 (plc t x i))], h) := by
    intro t
    induction t with
    | nil =>
      intro i hd
      have hi : locs.length ≤ i := by
        have := congrArg List.length hd
        simp at this; omega
      have hr : jacquardref6_Place_F1 (R E) Lim E.glob (jacquardref6_Place_s1 x (i : Int) [a, b, c] h) = some (.exit 0, jacquardref6_Place_x1_1 h) := by
        rw [jacquardref6_Place_r1, a0, ha.len, if_neg (by simp; omega)]
      rw [Lim_exit hr, bind_ok, jacquardref6_Place_e1_1]; rfl
    | cons v t ih =>
      intro i hd
      have hi : i < locs.length := by
        have := congrArg List.length hd
        simp at this; omega
      have hv : locs[i]? = some v := by
        have := congrArg (fun z => z[0]?) hd
        simpa [List.getElem?_drop] using this
      have hd2 : locs.drop (i + 1) = t := by
        have := congrArg (List.drop 1) hd
        simpa [List.drop_drop] using this
      have huv := hu v (List.mem_of_getElem? hv)
      have hr : jacquardref6_Place_F1 (R E) Lim E.glob (jacquardref6_Place_s1 x (i : Int) [a, b, c] h) = if (v == x) = true then some (.ret, jacquardref6_Place_x1_0 i h) else some (.normal, jacquardref6_Place_s1 x ((i + 1 : Nat) : Int) [a, b, c] h) := by
        rw [jacquardref6_Place_r1, a0, ha.len, if_pos (by simp; omega), a0, ha.get1 hi (intC_get hv), asI_ok, g_wrap_i64 (by omega) (by omega), g_succ (by omega)]
      rw [plc]
      by_cases hvx : v = x
      · rw [if_pos (by rw [hvx]; exact beq_self_eq_true _)] at hr
        rw [Lim_ret hr, bind_ok, jacquardref6_Place_e1_0, if_pos hvx]
      · rw [if_neg (by rw [beq_iff_eq]; exact hvx)] at hr
        rw [if_neg hvx]
        have := ih (i + 1) hd2
        cases hL : Lim (jacquardref6_Place_F1 (R E) Lim E.glob) (jacquardref6_Place_s1 x ((i + 1 : Nat) : Int) [a, b, c] h) with
        | none => rw [hL] at this; cases this
        | some p => rw [Lim_next hr hL]; rw [hL] at this; exact this
  rw [jacquardref6_Place_eq]
  exact key locs 0 rfl

theorem ins_setloc {i : Ins} {v : Int} : i.cs.set 2 (.int .i64 v) = ({ i with loc := v } : Ins).cs := rfl
theorem ins_splice {i : Ins} : splice (List.replicate 9 (Cell.int .i64 0)) 0 i.cs = i.cs := rfl
theorem ins_len19 (i : Ins) : i.cs.length = 1 * 9 := rfl

theorem initV_snoc (l : List (Int × Int)) (p : Int × Int) (c : Int) : initV (l ++ [p]) c = if p.1 = c then p.2 else initV l c := by
  unfold initV; rw [List.foldl_append]; rfl

theorem refCompile_R (hE : jacquardref6_Compile_In E) {cs : List Cell} {T : PTest} {h : AHeap} (p : TestAt h cs T) (hs : T.small) :
    ∃ cs' h', R E 101 [.agg cs] h = some ([.agg cs'], h') ∧ ProgAt h' cs' (compT T) ∧ Kp h.length h h' := by
  obtain ⟨a, h1, hr1, ha, hk1⟩ := refLocs_R hE.c121 p hs
  have hll : (locsT T).length ≤ 26 := locsF_len _ _
  have hu := fun x (hx : x ∈ locsT T) => locsT_u8 hx
  have p1 := p.keep hk1
  have hlen := p.len
  obtain ⟨ta, tb, tc, hcs, ⟨hta, htal⟩, htb, htc⟩ := p1
  have t1 : ∀ {α : Type} (f : Cell → Option α), atK cs 1 f = f ta := fun f => by rw [hcs]; rfl
  have t2 : ∀ {α : Type} (f : Cell → Option α), atK cs 2 f = f tb := fun f => by rw [hcs]; rfl
  have hat := ha.at
  have hal := ha.low
  have hm : maxBytes ≥ 2000 * 72 := by unfold maxBytes; omega
  have pu : ∀ (x y z : Cell), ([x, y, z] : List Cell).length = 3 := fun _ _ _ => rfl
  -- what locations begin with
  have inner1 : ∀ (i : Nat) (b : Cell) (h2 : AHeap) (v : Int) (z : List Cell), (locsT T)[i]? = some v → Kp h1.length h1 h2 →
      Lim (jacquardref6_Compile_F1 (R E) Lim E.glob) (jacquardref6_Compile_s1 (i : Int) 0 ((0 : Nat) : Int) cs z [a, b, .nils] h2) = some (.exit 2, jacquardref6_Compile_x1_3 (i : Int) (initV T.inits v) cs z [a, b, .nils] h2) := by
    intro i b h2 v z hv hk
    have h0 : (0 : Int) = initV (T.inits.take 0) v := rfl
    have he : initV T.inits v = initV (T.inits.take T.inits.length) v := by rw [List.take_length]
    rw [he]
    rw [show jacquardref6_Compile_s1 (i : Int) 0 ((0 : Nat) : Int) cs z [a, b, .nils] h2 = jacquardref6_Compile_s1 (i : Int) (initV (T.inits.take 0) v) ((0 : Nat) : Int) cs z [a, b, .nils] h2 from rfl]
    have huv := hu v (List.mem_of_getElem? hv)
    refine Lim_count (fun k => jacquardref6_Compile_s1 (i : Int) (initV (T.inits.take k) v) (k : Int) cs z [a, b, .nils] h2) 0 T.inits.length (by omega) (fun k _ hkk => ?_) (Lim_exit ?_)
    · have hq : T.inits[k]? = some T.inits[k] := List.getElem?_eq_getElem hkk
      generalize T.inits[k] = q at hq
      have := hs.inits
      have hta2 := hta.keep htal hk
      rw [jacquardref6_Compile_r1, t1, hta2.len, if_pos (by simp; omega), t1, hta2.get hkk (by omega) (pairC_get _ _ _ hq).1, asI_ok, show ∀ {α : Type} (f : Cell → Option α), atK [a, b, Cell.nils] 0 f = f a from fun _ => rfl, (hat.keep hal hk).get1 (getI_lt hv) (intC_get hv), asI_ok, g_wrap_i64 (by omega) (by omega), takeI_succ hq, initV_snoc]
      by_cases hqv : q.1 = v
      · rw [if_pos (by rw [hqv]; exact beq_self_eq_true _), if_pos hqv, t1, hta2.get hkk (by omega) (pairC_get _ _ _ hq).2, asI_ok, g_succ (by omega)]
      · rw [if_neg (by rw [beq_iff_eq]; exact hqv), if_neg hqv, g_succ (by omega)]
    · have hta2 := hta.keep htal hk
      rw [jacquardref6_Compile_r1, t1, hta2.len, if_neg (by simp)]
  obtain ⟨st, ⟨b, h2, rfl, hb, hk2⟩, hL2⟩ := Lim_inv (F := jacquardref6_Compile_F2 (R E) Lim E.glob) (fun i st => ∃ b h2, st = jacquardref6_Compile_s2 (i : Int) cs [Cell.nils, Cell.nils, Cell.nils] [a, b, .nils] h2 ∧ Own h1.length h2 b 1 (intC .i64 (((locsT T).map (initV T.inits)).take i)) i ∧ Kp h1.length h1 h2) 0 (locsT T).length (by omega)
    (fun i st _ hi => by
      rintro ⟨b, h2, rfl, hb, hk⟩
      have hv : (locsT T)[i]? = some (locsT T)[i] := List.getElem?_eq_getElem hi
      generalize (locsT T)[i] = v at hv
      have hin := inner1 i b h2 v [Cell.nils, Cell.nils, Cell.nils] hv hk
      rw [show ((0 : Nat) : Int) = 0 from rfl] at hin
      obtain ⟨b2, h3, hap, hb2, hk3, _⟩ := hb.app (bytes := 8) (xs := [.int .i64 (initV T.inits v)]) hk.1 rfl (by omega) (by omega) (by omega)
      refine ⟨_, ?_, b2, h3, rfl, ?_, hk.trans hk3⟩
      · rw [jacquardref6_Compile_r2, show ∀ {α : Type} (f : Cell → Option α), atK [a, b, Cell.nils] 0 f = f a from fun _ => rfl, hat.len, if_pos (by simp; omega), hin, bind_ok, jacquardref6_Compile_e1_3, show ∀ {α : Type} (f : Cell → Option α), atK [a, b, Cell.nils] 1 f = f b from fun _ => rfl, if_pos (show (splice [Cell.int .i64 0] 0 ([(.int .i64 (initV T.inits v))] : List Cell)).length = 1 * 1 from rfl), show splice [Cell.int .i64 0] 0 ([(.int .i64 (initV T.inits v))] : List Cell) = [.int .i64 (initV T.inits v)] from rfl, hap, if_pos (show 1 < ([a, b, Cell.nils] : List Cell).length by simp), g_succ (by omega)]
        rfl
      · rw [takeI_succ (p := initV T.inits v) (by rw [List.getElem?_map, hv]; rfl), intC_snoc]; exact hb2) (st := jacquardref6_Compile_s2 ((0 : Nat) : Int) cs [Cell.nils, Cell.nils, Cell.nils] [a, .nils, .nils] h1) ⟨.nils, h1, rfl, Own.nil _ _ _, Kp.refl _ _⟩
  have hfin2 : jacquardref6_Compile_F2 (R E) Lim E.glob (jacquardref6_Compile_s2 ((locsT T).length : Int) cs [Cell.nils, Cell.nils, Cell.nils] [a, b, .nils] h2) = some (.exit 0, jacquardref6_Compile_x2_1 cs [Cell.nils, Cell.nils, Cell.nils] [a, b, .nils] h2) := by
    rw [jacquardref6_Compile_r2, show ∀ {α : Type} (f : Cell → Option α), atK [a, b, Cell.nils] 0 f = f a from fun _ => rfl, hat.len, if_neg (by simp)]
  have hr2 := hL2 _ (Lim_exit hfin2)
  rw [List.take_of_length_le (by rw [List.length_map]; exact Nat.le_refl _)] at hb
  have htb2 := htb.keep hk2
  have hat2 := hat.keep hal hk2
  have hal2 : Low h2.length a := Low_mono hk2.1 hal
  have hbt := hb.at
  have hbl := hb.low
  -- the threads
  have inner2 : ∀ (t : Nat) (code : List Ins) (y : Cell) (h3 : AHeap), T.thr[t]? = some code → Kp h2.length h2 h3 →
      ∃ x h4, Lim (jacquardref6_Compile_F3 (R E) Lim E.glob) (jacquardref6_Compile_s3 (t : Int) .nils ((0 : Nat) : Int) cs [Cell.nils, Cell.nils, Cell.nils] [a, b, y] h3) = some (.exit 6, jacquardref6_Compile_x3_7 (t : Int) x cs [Cell.nils, Cell.nils, Cell.nils] [a, b, y] h4) ∧ Own h3.length h4 x 9 (codeC (code.map (compI (locsT T)))) code.length ∧ Kp h3.length h3 h4 := by
    intro t code y h3 ht hk3
    obtain ⟨cx, c1x, c2x, c3x⟩ := (htb2.keep hk3).get (β := Ex × St) ht
    have hcl := hs.code code (List.mem_of_getElem? ht)
    obtain ⟨st, ⟨x, h4, rfl, hx, hk4⟩, hL⟩ := Lim_inv (F := jacquardref6_Compile_F3 (R E) Lim E.glob) (fun i st => ∃ x h4, st = jacquardref6_Compile_s3 (t : Int) x (i : Int) cs [Cell.nils, Cell.nils, Cell.nils] [a, b, y] h4 ∧ Own h3.length h4 x 9 (codeC ((code.map (compI (locsT T))).take i)) i ∧ Kp h3.length h3 h4) 0 code.length (by omega)
      (fun i st _ hi => by
        rintro ⟨x, h4, rfl, hx, hk4⟩
        obtain ⟨cx', c1x', c2x', c3x'⟩ := ((htb2.keep hk3).keep hk4).get (β := Ex × St) ht
        have hq : code[i]? = some code[i] := List.getElem?_eq_getElem hi
        generalize code[i] = q at hq
        obtain ⟨off, cs', hG, hle, hcc⟩ := c1x'.insG hq
        have hsn : (code.map (compI (locsT T)))[i]? = some (compI (locsT T) q) := by rw [List.getElem?_map, hq]; rfl
        obtain ⟨x2, h5, hap, hx2, hk5, _⟩ := hx.app (bytes := 72) (xs := (compI (locsT T) q).cs) hk4.1 rfl (by omega) (by omega) (by omega)
        refine ⟨_, ?_, x2, h5, rfl, ?_, hk4.trans hk5⟩
        · rw [jacquardref6_Compile_r3, t2, c3x', c1x'.len, if_pos (by simp; omega), t2, c3x', hG, if_pos hle, hcc, if_pos ⟨rfl, rfl, rfl⟩, ins_loc, asI_ok]
          unfold compI at hap
          by_cases hz : q.loc ≠ 0
          · have hpl := Place_R hE.c122 (b := b) (c := y) ((hat2.keep hal2 hk3).keep (Low_mono hk3.1 hal2) hk4) hu (by omega) q.loc
            rw [if_pos hz] at hap
            rw [if_pos (by rw [bne_iff_ne]; exact hz), if_pos ⟨rfl, pu _ _ _⟩, ins_loc, asI_ok, hpl, c1_ok, asI_ok, if_pos (by rw [Ins.len]; omega), ins_setloc, if_pos ⟨rfl, rfl⟩, if_pos ⟨rfl, by simp⟩, ins_splice, if_pos (ins_len19 _), hap, g_succ (by omega)]
          · rw [if_neg hz] at hap
            rw [if_neg (by rw [bne_iff_ne]; exact hz), if_pos ⟨rfl, rfl⟩, if_pos ⟨rfl, by simp⟩, ins_splice, if_pos (ins_len19 _), hap, g_succ (by omega)]
        · rw [takeI_succ hsn, codeC_snoc]; exact hx2) (st := jacquardref6_Compile_s3 (t : Int) .nils ((0 : Nat) : Int) cs [Cell.nils, Cell.nils, Cell.nils] [a, b, y] h3) ⟨.nils, h3, rfl, Own.nil _ _ _, Kp.refl _ _⟩
    have hfin : jacquardref6_Compile_F3 (R E) Lim E.glob (jacquardref6_Compile_s3 (t : Int) x (code.length : Int) cs [Cell.nils, Cell.nils, Cell.nils] [a, b, y] h4) = some (.exit 6, jacquardref6_Compile_x3_7 (t : Int) x cs [Cell.nils, Cell.nils, Cell.nils] [a, b, y] h4) := by
      obtain ⟨cx', c1x', c2x', c3x'⟩ := ((htb2.keep hk3).keep hk4).get (β := Ex × St) ht
      rw [jacquardref6_Compile_r3, t2, c3x', c1x'.len, if_neg (by simp)]
    rw [List.take_of_length_le (by rw [List.length_map]; exact Nat.le_refl _)] at hx
    exact ⟨x, h4, hL _ (Lim_exit hfin), hx, hk4⟩
  have hthl := hs.thr
  obtain ⟨st, ⟨y, h3, rfl, hy, hk3⟩, hL4⟩ := Lim_inv (F := jacquardref6_Compile_F4 (R E) Lim E.glob) (fun t st => ∃ y h3, st = jacquardref6_Compile_s4 (t : Int) cs [Cell.nils, Cell.nils, Cell.nils] [a, b, y] h3 ∧ RowsOwn 9 codeC h2.length h3 y ((T.thr.map fun c => c.map (compI (locsT T))).take t) ∧ Kp h2.length h2 h3) 0 T.thr.length (by omega)
    (fun t st _ ht => by
      rintro ⟨y, h3, rfl, hy, hk3⟩
      have hq : T.thr[t]? = some T.thr[t] := List.getElem?_eq_getElem ht
      generalize T.thr[t] = code at hq
      obtain ⟨x, h4, hin, hx, hk4⟩ := inner2 t code y h3 hq hk3
      rw [show ((0 : Nat) : Int) = 0 from rfl] at hin
      have hsn : (T.thr.map fun c => c.map (compI (locsT T)))[t]? = some (code.map (compI (locsT T))) := by rw [List.getElem?_map, hq]; rfl
      have hxl : code.length = (code.map (compI (locsT T))).length := by simp
      rw [hxl] at hx
      obtain ⟨y2, h5, hap, hy2, hk5, _⟩ := (hy.keep hk4).push (hx.monoN hk3.1) (fun k h1 h2 => by have := (hx.blkLt h1).2; have := (hy.blkLt h2).1; omega) (Nat.le_trans hk3.1 hk4.1) (by rw [List.length_take]; omega)
      refine ⟨_, ?_, y2, h5, rfl, ?_, hk3.trans ((hk4.mono hk3.1).trans hk5)⟩
      · rw [jacquardref6_Compile_r4, t2, htb2.len, if_pos (by simp; omega), hin, bind_ok, jacquardref6_Compile_e3_7, show ∀ {α : Type} (f : Cell → Option α), atK [a, b, y] 2 f = f y from fun _ => rfl, if_pos (show (splice [Cell.nils] 0 ([x] : List Cell)).length = 1 * 1 from rfl), show splice [Cell.nils] 0 ([x] : List Cell) = [x] from rfl, hap, if_pos (show 2 < ([a, b, y] : List Cell).length by simp), g_succ (by omega)]
        rfl
      · rw [takeI_succ hsn]; exact hy2) (st := jacquardref6_Compile_s4 ((0 : Nat) : Int) cs [Cell.nils, Cell.nils, Cell.nils] [a, b, .nils] h2) ⟨.nils, h2, rfl, by rw [List.take_zero]; exact RowsOwn.nil _, Kp.refl _ _⟩
  have hfin4 : jacquardref6_Compile_F4 (R E) Lim E.glob (jacquardref6_Compile_s4 (T.thr.length : Int) cs [Cell.nils, Cell.nils, Cell.nils] [a, b, y] h3) = some (.exit 4, jacquardref6_Compile_x4_5 [Cell.nils, Cell.nils, Cell.nils] [a, b, y] h3) := by
    rw [jacquardref6_Compile_r4, t2, htb2.len, if_neg (by simp)]
  have hr4 := hL4 _ (Lim_exit hfin4)
  rw [List.take_of_length_le (by rw [List.length_map]; exact Nat.le_refl _)] at hy
  obtain ⟨ts, y1, y2, y3⟩ := hy.of
  refine ⟨[a, b, y], h3, R_intro hE.fn ?_, ⟨a, b, y, ts, rfl, ⟨hat2.keep hal2 hk3, Low_mono hk3.1 hal2⟩, ⟨?_, Low_mono hk3.1 hbl⟩, ⟨y1, y2⟩, y3⟩, hk1.trans ((hk2.mono hk1.1).trans (hk3.mono (Nat.le_trans hk1.1 hk2.1)))⟩
  · rw [jacquardref6_Compile_eq, if_pos ⟨rfl, hlen⟩, hr1, c1_ok, asC_ok, show splice [Cell.nils, Cell.nils, Cell.nils] 0 ([a] : List Cell) = [a, .nils, .nils] from rfl, if_pos ⟨rfl, rfl, rfl⟩, show (0 : Int) = ((0 : Nat) : Int) from rfl, hr2, bind_ok, jacquardref6_Compile_e2_1, show (0 : Int) = ((0 : Nat) : Int) from rfl, hr4, bind_ok, jacquardref6_Compile_e4_5, if_pos ⟨rfl, rfl⟩, if_pos ⟨rfl, rfl, rfl⟩, if_pos ⟨rfl, rfl⟩]
  · have := hbt.keep hbl hk3
    have e : (compT T).init.length = (locsT T).length := by simp [compT]
    rw [e]; exact this

end
end Jq

/- Is there one in a row? (printed by tools/gen_any.py) -/
namespace Jq
open Go

def pairCs (p : Int × Int) : List Cell := [.int .i64 p.1, .int .i64 p.2]
theorem pairC_at : ∀ (l : List (Int × Int)) (i : Nat) (s : Int × Int), l[i]? = some s → ((pairC l).drop (i * 2)).take 2 = pairCs s
  | [], _, _, h => by simp at h
  | q :: l, 0, s, h => by simp at h; subst h; rfl
  | q :: l, i + 1, s, h => by
    have := pairC_at l i s (by simpa using h)
    have e : pairC (q :: l) = pairCs q ++ pairC l := by simp [pairC, pairCs]
    rw [e, List.drop_append, List.drop_of_length_le (by simp [pairCs]; omega), List.nil_append, show (i + 1) * 2 - (pairCs q).length = i * 2 by simp [pairCs]; omega]
    exact this
theorem SlAt.pairG {h : AHeap} {x : Cell} {l : List (Int × Int)} (s : SlAt h x 2 (pairC l) l.length) {i : Nat} {q : Int × Int} (hq : l[i]? = some q) :
    ∃ off cs', (∀ {α : Type} (G : Nat → List Cell → Option α), (idxSK 2 x (i : Int) fun k N o => rdH h k N fun l => G o l) = G off cs') ∧ off + 2 ≤ cs'.length ∧ (cs'.drop off).take 2 = pairCs q := by
  obtain ⟨off, cs', h1, h2, h3⟩ := s.elG (getI_lt hq)
  exact ⟨off, cs', h1, h2, h3.trans (pairC_at l i q hq)⟩
theorem SlAt.atmG {h : AHeap} {x : Cell} {l : List Atm} (s : SlAt h x 4 (atmC l) l.length) {i : Nat} {q : Atm} (hq : l[i]? = some q) :
    ∃ off cs', (∀ {α : Type} (G : Nat → List Cell → Option α), (idxSK 4 x (i : Int) fun k N o => rdH h k N fun l => G o l) = G off cs') ∧ off + 4 ≤ cs'.length ∧ (cs'.drop off).take 4 = q.cs := by
  obtain ⟨off, cs', h1, h2, h3⟩ := s.elG (getI_lt hq)
  exact ⟨off, cs', h1, h2, h3.trans (atmC_at l i q hq)⟩

section
variable {E : Env}

theorem any_sIns_Ins_R (hE : slices_ContainsFunc_sIns_Ins_In E) {x f : Cell} {l : List (Ins)} {h : AHeap} (hx : SlAt h x 9 (codeC l) l.length) (hl : l.length < 9223372036854775807) (p : Ins → Bool)
    (hf : ∀ i ∈ l, ∀ {α : Type} (F : AV → AHeap → Option α), (fnK f fun g cs => c1 (R E g ([.agg (i.cs)] ++ cs) h) F) = F (.c (.bool (p i))) h) : R E 155 [.c x, .c f] h = some ([.c (.bool (l.any p))], h) := by
  have loop : ∀ (n i : Nat), i + n = l.length → ∃ r : Int, (Lim (slices_IndexFunc_sIns_Ins_F1 (R E) Lim E.glob) (slices_IndexFunc_sIns_Ins_s1 x f l.length (i : Int) h)).bind (fun q => slices_IndexFunc_sIns_Ins_k3 (R E) Lim E.glob h q.1 q.2) = some ([.c (.int .i64 r)], h) ∧ decide (r ≥ 0) = (l.drop i).any p := by
    intro n
    induction n with
    | zero =>
      intro i hi
      refine ⟨-1, ?_, ?_⟩
      · have hr : slices_IndexFunc_sIns_Ins_F1 (R E) Lim E.glob (slices_IndexFunc_sIns_Ins_s1 x f l.length (i : Int) h) = some (.exit 0, slices_IndexFunc_sIns_Ins_x1_1 h) := by rw [slices_IndexFunc_sIns_Ins_r1, if_neg (by simp; omega)]
        rw [Lim_exit hr, bind_ok, slices_IndexFunc_sIns_Ins_e1_1]
      · rw [List.drop_of_length_le (by omega)]; rfl
    | succ n ih =>
      intro i hi
      have hq : l[i]? = some l[i] := List.getElem?_eq_getElem (by omega)
      have hdr : l.drop i = l[i] :: l.drop (i + 1) := List.drop_eq_getElem_cons (by omega)
      generalize l[i] = q at hq hdr
      obtain ⟨off, c, g1, g2, g3⟩ := hx.insG hq
      have hp := @hf q (List.mem_of_getElem? hq) (Ex × St)
      rw [hdr, List.any_cons]
      cases hb : p q with
      | true =>
        refine ⟨(i : Int), ?_, ?_⟩
        · have hr : slices_IndexFunc_sIns_Ins_F1 (R E) Lim E.glob (slices_IndexFunc_sIns_Ins_s1 x f l.length (i : Int) h) = some (.ret, slices_IndexFunc_sIns_Ins_x1_0 (i : Int) h) := by rw [slices_IndexFunc_sIns_Ins_r1, if_pos (by simp; omega), g1, if_pos g2, g3, hp, asB_ok, hb, if_pos rfl]
          rw [Lim_ret hr, bind_ok, slices_IndexFunc_sIns_Ins_e1_0]
        · rw [Bool.true_or]; exact decide_eq_true (by omega)
      | false =>
        obtain ⟨r, h1, h2⟩ := ih (i + 1) (by omega)
        refine ⟨r, ?_, by rw [Bool.false_or]; exact h2⟩
        cases hL : Lim (slices_IndexFunc_sIns_Ins_F1 (R E) Lim E.glob) (slices_IndexFunc_sIns_Ins_s1 x f l.length ((i + 1 : Nat) : Int) h) with
        | none => rw [hL] at h1; cases h1
        | some w =>
          have hr : slices_IndexFunc_sIns_Ins_F1 (R E) Lim E.glob (slices_IndexFunc_sIns_Ins_s1 x f l.length (i : Int) h) = some (.normal, slices_IndexFunc_sIns_Ins_s1 x f l.length ((i + 1 : Nat) : Int) h) := by rw [slices_IndexFunc_sIns_Ins_r1, if_pos (by simp; omega), g1, if_pos g2, g3, hp, asB_ok, hb, if_neg (by simp), g_succ (by omega)]
          rw [Lim_next hr hL]
          rw [hL] at h1; exact h1
  obtain ⟨r, h1, h2⟩ := loop l.length 0 (by omega)
  have h3 : R E 156 [.c x, .c f] h = some ([.c (.int .i64 r)], h) := by
    refine R_intro hE.c156.fn ?_
    rw [slices_IndexFunc_sIns_Ins_eq, hx.len]; exact h1
  refine R_intro hE.fn ?_
  rw [slices_ContainsFunc_sIns_Ins_eq, h3, c1_ok, asI_ok, h2]; rfl

theorem any_sInit_Init_R (hE : slices_ContainsFunc_sInit_Init_In E) {x f : Cell} {l : List (Int × Int)} {h : AHeap} (hx : SlAt h x 2 (pairC l) l.length) (hl : l.length < 9223372036854775807) (p : Int × Int → Bool)
    (hf : ∀ i ∈ l, ∀ {α : Type} (F : AV → AHeap → Option α), (fnK f fun g cs => c1 (R E g ([.agg (pairCs i)] ++ cs) h) F) = F (.c (.bool (p i))) h) : R E 143 [.c x, .c f] h = some ([.c (.bool (l.any p))], h) := by
  have loop : ∀ (n i : Nat), i + n = l.length → ∃ r : Int, (Lim (slices_IndexFunc_sInit_Init_F1 (R E) Lim E.glob) (slices_IndexFunc_sInit_Init_s1 x f l.length (i : Int) h)).bind (fun q => slices_IndexFunc_sInit_Init_k3 (R E) Lim E.glob h q.1 q.2) = some ([.c (.int .i64 r)], h) ∧ decide (r ≥ 0) = (l.drop i).any p := by
    intro n
    induction n with
    | zero =>
      intro i hi
      refine ⟨-1, ?_, ?_⟩
      · have hr : slices_IndexFunc_sInit_Init_F1 (R E) Lim E.glob (slices_IndexFunc_sInit_Init_s1 x f l.length (i : Int) h) = some (.exit 0, slices_IndexFunc_sInit_Init_x1_1 h) := by rw [slices_IndexFunc_sInit_Init_r1, if_neg (by simp; omega)]
        rw [Lim_exit hr, bind_ok, slices_IndexFunc_sInit_Init_e1_1]
      · rw [List.drop_of_length_le (by omega)]; rfl
    | succ n ih =>
      intro i hi
      have hq : l[i]? = some l[i] := List.getElem?_eq_getElem (by omega)
      have hdr : l.drop i = l[i] :: l.drop (i + 1) := List.drop_eq_getElem_cons (by omega)
      generalize l[i] = q at hq hdr
      obtain ⟨off, c, g1, g2, g3⟩ := hx.pairG hq
      have hp := @hf q (List.mem_of_getElem? hq) (Ex × St)
      rw [hdr, List.any_cons]
      cases hb : p q with
      | true =>
        refine ⟨(i : Int), ?_, ?_⟩
        · have hr : slices_IndexFunc_sInit_Init_F1 (R E) Lim E.glob (slices_IndexFunc_sInit_Init_s1 x f l.length (i : Int) h) = some (.ret, slices_IndexFunc_sInit_Init_x1_0 (i : Int) h) := by rw [slices_IndexFunc_sInit_Init_r1, if_pos (by simp; omega), g1, if_pos g2, g3, hp, asB_ok, hb, if_pos rfl]
          rw [Lim_ret hr, bind_ok, slices_IndexFunc_sInit_Init_e1_0]
        · rw [Bool.true_or]; exact decide_eq_true (by omega)
      | false =>
        obtain ⟨r, h1, h2⟩ := ih (i + 1) (by omega)
        refine ⟨r, ?_, by rw [Bool.false_or]; exact h2⟩
        cases hL : Lim (slices_IndexFunc_sInit_Init_F1 (R E) Lim E.glob) (slices_IndexFunc_sInit_Init_s1 x f l.length ((i + 1 : Nat) : Int) h) with
        | none => rw [hL] at h1; cases h1
        | some w =>
          have hr : slices_IndexFunc_sInit_Init_F1 (R E) Lim E.glob (slices_IndexFunc_sInit_Init_s1 x f l.length (i : Int) h) = some (.normal, slices_IndexFunc_sInit_Init_s1 x f l.length ((i + 1 : Nat) : Int) h) := by rw [slices_IndexFunc_sInit_Init_r1, if_pos (by simp; omega), g1, if_pos g2, g3, hp, asB_ok, hb, if_neg (by simp), g_succ (by omega)]
          rw [Lim_next hr hL]
          rw [hL] at h1; exact h1
  obtain ⟨r, h1, h2⟩ := loop l.length 0 (by omega)
  have h3 : R E 160 [.c x, .c f] h = some ([.c (.int .i64 r)], h) := by
    refine R_intro hE.c160.fn ?_
    rw [slices_IndexFunc_sInit_Init_eq, hx.len]; exact h1
  refine R_intro hE.fn ?_
  rw [slices_ContainsFunc_sInit_Init_eq, h3, c1_ok, asI_ok, h2]; rfl

theorem any_sAtom_Atom_R (hE : slices_ContainsFunc_sAtom_Atom_In E) {x f : Cell} {l : List (Atm)} {h : AHeap} (hx : SlAt h x 4 (atmC l) l.length) (hl : l.length < 9223372036854775807) (p : Atm → Bool)
    (hf : ∀ i ∈ l, ∀ {α : Type} (F : AV → AHeap → Option α), (fnK f fun g cs => c1 (R E g ([.agg (i.cs)] ++ cs) h) F) = F (.c (.bool (p i))) h) : R E 132 [.c x, .c f] h = some ([.c (.bool (l.any p))], h) := by
  have loop : ∀ (n i : Nat), i + n = l.length → ∃ r : Int, (Lim (slices_IndexFunc_sAtom_Atom_F1 (R E) Lim E.glob) (slices_IndexFunc_sAtom_Atom_s1 x f l.length (i : Int) h)).bind (fun q => slices_IndexFunc_sAtom_Atom_k3 (R E) Lim E.glob h q.1 q.2) = some ([.c (.int .i64 r)], h) ∧ decide (r ≥ 0) = (l.drop i).any p := by
    intro n
    induction n with
    | zero =>
      intro i hi
      refine ⟨-1, ?_, ?_⟩
      · have hr : slices_IndexFunc_sAtom_Atom_F1 (R E) Lim E.glob (slices_IndexFunc_sAtom_Atom_s1 x f l.length (i : Int) h) = some (.exit 0, slices_IndexFunc_sAtom_Atom_x1_1 h) := by rw [slices_IndexFunc_sAtom_Atom_r1, if_neg (by simp; omega)]
        rw [Lim_exit hr, bind_ok, slices_IndexFunc_sAtom_Atom_e1_1]
      · rw [List.drop_of_length_le (by omega)]; rfl
    | succ n ih =>
      intro i hi
      have hq : l[i]? = some l[i] := List.getElem?_eq_getElem (by omega)
      have hdr : l.drop i = l[i] :: l.drop (i + 1) := List.drop_eq_getElem_cons (by omega)
      generalize l[i] = q at hq hdr
      obtain ⟨off, c, g1, g2, g3⟩ := hx.atmG hq
      have hp := @hf q (List.mem_of_getElem? hq) (Ex × St)
      rw [hdr, List.any_cons]
      cases hb : p q with
      | true =>
        refine ⟨(i : Int), ?_, ?_⟩
        · have hr : slices_IndexFunc_sAtom_Atom_F1 (R E) Lim E.glob (slices_IndexFunc_sAtom_Atom_s1 x f l.length (i : Int) h) = some (.ret, slices_IndexFunc_sAtom_Atom_x1_0 (i : Int) h) := by rw [slices_IndexFunc_sAtom_Atom_r1, if_pos (by simp; omega), g1, if_pos g2, g3, hp, asB_ok, hb, if_pos rfl]
          rw [Lim_ret hr, bind_ok, slices_IndexFunc_sAtom_Atom_e1_0]
        · rw [Bool.true_or]; exact decide_eq_true (by omega)
      | false =>
        obtain ⟨r, h1, h2⟩ := ih (i + 1) (by omega)
        refine ⟨r, ?_, by rw [Bool.false_or]; exact h2⟩
        cases hL : Lim (slices_IndexFunc_sAtom_Atom_F1 (R E) Lim E.glob) (slices_IndexFunc_sAtom_Atom_s1 x f l.length ((i + 1 : Nat) : Int) h) with
        | none => rw [hL] at h1; cases h1
        | some w =>
          have hr : slices_IndexFunc_sAtom_Atom_F1 (R E) Lim E.glob (slices_IndexFunc_sAtom_Atom_s1 x f l.length (i : Int) h) = some (.normal, slices_IndexFunc_sAtom_Atom_s1 x f l.length ((i + 1 : Nat) : Int) h) := by rw [slices_IndexFunc_sAtom_Atom_r1, if_pos (by simp; omega), g1, if_pos g2, g3, hp, asB_ok, hb, if_neg (by simp), g_succ (by omega)]
          rw [Lim_next hr hL]
          rw [hL] at h1; exact h1
  obtain ⟨r, h1, h2⟩ := loop l.length 0 (by omega)
  have h3 : R E 149 [.c x, .c f] h = some ([.c (.int .i64 r)], h) := by
    refine R_intro hE.c149.fn ?_
    rw [slices_IndexFunc_sAtom_Atom_eq, hx.len]; exact h1
  refine R_intro hE.fn ?_
  rw [slices_ContainsFunc_sAtom_Atom_eq, h3, c1_ok, asI_ok, h2]; rfl

theorem any_ssIns_sIns_R (hE : slices_ContainsFunc_ssIns_sIns_In E) {x f : Cell} {l : List (List Ins)} {h : AHeap} (hx : RowsOf 9 codeC h x l) (hl : l.length < 9223372036854775807) (p : List Ins → Bool)
    (hf : ∀ r ∈ l, ∀ y : Cell, SlAt h y 9 (codeC r) r.length → ∀ {α : Type} (F : AV → AHeap → Option α), (fnK f fun g cs => c1 (R E g ([.c y] ++ cs) h) F) = F (.c (.bool (p r))) h) : R E 130 [.c x, .c f] h = some ([.c (.bool (l.any p))], h) := by
  have loop : ∀ (n i : Nat), i + n = l.length → ∃ r : Int, (Lim (slices_IndexFunc_ssIns_sIns_F1 (R E) Lim E.glob) (slices_IndexFunc_ssIns_sIns_s1 x f l.length (i : Int) h)).bind (fun q => slices_IndexFunc_ssIns_sIns_k3 (R E) Lim E.glob h q.1 q.2) = some ([.c (.int .i64 r)], h) ∧ decide (r ≥ 0) = (l.drop i).any p := by
    intro n
    induction n with
    | zero =>
      intro i hi
      refine ⟨-1, ?_, ?_⟩
      · have hr : slices_IndexFunc_ssIns_sIns_F1 (R E) Lim E.glob (slices_IndexFunc_ssIns_sIns_s1 x f l.length (i : Int) h) = some (.exit 0, slices_IndexFunc_ssIns_sIns_x1_1 h) := by rw [slices_IndexFunc_ssIns_sIns_r1, if_neg (by simp; omega)]
        rw [Lim_exit hr, bind_ok, slices_IndexFunc_ssIns_sIns_e1_1]
      · rw [List.drop_of_length_le (by omega)]; rfl
    | succ n ih =>
      intro i hi
      have hq : l[i]? = some l[i] := List.getElem?_eq_getElem (by omega)
      have hdr : l.drop i = l[i] :: l.drop (i + 1) := List.drop_eq_getElem_cons (by omega)
      generalize l[i] = q at hq hdr
      obtain ⟨y, y1, y2, g1⟩ := hx.get (β := Ex × St) hq
      have hp := @hf q (List.mem_of_getElem? hq) y y1 (Ex × St)
      rw [hdr, List.any_cons]
      cases hb : p q with
      | true =>
        refine ⟨(i : Int), ?_, ?_⟩
        · have hr : slices_IndexFunc_ssIns_sIns_F1 (R E) Lim E.glob (slices_IndexFunc_ssIns_sIns_s1 x f l.length (i : Int) h) = some (.ret, slices_IndexFunc_ssIns_sIns_x1_0 (i : Int) h) := by rw [slices_IndexFunc_ssIns_sIns_r1, if_pos (by simp; omega), g1, hp, asB_ok, hb, if_pos rfl]
          rw [Lim_ret hr, bind_ok, slices_IndexFunc_ssIns_sIns_e1_0]
        · rw [Bool.true_or]; exact decide_eq_true (by omega)
      | false =>
        obtain ⟨r, h1, h2⟩ := ih (i + 1) (by omega)
        refine ⟨r, ?_, by rw [Bool.false_or]; exact h2⟩
        cases hL : Lim (slices_IndexFunc_ssIns_sIns_F1 (R E) Lim E.glob) (slices_IndexFunc_ssIns_sIns_s1 x f l.length ((i + 1 : Nat) : Int) h) with
        | none => rw [hL] at h1; cases h1
        | some w =>
          have hr : slices_IndexFunc_ssIns_sIns_F1 (R E) Lim E.glob (slices_IndexFunc_ssIns_sIns_s1 x f l.length (i : Int) h) = some (.normal, slices_IndexFunc_ssIns_sIns_s1 x f l.length ((i + 1 : Nat) : Int) h) := by rw [slices_IndexFunc_ssIns_sIns_r1, if_pos (by simp; omega), g1, hp, asB_ok, hb, if_neg (by simp), g_succ (by omega)]
          rw [Lim_next hr hL]
          rw [hL] at h1; exact h1
  obtain ⟨r, h1, h2⟩ := loop l.length 0 (by omega)
  have h3 : R E 147 [.c x, .c f] h = some ([.c (.int .i64 r)], h) := by
    refine R_intro hE.c147.fn ?_
    rw [slices_IndexFunc_ssIns_sIns_eq, hx.len]; exact h1
  refine R_intro hE.fn ?_
  rw [slices_ContainsFunc_ssIns_sIns_eq, h3, c1_ok, asI_ok, h2]; rfl

theorem any_ssAtom_sAtom_R (hE : slices_ContainsFunc_ssAtom_sAtom_In E) {x f : Cell} {l : List (List Atm)} {h : AHeap} (hx : RowsOf 4 atmC h x l) (hl : l.length < 9223372036854775807) (p : List Atm → Bool)
    (hf : ∀ r ∈ l, ∀ y : Cell, SlAt h y 4 (atmC r) r.length → ∀ {α : Type} (F : AV → AHeap → Option α), (fnK f fun g cs => c1 (R E g ([.c y] ++ cs) h) F) = F (.c (.bool (p r))) h) : R E 146 [.c x, .c f] h = some ([.c (.bool (l.any p))], h) := by
  have loop : ∀ (n i : Nat), i + n = l.length → ∃ r : Int, (Lim (slices_IndexFunc_ssAtom_sAtom_F1 (R E) Lim E.glob) (slices_IndexFunc_ssAtom_sAtom_s1 x f l.length (i : Int) h)).bind (fun q => slices_IndexFunc_ssAtom_sAtom_k3 (R E) Lim E.glob h q.1 q.2) = some ([.c (.int .i64 r)], h) ∧ decide (r ≥ 0) = (l.drop i).any p := by
    intro n
    induction n with
    | zero =>
      intro i hi
      refine ⟨-1, ?_, ?_⟩
      · have hr : slices_IndexFunc_ssAtom_sAtom_F1 (R E) Lim E.glob (slices_IndexFunc_ssAtom_sAtom_s1 x f l.length (i : Int) h) = some (.exit 0, slices_IndexFunc_ssAtom_sAtom_x1_1 h) := by rw [slices_IndexFunc_ssAtom_sAtom_r1, if_neg (by simp; omega)]
        rw [Lim_exit hr, bind_ok, slices_IndexFunc_ssAtom_sAtom_e1_1]
      · rw [List.drop_of_length_le (by omega)]; rfl
    | succ n ih =>
      intro i hi
      have hq : l[i]? = some l[i] := List.getElem?_eq_getElem (by omega)
      have hdr : l.drop i = l[i] :: l.drop (i + 1) := List.drop_eq_getElem_cons (by omega)
      generalize l[i] = q at hq hdr
      obtain ⟨y, y1, y2, g1⟩ := hx.get (β := Ex × St) hq
      have hp := @hf q (List.mem_of_getElem? hq) y y1 (Ex × St)
      rw [hdr, List.any_cons]
      cases hb : p q with
      | true =>
        refine ⟨(i : Int), ?_, ?_⟩
        · have hr : slices_IndexFunc_ssAtom_sAtom_F1 (R E) Lim E.glob (slices_IndexFunc_ssAtom_sAtom_s1 x f l.length (i : Int) h) = some (.ret, slices_IndexFunc_ssAtom_sAtom_x1_0 (i : Int) h) := by rw [slices_IndexFunc_ssAtom_sAtom_r1, if_pos (by simp; omega), g1, hp, asB_ok, hb, if_pos rfl]
          rw [Lim_ret hr, bind_ok, slices_IndexFunc_ssAtom_sAtom_e1_0]
        · rw [Bool.true_or]; exact decide_eq_true (by omega)
      | false =>
        obtain ⟨r, h1, h2⟩ := ih (i + 1) (by omega)
        refine ⟨r, ?_, by rw [Bool.false_or]; exact h2⟩
        cases hL : Lim (slices_IndexFunc_ssAtom_sAtom_F1 (R E) Lim E.glob) (slices_IndexFunc_ssAtom_sAtom_s1 x f l.length ((i + 1 : Nat) : Int) h) with
        | none => rw [hL] at h1; cases h1
        | some w =>
          have hr : slices_IndexFunc_ssAtom_sAtom_F1 (R E) Lim E.glob (slices_IndexFunc_ssAtom_sAtom_s1 x f l.length (i : Int) h) = some (.normal, slices_IndexFunc_ssAtom_sAtom_s1 x f l.length ((i + 1 : Nat) : Int) h) := by rw [slices_IndexFunc_ssAtom_sAtom_r1, if_pos (by simp; omega), g1, hp, asB_ok, hb, if_neg (by simp), g_succ (by omega)]
          rw [Lim_next hr hL]
          rw [hL] at h1; exact h1
  obtain ⟨r, h1, h2⟩ := loop l.length 0 (by omega)
  have h3 : R E 162 [.c x, .c f] h = some ([.c (.int .i64 r)], h) := by
    refine R_intro hE.c162.fn ?_
    rw [slices_IndexFunc_ssAtom_sAtom_eq, hx.len]; exact h1
  refine R_intro hE.fn ?_
  rw [slices_ContainsFunc_ssAtom_sAtom_eq, h3, c1_ok, asI_ok, h2]; rfl

end
end Jq

namespace Jq
open Go

/- jacquard/print.Ok: 126 -/
set_option maxRecDepth 100000 in
theorem print_Ok_eq (C : CallF) (L : LoopF) (G : Glo) (l0 : List Cell) (h0 : AHeap) :
    print_Ok.body C L G [(.agg l0)] h0 =
    atK l0 0 fun q_1 => asS (.c q_1) fun z_2 => c1 (C 141 [(.c (.str z_2))] h0) fun y_4 h_3 => asB y_4 fun b_5 => scK b_5 true (atK l0 1 fun q_6 => c1 (C 143 [(.c q_6), (.c (.fn 142 []))] h_3) fun y_8 h_7 => asB y_8 fun b_9 => some ((!b_9), h_7)) false h_3 fun b_10 h_11 => scK b_10 true (atK l0 2 fun q_12 => c1 (C 130 [(.c q_12), (.c (.fn 140 []))] h_11) fun y_14 h_13 => asB y_14 fun b_15 => some ((!b_15), h_13)) false h_11 fun b_16 h_17 => scK b_16 true (if 3 + 2 ≤ l0.length then c1 (C 144 [(.agg ((l0.drop 3).take 2))] h_17) fun y_19 h_18 => asB y_19 fun b_20 => some (b_20, h_18) else none) false h_17 fun b_21 h_22 => some ([(.c (.bool b_21))], h_22) := by kernel_rfl

/- jacquard/print.Ok$1: 140 -/
set_option maxRecDepth 100000 in
theorem print_Ok_1_eq (C : CallF) (L : LoopF) (G : Glo) (x0 : Cell) (h0 : AHeap) :
    print_Ok_1.body C L G [(.c x0)] h0 =
    c1 (C 155 [(.c x0), (.c (.fn 154 []))] h0) fun y_2 h_1 => asB y_2 fun b_3 => some ([(.c (.bool b_3))], h_1) := by kernel_rfl

/- jacquard/print.isWord: 141 -/
def print_isWord_k2 (C : CallF) (L : LoopF) (G : Glo) (h0 : AHeap) : Ex → St → Option (List AV × AHeap) :=
  kSeq (fun st => print_isWord_p1.exec C L G st (print_isWord.fin G h0)) (print_isWord.fin G h0)
def print_isWord_k3 (C : CallF) (L : LoopF) (G : Glo) (h0 : AHeap) : Ex → St → Option (List AV × AHeap) :=
  kBlk 0 (print_isWord_k2 C L G h0)
def print_isWord_s1 (z0 : ByteArray) (a6 : Int) (a7 : Int) (h : AHeap) : St := ⟨[.v (.c (.str z0)), .top, .top, .top, .top, .top, .v (.c (.int .i64 a6)), .v (.c (.int .i64 a7)), .top, .top, .top, .top, .top, .top, .top, .top, .top, .top, .top, .top, .top, .top, .top, .top, .top, .top, .top, .top, .top, .top, .top, .top, .top, .top], [], h⟩
def print_isWord_F1 (C : CallF) (L : LoopF) (G : Glo) : St → Option (Ex × St) :=
  roundF (fun st f => print_isWord_b1.exec C L G st f) [0, 6, 7] [] [(0, [2], []), (1, [0], [])]
def print_isWord_x1_0 (b2 : Bool) (h : AHeap) : St := ⟨[.top, .top, .v (.c (.bool b2)), .top, .top, .top, .top, .top, .top, .top, .top, .top, .top, .top, .top, .top, .top, .top, .top, .top, .top, .top, .top, .top, .top, .top, .top, .top, .top, .top, .top, .top, .top, .top], [], h⟩
def print_isWord_x1_1 (z0 : ByteArray) (h : AHeap) : St := ⟨[.v (.c (.str z0)), .top, .top, .top, .top, .top, .top, .top, .top, .top, .top, .top, .top, .top, .top, .top, .top, .top, .top, .top, .top, .top, .top, .top, .top, .top, .top, .top, .top, .top, .top, .top, .top, .top], [], h⟩
theorem print_isWord_r1 (C : CallF) (L : LoopF) (G : Glo) (z0 : ByteArray) (a6 : Int) (a7 : Int) (h : AHeap) :
    print_isWord_F1 C L G (print_isWord_s1 z0 a6 a7 h) =
    if (decide (a7 < a6)) = true then if 0 ≤ a7 then (z0[Int.toNat a7]?.bind fun u_2 => scK (decide ((UInt8.toNat u_2 : Int) < 97)) false (some ((decide ((UInt8.toNat u_2 : Int) > 122)), h)) true h fun b_3 h_4 => scK b_3 true (scK (a7 == 0) false (some ((decide ((UInt8.toNat u_2 : Int) < 48)), h_4)) true h_4 fun b_5 h_6 => scK b_5 false (some ((decide ((UInt8.toNat u_2 : Int) > 57)), h_6)) true h_6 fun b_7 h_8 => some (b_7, h_8)) false h_4 fun b_9 h_10 => if b_9 = true then some (.ret, (print_isWord_x1_0 false h_10)) else some (.normal, (print_isWord_s1 z0 a6 (G.wrap .i64 (a7 + 1)) h_10))) else none else some ((.exit 0), (print_isWord_x1_1 z0 h)) := by kernel_rfl
theorem print_isWord_e1_0 (C : CallF) (L : LoopF) (G : Glo) (h0 : AHeap) (b2 : Bool) (h : AHeap) :
    (print_isWord_k3 C L G h0) .ret (print_isWord_x1_0 b2 h) =
    some ([(.c (.bool b2))], h) := by kernel_rfl
theorem print_isWord_e1_1 (C : CallF) (L : LoopF) (G : Glo) (h0 : AHeap) (z0 : ByteArray) (h : AHeap) :
    (print_isWord_k3 C L G h0) (.exit 0) (print_isWord_x1_1 z0 h) =
    some ([(.c (.bool (!(ByteArray.toList z0 == ByteArray.toList (ByteArray.mk #[])))))], h) := by kernel_rfl
set_option maxRecDepth 100000 in
theorem print_isWord_eq (C : CallF) (L : LoopF) (G : Glo) (z0 : ByteArray) (h0 : AHeap) :
    print_isWord.body C L G [(.c (.str z0))] h0 =
    lenSK (.str z0) fun n_1 => (L (print_isWord_F1 C L G) (print_isWord_s1 z0 n_1 0 h0)).bind fun p_11 => (print_isWord_k3 C L G h0) p_11.1 p_11.2 := by kernel_rfl

/- jacquard/print.Ok$2: 142 -/
set_option maxRecDepth 100000 in
theorem print_Ok_2_eq (C : CallF) (L : LoopF) (G : Glo) (l0 : List Cell) (h0 : AHeap) :
    print_Ok_2.body C L G [(.agg l0)] h0 =
    atK l0 0 fun q_1 => asI .i64 (.c q_1) fun n_2 => c1 (C 158 [(.c (.int .i64 n_2))] h0) fun y_4 h_3 => asB y_4 fun b_5 => some ([(.c (.bool (!b_5)))], h_3) := by kernel_rfl

/- jacquard/print.okCond: 144 -/
set_option maxRecDepth 100000 in
theorem print_okCond_eq (C : CallF) (L : LoopF) (G : Glo) (l0 : List Cell) (h0 : AHeap) :
    print_okCond.body C L G [(.agg l0)] h0 =
    atK l0 0 fun q_1 => asI .i64 (.c q_1) fun n_2 => if (n_2 == 0) = true then atK l0 1 fun q_3 => lenK q_3 fun n_4 => some ([(.c (.bool (n_4 == 0)))], h0) else atK l0 0 fun q_5 => asI .i64 (.c q_5) fun n_6 => scK (n_6 == 1) false (atK l0 0 fun q_7 => asI .i64 (.c q_7) fun n_8 => some ((n_8 == 2), h0)) true h0 fun b_9 h_10 => scK b_9 true (atK l0 1 fun q_11 => lenK q_11 fun n_12 => some ((decide (n_12 > 0)), h_10)) false h_10 fun b_13 h_14 => scK b_13 true (atK l0 1 fun q_15 => c1 (C 146 [(.c q_15), (.c (.fn 161 []))] h_14) fun y_17 h_16 => asB y_17 fun b_18 => some ((!b_18), h_16)) false h_14 fun b_19 h_20 => some ([(.c (.bool b_19))], h_20) := by kernel_rfl

/- jacquard/print.Ok$1$1: 154 -/
set_option maxRecDepth 100000 in
theorem print_Ok_1_1_eq (C : CallF) (L : LoopF) (G : Glo) (l0 : List Cell) (h0 : AHeap) :
    print_Ok_1_1.body C L G [(.agg l0)] h0 =
    if 0 = 0 ∧ l0.length = 9 then c1 (C 157 [(.agg l0)] h0) fun y_2 h_1 => asB y_2 fun b_3 => some ([(.c (.bool (!b_3)))], h_1) else none := by kernel_rfl

/- jacquard/print.okIns: 157 -/
set_option maxRecDepth 100000 in
theorem print_okIns_eq (C : CallF) (L : LoopF) (G : Glo) (l0 : List Cell) (h0 : AHeap) :
    print_okIns.body C L G [(.agg l0)] h0 =
    if 0 = 0 ∧ l0.length = 9 then c1 (C 159 [(.agg l0), (.c (.fn 158 []))] h0) fun y_2 h_1 => asB y_2 fun b_3 => some ([(.c (.bool b_3))], h_1) else none := by kernel_rfl

/- jacquard/print.IsLoc: 158 -/
set_option maxRecDepth 100000 in
theorem print_IsLoc_eq (C : CallF) (L : LoopF) (G : Glo) (a0 : Int) (h0 : AHeap) :
    print_IsLoc.body C L G [(.c (.int .i64 a0))] h0 =
    scK (decide (a0 ≥ 97)) true (some ((decide (a0 ≤ 122)), h0)) false h0 fun b_1 h_2 => some ([(.c (.bool b_1))], h_2) := by kernel_rfl

/- jacquard/print.Fields: 159 -/
set_option maxRecDepth 100000 in
theorem print_Fields_eq (C : CallF) (L : LoopF) (G : Glo) (l0 : List Cell) (x1 : Cell) (h0 : AHeap) :
    print_Fields.body C L G [(.agg l0), (.c x1)] h0 =
    atK l0 0 fun q_1 => asI .i64 (.c q_1) fun n_2 => if 0 = 0 ∧ (List.replicate 9 (Cell.int .i64 0)).length = 9 ∧ (splice (List.replicate 9 (Cell.int .i64 0)) 0 ([(.int .i64 n_2)] : List Cell)).length = 9 then atK l0 0 fun q_3 => asI .i64 (.c q_3) fun n_4 => if (n_4 == 1) = true then atK l0 2 fun q_5 => asI .i64 (.c q_5) fun n_6 => if 3 + 2 ≤ l0.length then if 2 < (splice (List.replicate 9 (Cell.int .i64 0)) 0 ([(.int .i64 n_2)] : List Cell)).length then if 3 + 2 ≤ ((splice (List.replicate 9 (Cell.int .i64 0)) 0 ([(.int .i64 n_2)] : List Cell)).set 2 (.int .i64 n_6)).length ∧ ((l0.drop 3).take 2).length = 2 then atK l0 2 fun q_7 => asI .i64 (.c q_7) fun n_8 => fnK x1 fun g_9 l_10 => c1 (C g_9 ([(.c (.int .i64 n_8))] ++ l_10) h0) fun y_12 h_11 => asB y_12 fun b_13 => scK b_13 true (if 3 + 2 ≤ l0.length then c1 (C 163 [(.agg ((l0.drop 3).take 2))] h_11) fun y_15 h_14 => asB y_15 fun b_16 => some (b_16, h_14) else none) false h_11 fun b_17 h_18 => scK b_17 true (if 0 = 0 ∧ l0.length = 9 then if 0 = 0 ∧ (splice ((splice (List.replicate 9 (Cell.int .i64 0)) 0 ([(.int .i64 n_2)] : List Cell)).set 2 (.int .i64 n_6)) 3 ((l0.drop 3).take 2)).length = 9 then if alike l0 (List.replicate 9 (Cell.int .i64 0)) = true ∧ alike (splice ((splice (List.replicate 9 (Cell.int .i64 0)) 0 ([(.int .i64 n_2)] : List Cell)).set 2 (.int .i64 n_6)) 3 ((l0.drop 3).take 2)) (List.replicate 9 (Cell.int .i64 0)) = true then some ((decide (l0 = (splice ((splice (List.replicate 9 (Cell.int .i64 0)) 0 ([(.int .i64 n_2)] : List Cell)).set 2 (.int .i64 n_6)) 3 ((l0.drop 3).take 2)))), h_18) else none else none else none) false h_18 fun b_19 h_20 => some ([(.c (.bool b_19))], h_20) else none else none else none else if (n_4 == 2) = true then atK l0 1 fun q_21 => asI .i64 (.c q_21) fun n_22 => atK l0 2 fun q_23 => asI .i64 (.c q_23) fun n_24 => if 1 < (splice (List.replicate 9 (Cell.int .i64 0)) 0 ([(.int .i64 n_2)] : List Cell)).length then if 2 < ((splice (List.replicate 9 (Cell.int .i64 0)) 0 ([(.int .i64 n_2)] : List Cell)).set 1 (.int .i64 n_22)).length then atK l0 2 fun q_25 => asI .i64 (.c q_25) fun n_26 => fnK x1 fun g_27 l_28 => c1 (C g_27 ([(.c (.int .i64 n_26))] ++ l_28) h0) fun y_30 h_29 => asB y_30 fun b_31 => scK b_31 true (atK l0 1 fun q_32 => asI .i64 (.c q_32) fun n_33 => c1 (C 164 [(.c (.int .i64 n_33))] h_29) fun y_35 h_34 => asB y_35 fun b_36 => some (b_36, h_34)) false h_29 fun b_37 h_38 => scK b_37 true (if 0 = 0 ∧ l0.length = 9 then if 0 = 0 ∧ (((splice (List.replicate 9 (Cell.int .i64 0)) 0 ([(.int .i64 n_2)] : List Cell)).set 1 (.int .i64 n_22)).set 2 (.int .i64 n_24)).length = 9 then if alike l0 (List.replicate 9 (Cell.int .i64 0)) = true ∧ alike (((splice (List.replicate 9 (Cell.int .i64 0)) 0 ([(.int .i64 n_2)] : List Cell)).set 1 (.int .i64 n_22)).set 2 (.int .i64 n_24)) (List.replicate 9 (Cell.int .i64 0)) = true then some ((decide (l0 = (((splice (List.replicate 9 (Cell.int .i64 0)) 0 ([(.int .i64 n_2)] : List Cell)).set 1 (.int .i64 n_22)).set 2 (.int .i64 n_24)))), h_38) else none else none else none) false h_38 fun b_39 h_40 => some ([(.c (.bool b_39))], h_40) else none else none else if (n_4 == 3) = true then scK true true (if 0 = 0 ∧ l0.length = 9 then if 0 = 0 ∧ (splice (List.replicate 9 (Cell.int .i64 0)) 0 ([(.int .i64 n_2)] : List Cell)).length = 9 then if alike l0 (List.replicate 9 (Cell.int .i64 0)) = true ∧ alike (splice (List.replicate 9 (Cell.int .i64 0)) 0 ([(.int .i64 n_2)] : List Cell)) (List.replicate 9 (Cell.int .i64 0)) = true then some ((decide (l0 = (splice (List.replicate 9 (Cell.int .i64 0)) 0 ([(.int .i64 n_2)] : List Cell)))), h0) else none else none else none) false h0 fun b_41 h_42 => some ([(.c (.bool b_41))], h_42) else if (n_4 == 4) = true then atK l0 1 fun q_43 => asI .i64 (.c q_43) fun n_44 => atK l0 2 fun q_45 => asI .i64 (.c q_45) fun n_46 => if 3 + 2 ≤ l0.length then if 6 + 2 ≤ l0.length then if 1 < (splice (List.replicate 9 (Cell.int .i64 0)) 0 ([(.int .i64 n_2)] : List Cell)).length then if 2 < ((splice (List.replicate 9 (Cell.int .i64 0)) 0 ([(.int .i64 n_2)] : List Cell)).set 1 (.int .i64 n_44)).length then if 3 + 2 ≤ (((splice (List.replicate 9 (Cell.int .i64 0)) 0 ([(.int .i64 n_2)] : List Cell)).set 1 (.int .i64 n_44)).set 2 (.int .i64 n_46)).length ∧ ((l0.drop 3).take 2).length = 2 then if 6 + 2 ≤ (splice (((splice (List.replicate 9 (Cell.int .i64 0)) 0 ([(.int .i64 n_2)] : List Cell)).set 1 (.int .i64 n_44)).set 2 (.int .i64 n_46)) 3 ((l0.drop 3).take 2)).length ∧ ((l0.drop 6).take 2).length = 2 then atK l0 2 fun q_47 => asI .i64 (.c q_47) fun n_48 => fnK x1 fun g_49 l_50 => c1 (C g_49 ([(.c (.int .i64 n_48))] ++ l_50) h0) fun y_52 h_51 => asB y_52 fun b_53 => scK b_53 true (atK l0 1 fun q_54 => asI .i64 (.c q_54) fun n_55 => c1 (C 164 [(.c (.int .i64 n_55))] h_51) fun y_57 h_56 => asB y_57 fun b_58 => some (b_58, h_56)) false h_51 fun b_59 h_60 => scK b_59 true (if 3 + 2 ≤ l0.length then c1 (C 163 [(.agg ((l0.drop 3).take 2))] h_60) fun y_62 h_61 => asB y_62 fun b_63 => some (b_63, h_61) else none) false h_60 fun b_64 h_65 => scK b_64 true (if 6 + 2 ≤ l0.length then c1 (C 163 [(.agg ((l0.drop 6).take 2))] h_65) fun y_67 h_66 => asB y_67 fun b_68 => some (b_68, h_66) else none) false h_65 fun b_69 h_70 => scK b_69 true (if 0 = 0 ∧ l0.length = 9 then if 0 = 0 ∧ (splice (splice (((splice (List.replicate 9 (Cell.int .i64 0)) 0 ([(.int .i64 n_2)] : List Cell)).set 1 (.int .i64 n_44)).set 2 (.int .i64 n_46)) 3 ((l0.drop 3).take 2)) 6 ((l0.drop 6).take 2)).length = 9 then if alike l0 (List.replicate 9 (Cell.int .i64 0)) = true ∧ alike (splice (splice (((splice (List.replicate 9 (Cell.int .i64 0)) 0 ([(.int .i64 n_2)] : List Cell)).set 1 (.int .i64 n_44)).set 2 (.int .i64 n_46)) 3 ((l0.drop 3).take 2)) 6 ((l0.drop 6).take 2)) (List.replicate 9 (Cell.int .i64 0)) = true then some ((decide (l0 = (splice (splice (((splice (List.replicate 9 (Cell.int .i64 0)) 0 ([(.int .i64 n_2)] : List Cell)).set 1 (.int .i64 n_44)).set 2 (.int .i64 n_46)) 3 ((l0.drop 3).take 2)) 6 ((l0.drop 6).take 2)))), h_70) else none else none else none) false h_70 fun b_71 h_72 => some ([(.c (.bool b_71))], h_72) else none else none else none else none else none else none else if (n_4 == 5) = true then atK l0 1 fun q_73 => asI .i64 (.c q_73) fun n_74 => if 3 + 2 ≤ l0.length then atK l0 5 fun q_75 => asI .i64 (.c q_75) fun n_76 => if 6 + 2 ≤ l0.length then if 1 < (splice (List.replicate 9 (Cell.int .i64 0)) 0 ([(.int .i64 n_2)] : List Cell)).length then if 3 + 2 ≤ ((splice (List.replicate 9 (Cell.int .i64 0)) 0 ([(.int .i64 n_2)] : List Cell)).set 1 (.int .i64 n_74)).length ∧ ((l0.drop 3).take 2).length = 2 then if 5 < (splice ((splice (List.replicate 9 (Cell.int .i64 0)) 0 ([(.int .i64 n_2)] : List Cell)).set 1 (.int .i64 n_74)) 3 ((l0.drop 3).take 2)).length then if 6 + 2 ≤ ((splice ((splice (List.replicate 9 (Cell.int .i64 0)) 0 ([(.int .i64 n_2)] : List Cell)).set 1 (.int .i64 n_74)) 3 ((l0.drop 3).take 2)).set 5 (.int .i64 n_76)).length ∧ ((l0.drop 6).take 2).length = 2 then atK l0 1 fun q_77 => asI .i64 (.c q_77) fun n_78 => c1 (C 164 [(.c (.int .i64 n_78))] h0) fun y_80 h_79 => asB y_80 fun b_81 => scK b_81 true (if 3 + 2 ≤ l0.length then c1 (C 163 [(.agg ((l0.drop 3).take 2))] h_79) fun y_83 h_82 => asB y_83 fun b_84 => some (b_84, h_82) else none) false h_79 fun b_85 h_86 => scK b_85 true (if 6 + 2 ≤ l0.length then c1 (C 163 [(.agg ((l0.drop 6).take 2))] h_86) fun y_88 h_87 => asB y_88 fun b_89 => some (b_89, h_87) else none) false h_86 fun b_90 h_91 => scK b_90 true (atK l0 5 fun q_92 => asI .i64 (.c q_92) fun n_93 => some ((decide (n_93 ≥ 0)), h_91)) false h_91 fun b_94 h_95 => scK b_94 true (atK l0 5 fun q_96 => asI .i64 (.c q_96) fun n_97 => some ((decide (n_97 ≤ 11)), h_95)) false h_95 fun b_98 h_99 => scK b_98 true (atK l0 5 fun q_100 => asI .i64 (.c q_100) fun n_101 => scK (decide (n_101 > 0)) false (if 6 + 2 ≤ l0.length then if alike ((l0.drop 6).take 2) ([Cell.int .i64 0, Cell.int .i64 0]) = true ∧ alike (splice [Cell.int .i64 0, Cell.int .i64 0] 0 ([(.int .i64 (-1))] : List Cell)) ([Cell.int .i64 0, Cell.int .i64 0]) = true then some ((decide (((l0.drop 6).take 2) = (splice [Cell.int .i64 0, Cell.int .i64 0] 0 ([(.int .i64 (-1))] : List Cell)))), h_99) else none else none) true h_99 fun b_102 h_103 => some (b_102, h_103)) false h_99 fun b_104 h_105 => scK b_104 true (if 0 = 0 ∧ l0.length = 9 then if 0 = 0 ∧ (splice ((splice ((splice (List.replicate 9 (Cell.int .i64 0)) 0 ([(.int .i64 n_2)] : List Cell)).set 1 (.int .i64 n_74)) 3 ((l0.drop 3).take 2)).set 5 (.int .i64 n_76)) 6 ((l0.drop 6).take 2)).length = 9 then if alike l0 (List.replicate 9 (Cell.int .i64 0)) = true ∧ alike (splice ((splice ((splice (List.replicate 9 (Cell.int .i64 0)) 0 ([(.int .i64 n_2)] : List Cell)).set 1 (.int .i64 n_74)) 3 ((l0.drop 3).take 2)).set 5 (.int .i64 n_76)) 6 ((l0.drop 6).take 2)) (List.replicate 9 (Cell.int .i64 0)) = true then some ((decide (l0 = (splice ((splice ((splice (List.replicate 9 (Cell.int .i64 0)) 0 ([(.int .i64 n_2)] : List Cell)).set 1 (.int .i64 n_74)) 3 ((l0.drop 3).take 2)).set 5 (.int .i64 n_76)) 6 ((l0.drop 6).take 2)))), h_105) else none else none else none) false h_105 fun b_106 h_107 => some ([(.c (.bool b_106))], h_107) else none else none else none else none else none else none else if (n_4 == 6) = true then atK l0 8 fun q_108 => asI .i64 (.c q_108) fun n_109 => if 3 + 2 ≤ l0.length then if 6 + 2 ≤ l0.length then if 8 < (splice (List.replicate 9 (Cell.int .i64 0)) 0 ([(.int .i64 n_2)] : List Cell)).length then if 3 + 2 ≤ ((splice (List.replicate 9 (Cell.int .i64 0)) 0 ([(.int .i64 n_2)] : List Cell)).set 8 (.int .i64 n_109)).length ∧ ((l0.drop 3).take 2).length = 2 then if 6 + 2 ≤ (splice ((splice (List.replicate 9 (Cell.int .i64 0)) 0 ([(.int .i64 n_2)] : List Cell)).set 8 (.int .i64 n_109)) 3 ((l0.drop 3).take 2)).length ∧ ((l0.drop 6).take 2).length = 2 then atK l0 8 fun q_110 => asI .i64 (.c q_110) fun n_111 => scK (decide (n_111 ≥ 0)) true (if 3 + 2 ≤ l0.length then c1 (C 163 [(.agg ((l0.drop 3).take 2))] h0) fun y_113 h_112 => asB y_113 fun b_114 => some (b_114, h_112) else none) false h0 fun b_115 h_116 => scK b_115 true (if 6 + 2 ≤ l0.length then c1 (C 163 [(.agg ((l0.drop 6).take 2))] h_116) fun y_118 h_117 => asB y_118 fun b_119 => some (b_119, h_117) else none) false h_116 fun b_120 h_121 => scK b_120 true (if 0 = 0 ∧ l0.length = 9 then if 0 = 0 ∧ (splice (splice ((splice (List.replicate 9 (Cell.int .i64 0)) 0 ([(.int .i64 n_2)] : List Cell)).set 8 (.int .i64 n_109)) 3 ((l0.drop 3).take 2)) 6 ((l0.drop 6).take 2)).length = 9 then if alike l0 (List.replicate 9 (Cell.int .i64 0)) = true ∧ alike (splice (splice ((splice (List.replicate 9 (Cell.int .i64 0)) 0 ([(.int .i64 n_2)] : List Cell)).set 8 (.int .i64 n_109)) 3 ((l0.drop 3).take 2)) 6 ((l0.drop 6).take 2)) (List.replicate 9 (Cell.int .i64 0)) = true then some ((decide (l0 = (splice (splice ((splice (List.replicate 9 (Cell.int .i64 0)) 0 ([(.int .i64 n_2)] : List Cell)).set 8 (.int .i64 n_109)) 3 ((l0.drop 3).take 2)) 6 ((l0.drop 6).take 2)))), h_121) else none else none else none) false h_121 fun b_122 h_123 => some ([(.c (.bool b_122))], h_123) else none else none else none else none else none else some ([(.c (.bool false))], h0) else none := by kernel_rfl

/- jacquard/print.okCond$1: 161 -/
set_option maxRecDepth 100000 in
theorem print_okCond_1_eq (C : CallF) (L : LoopF) (G : Glo) (x0 : Cell) (h0 : AHeap) :
    print_okCond_1.body C L G [(.c x0)] h0 =
    lenK x0 fun n_1 => scK (n_1 == 0) false (c1 (C 132 [(.c x0), (.c (.fn 165 []))] h0) fun y_3 h_2 => asB y_3 fun b_4 => some (b_4, h_2)) true h0 fun b_5 h_6 => some ([(.c (.bool b_5))], h_6) := by kernel_rfl

/- jacquard/print.isOperand: 163 -/
set_option maxRecDepth 100000 in
theorem print_isOperand_eq (C : CallF) (L : LoopF) (G : Glo) (l0 : List Cell) (h0 : AHeap) :
    print_isOperand.body C L G [(.agg l0)] h0 =
    atK l0 0 fun q_1 => asI .i64 (.c q_1) fun n_2 => scK (n_2 == (-1)) false (atK l0 0 fun q_3 => asI .i64 (.c q_3) fun n_4 => c1 (C 164 [(.c (.int .i64 n_4))] h0) fun y_6 h_5 => asB y_6 fun b_7 => scK b_7 true (atK l0 1 fun q_8 => asI .i64 (.c q_8) fun n_9 => some ((n_9 == 0), h_5)) false h_5 fun b_10 h_11 => some (b_10, h_11)) true h0 fun b_12 h_13 => some ([(.c (.bool b_12))], h_13) := by kernel_rfl

/- jacquard/print.isReg: 164 -/
set_option maxRecDepth 100000 in
theorem print_isReg_eq (C : CallF) (L : LoopF) (G : Glo) (a0 : Int) (h0 : AHeap) :
    print_isReg.body C L G [(.c (.int .i64 a0))] h0 =
    scK (decide (a0 ≥ 0)) true (some ((decide (a0 < 4)), h0)) false h0 fun b_1 h_2 => some ([(.c (.bool b_1))], h_2) := by kernel_rfl

/- jacquard/print.okCond$1$1: 165 -/
set_option maxRecDepth 100000 in
theorem print_okCond_1_1_eq (C : CallF) (L : LoopF) (G : Glo) (l0 : List Cell) (h0 : AHeap) :
    print_okCond_1_1.body C L G [(.agg l0)] h0 =
    if 0 = 0 ∧ l0.length = 4 then c1 (C 166 [(.agg l0)] h0) fun y_2 h_1 => asB y_2 fun b_3 => some ([(.c (.bool (!b_3)))], h_1) else none := by kernel_rfl

/- jacquard/print.okAtom: 166 -/
set_option maxRecDepth 100000 in
theorem print_okAtom_eq (C : CallF) (L : LoopF) (G : Glo) (l0 : List Cell) (h0 : AHeap) :
    print_okAtom.body C L G [(.agg l0)] h0 =
    atK l0 0 fun q_1 => asI .i64 (.c q_1) fun n_2 => if (n_2 == (-1)) = true then atK l0 1 fun q_3 => asI .i64 (.c q_3) fun n_4 => scK (n_4 == 0) true (atK l0 2 fun q_5 => asI .i64 (.c q_5) fun n_6 => c1 (C 158 [(.c (.int .i64 n_6))] h0) fun y_8 h_7 => asB y_8 fun b_9 => some (b_9, h_7)) false h0 fun b_10 h_11 => some ([(.c (.bool b_10))], h_11) else atK l0 0 fun q_12 => asI .i64 (.c q_12) fun n_13 => scK (decide (n_13 ≥ 0)) true (atK l0 0 fun q_14 => asI .i64 (.c q_14) fun n_15 => some ((decide (n_15 ≤ 9)), h0)) false h0 fun b_16 h_17 => scK b_16 true (atK l0 2 fun q_18 => asI .i64 (.c q_18) fun n_19 => some ((n_19 == 0), h_17)) false h_17 fun b_20 h_21 => scK b_20 true (atK l0 1 fun q_22 => asI .i64 (.c q_22) fun n_23 => c1 (C 164 [(.c (.int .i64 n_23))] h_21) fun y_25 h_24 => asB y_25 fun b_26 => some (b_26, h_24)) false h_21 fun b_27 h_28 => some ([(.c (.bool b_27))], h_28) := by kernel_rfl


end Jq

/- Is a test one that could be in a tree? -/
namespace Jq
open Go

def locB (n : Int) : Bool := decide (n ≥ 97) && decide (n ≤ 122)
def regB (n : Int) : Bool := decide (n ≥ 0) && decide (n < 4)
def opB (o : Opd) : Bool := o.reg == -1 || (regB o.reg && o.val == 0)
def fldB (has : Int → Bool) (i : Ins) : Bool :=
  if i.kind = 1 then has i.loc && opB i.a && decide (i.cs = (⟨i.kind, 0, i.loc, i.a, 0, ⟨0, 0⟩, 0⟩ : Ins).cs)
  else if i.kind = 2 then has i.loc && regB i.reg && decide (i.cs = (⟨i.kind, i.reg, i.loc, ⟨0, 0⟩, 0, ⟨0, 0⟩, 0⟩ : Ins).cs)
  else if i.kind = 3 then decide (i.cs = (⟨i.kind, 0, 0, ⟨0, 0⟩, 0, ⟨0, 0⟩, 0⟩ : Ins).cs)
  else if i.kind = 4 then has i.loc && regB i.reg && opB i.a && opB i.b && decide (i.cs = (⟨i.kind, i.reg, i.loc, i.a, 0, i.b, 0⟩ : Ins).cs)
  else if i.kind = 5 then regB i.reg && opB i.a && opB i.b && decide (i.op ≥ 0) && decide (i.op ≤ 11) && (decide (i.op > 0) || decide (i.b.cs = (⟨-1, 0⟩ : Opd).cs)) && decide (i.cs = (⟨i.kind, i.reg, 0, i.a, i.op, i.b, 0⟩ : Ins).cs)
  else if i.kind = 6 then decide (i.n ≥ 0) && opB i.a && opB i.b && decide (i.cs = (⟨i.kind, 0, 0, i.a, 0, i.b, i.n⟩ : Ins).cs)
  else false

theorem alike_ins (i : Ins) : alike i.cs (List.replicate 9 (Cell.int .i64 0)) = true := rfl

section
variable {E : Env}

theorem IsLoc_R (hE : print_IsLoc_In E) (n : Int) (h : AHeap) : R E 158 [.c (.int .i64 n)] h = some ([.c (.bool (locB n))], h) := by
  refine R_intro hE.fn ?_
  rw [print_IsLoc_eq, scK_and]; rfl
theorem isReg_R (hE : print_isReg_In E) (n : Int) (h : AHeap) : R E 164 [.c (.int .i64 n)] h = some ([.c (.bool (regB n))], h) := by
  refine R_intro hE.fn ?_
  rw [print_isReg_eq, scK_and]; rfl
theorem isOperand_R (hE : print_isOperand_In E) (o : Opd) (h : AHeap) : R E 163 [.agg o.cs] h = some ([.c (.bool (opB o))], h) := by
  refine R_intro hE.fn ?_
  have a0 : ∀ {α : Type} (f : Cell → Option α), atK o.cs 0 f = f (.int .i64 o.reg) := fun _ => rfl
  have a1 : ∀ {α : Type} (f : Cell → Option α), atK o.cs 1 f = f (.int .i64 o.val) := fun _ => rfl
  rw [print_isOperand_eq]
  simp only [a0, a1, asI_ok, isReg_R hE.c164, c1_ok, asB_ok, scK_and, scK_or]
  rfl

/-- A function value that answers as said. -/
def Says (E : Env) (h : AHeap) (f : Cell) (has : Int → Bool) : Prop := ∀ (n : Int) {α : Type} (F : AV → AHeap → Option α), (fnK f fun g cs => c1 (R E g ([.c (.int .i64 n)] ++ cs) h) F) = F (.c (.bool (has n))) h

theorem Fields_R (hE : print_Fields_In E) (i : Ins) {f : Cell} {has : Int → Bool} {h : AHeap} (hf : Says E h f has) : R E 159 [.agg i.cs, .c f] h = some ([.c (.bool (fldB has i))], h) := by
  refine R_intro hE.fn ?_
  rw [print_Fields_eq, ins_kind, asI_ok, if_pos ⟨rfl, rfl, rfl⟩, ins_kind, asI_ok]
  by_cases h1 : i.kind = 1
  · rw [if_pos (by simpa using h1), ins_loc, asI_ok, if_pos (by exact Nat.le_of_ble_eq_true rfl), if_pos (by exact Nat.le_of_ble_eq_true rfl), if_pos (by exact ⟨Nat.le_of_ble_eq_true rfl, rfl⟩), ins_loc, asI_ok, hf, asB_ok, if_pos (by exact Nat.le_of_ble_eq_true rfl), ins_a, isOperand_R hE.c163, c1_ok, asB_ok, scK_and, if_pos ⟨rfl, rfl⟩, if_pos ⟨rfl, rfl⟩, if_pos ⟨rfl, rfl⟩, scK_and, fldB, if_pos h1]
    rfl
  rw [if_neg (by simpa using h1)]
  by_cases h2 : i.kind = 2
  · rw [if_pos (by simpa using h2), ins_reg, asI_ok, ins_loc, asI_ok, if_pos (by exact Nat.le_of_ble_eq_true rfl), if_pos (by exact Nat.le_of_ble_eq_true rfl), ins_loc, asI_ok, hf, asB_ok, ins_reg, asI_ok, isReg_R hE.c164, c1_ok, asB_ok, scK_and, if_pos ⟨rfl, rfl⟩, if_pos ⟨rfl, rfl⟩, if_pos ⟨rfl, rfl⟩, scK_and, fldB, if_neg h1, if_pos h2]
    rfl
  rw [if_neg (by simpa using h2)]
  by_cases h3 : i.kind = 3
  · rw [if_pos (by simpa using h3), if_pos ⟨rfl, rfl⟩, if_pos ⟨rfl, rfl⟩, if_pos ⟨rfl, rfl⟩, scK_and, fldB, if_neg h1, if_neg h2, if_pos h3]
    rfl
  rw [if_neg (by simpa using h3)]
  by_cases h4 : i.kind = 4
  · rw [if_pos (by simpa using h4), ins_reg, asI_ok, ins_loc, asI_ok, if_pos (by exact Nat.le_of_ble_eq_true rfl), if_pos (by exact Nat.le_of_ble_eq_true rfl), if_pos (by exact Nat.le_of_ble_eq_true rfl), if_pos (by exact Nat.le_of_ble_eq_true rfl), if_pos (by exact ⟨Nat.le_of_ble_eq_true rfl, rfl⟩), if_pos (by exact ⟨Nat.le_of_ble_eq_true rfl, rfl⟩), ins_loc, asI_ok, hf, asB_ok, ins_reg, asI_ok, isReg_R hE.c164, c1_ok, asB_ok, scK_and, if_pos (by exact Nat.le_of_ble_eq_true rfl), ins_a, isOperand_R hE.c163, c1_ok, asB_ok, scK_and, if_pos (by exact Nat.le_of_ble_eq_true rfl), ins_b, isOperand_R hE.c163, c1_ok, asB_ok, scK_and, if_pos ⟨rfl, rfl⟩, if_pos ⟨rfl, rfl⟩, if_pos ⟨rfl, rfl⟩, scK_and, fldB, if_neg h1, if_neg h2, if_neg h3, if_pos h4]
    rfl
  rw [if_neg (by simpa using h4)]
  by_cases h5 : i.kind = 5
  · rw [if_pos (by simpa using h5), ins_reg, asI_ok, if_pos (by exact Nat.le_of_ble_eq_true rfl), ins_op, asI_ok, if_pos (by exact Nat.le_of_ble_eq_true rfl), if_pos (by exact Nat.le_of_ble_eq_true rfl), if_pos (by exact ⟨Nat.le_of_ble_eq_true rfl, rfl⟩), if_pos (by exact Nat.le_of_ble_eq_true rfl), if_pos (by exact ⟨Nat.le_of_ble_eq_true rfl, rfl⟩), ins_reg, asI_ok, isReg_R hE.c164, c1_ok, asB_ok, if_pos (by exact Nat.le_of_ble_eq_true rfl), ins_a, isOperand_R hE.c163, c1_ok, asB_ok, scK_and, if_pos (by exact Nat.le_of_ble_eq_true rfl), ins_b, isOperand_R hE.c163, c1_ok, asB_ok, scK_and, ins_op, asI_ok, scK_and, ins_op, asI_ok, scK_and, ins_op, asI_ok, if_pos (by exact Nat.le_of_ble_eq_true rfl), if_pos ⟨rfl, rfl⟩, scK_or, scK_and, if_pos ⟨rfl, rfl⟩, if_pos ⟨rfl, rfl⟩, if_pos ⟨rfl, rfl⟩, scK_and, fldB, if_neg h1, if_neg h2, if_neg h3, if_neg h4, if_pos h5]
    rfl
  rw [if_neg (by simpa using h5)]
  by_cases h6 : i.kind = 6
  · rw [if_pos (by simpa using h6), ins_n, asI_ok, if_pos (by exact Nat.le_of_ble_eq_true rfl), if_pos (by exact Nat.le_of_ble_eq_true rfl), if_pos (by exact Nat.le_of_ble_eq_true rfl), if_pos (by exact ⟨Nat.le_of_ble_eq_true rfl, rfl⟩), if_pos (by exact ⟨Nat.le_of_ble_eq_true rfl, rfl⟩), ins_n, asI_ok, if_pos (by exact Nat.le_of_ble_eq_true rfl), ins_a, isOperand_R hE.c163, c1_ok, asB_ok, scK_and, if_pos (by exact Nat.le_of_ble_eq_true rfl), ins_b, isOperand_R hE.c163, c1_ok, asB_ok, scK_and, if_pos ⟨rfl, rfl⟩, if_pos ⟨rfl, rfl⟩, if_pos ⟨rfl, rfl⟩, scK_and, fldB, if_neg h1, if_neg h2, if_neg h3, if_neg h4, if_neg h5, if_pos h6]
    rfl
  rw [if_neg (by simpa using h6), fldB, if_neg h1, if_neg h2, if_neg h3, if_neg h4, if_neg h5, if_neg h6]

theorem okIns_R (hE : print_okIns_In E) (i : Ins) (h : AHeap) : R E 157 [.agg i.cs] h = some ([.c (.bool (fldB locB i))], h) := by
  refine R_intro hE.fn ?_
  have hs : Says E h (.fn 158 []) locB := fun n α F => by
    show c1 (R E 158 ([.c (.int .i64 n)] ++ []) h) F = _
    rw [List.append_nil, IsLoc_R hE.c158, c1_ok]
  rw [print_okIns_eq, if_pos ⟨rfl, rfl⟩, Fields_R hE.c159 i hs, c1_ok, asB_ok]

theorem Ok_1_1_R (hE : print_Ok_1_1_In E) (i : Ins) (h : AHeap) : R E 154 [.agg i.cs] h = some ([.c (.bool (!fldB locB i))], h) := by
  refine R_intro hE.fn ?_
  rw [print_Ok_1_1_eq, if_pos ⟨rfl, rfl⟩, okIns_R hE.c157, c1_ok, asB_ok]

theorem Ok_1_R (hE : print_Ok_1_In E) {x : Cell} {l : List Ins} {h : AHeap} (hx : SlAt h x 9 (codeC l) l.length) (hl : l.length < 9223372036854775807) : R E 140 [.c x] h = some ([.c (.bool (l.any fun i => !fldB locB i))], h) := by
  refine R_intro hE.fn ?_
  have hc := any_sIns_Ins_R hE.c155 (f := .fn 154 []) hx hl (fun i => !fldB locB i) fun i _ α F => by
    show c1 (R E 154 ([.agg i.cs] ++ []) h) F = _
    rw [List.append_nil, Ok_1_1_R hE.c154, c1_ok]
  rw [print_Ok_1_eq, hc, c1_ok, asB_ok]

theorem Ok_2_R (hE : print_Ok_2_In E) (p : Int × Int) (h : AHeap) : R E 142 [.agg (pairCs p)] h = some ([.c (.bool (!locB p.1))], h) := by
  refine R_intro hE.fn ?_
  have a0 : ∀ {α : Type} (f : Cell → Option α), atK (pairCs p) 0 f = f (.int .i64 p.1) := fun _ => rfl
  rw [print_Ok_2_eq, a0, asI_ok, IsLoc_R hE.c158, c1_ok, asB_ok]

/-- Is a name a word? -/
def chrB (b : UInt8) (first : Bool) : Bool := !((decide ((b.toNat : Int) < 97) || decide ((b.toNat : Int) > 122)) && ((first || decide ((b.toNat : Int) < 48)) || decide ((b.toNat : Int) > 57)))
def wordB (s : ByteArray) : Bool := (List.range s.size).all (fun i => match s[i]? with | some b => chrB b (i == 0) | none => true) && !(s.toList == (ByteArray.mk #[]).toList)

theorem isWord_R (hE : print_isWord_In E) {s : ByteArray} (hs : s.size < 9223372036854775807) (h : AHeap) : R E 141 [.c (.str s)] h = some ([.c (.bool (wordB s))], h) := by
  refine R_intro hE.fn ?_
  have loop : ∀ (n i : Nat), i + n = s.size → (Lim (print_isWord_F1 (R E) Lim E.glob) (print_isWord_s1 s s.size (i : Int) h)).bind (fun q => print_isWord_k3 (R E) Lim E.glob h q.1 q.2) =
      some ([.c (.bool (((List.range n).all fun k => match s[i + k]? with | some b => chrB b (i + k == 0) | none => true) && !(s.toList == (ByteArray.mk #[]).toList)))], h) := by
    intro n
    induction n with
    | zero =>
      intro i hi
      have hr : print_isWord_F1 (R E) Lim E.glob (print_isWord_s1 s s.size (i : Int) h) = some (.exit 0, print_isWord_x1_1 s h) := by rw [print_isWord_r1, if_neg (by simp; omega)]
      rw [Lim_exit hr, bind_ok, print_isWord_e1_1]; rfl
    | succ n ih =>
      intro i hi
      have hq : s[i]? = some s[i] := getElem?_pos s i (by omega)
      generalize s[i] = b at hq
      have hz : ((i : Int) == 0) = (i == 0) := by cases i <;> rfl
      have hg : print_isWord_F1 (R E) Lim E.glob (print_isWord_s1 s s.size (i : Int) h) = if (!chrB b (i == 0)) = true then some (.ret, print_isWord_x1_0 false h) else some (.normal, print_isWord_s1 s s.size ((i + 1 : Nat) : Int) h) := by
        rw [print_isWord_r1, if_pos (by simp; omega), if_pos (by omega), Int.toNat_natCast, hq, bind_ok]
        simp only [scK_or, scK_and, hz]
        rw [g_succ (by omega), show (!chrB b (i == 0)) = ((decide ((b.toNat : Int) < 97) || decide ((b.toNat : Int) > 122)) && ((i == 0 || decide ((b.toNat : Int) < 48)) || decide ((b.toNat : Int) > 57))) by unfold chrB; rw [Bool.not_not]]
      rw [List.range_succ_eq_map, List.all_cons, List.all_map, Nat.add_zero, hq]
      dsimp only
      cases hb : chrB b (i == 0) with
      | false =>
        rw [hb, if_pos (show (!false) = true from rfl)] at hg
        rw [Lim_ret hg, bind_ok, print_isWord_e1_0]; rfl
      | true =>
        rw [hb, if_neg (by simp)] at hg
        have h1 := ih (i + 1) (by omega)
        rw [Bool.true_and]
        have he : ((List.range n).all ((fun k => match s[i + k]? with | some b => chrB b (i + k == 0) | none => true) ∘ Nat.succ)) = ((List.range n).all fun k => match s[i + 1 + k]? with | some b => chrB b (i + 1 + k == 0) | none => true) := by
          congr 1
          funext k
          show (match s[i + (k + 1)]? with | some b => chrB b (i + (k + 1) == 0) | none => true) = _
          rw [show i + (k + 1) = i + 1 + k by omega]
        rw [he]
        cases hL : Lim (print_isWord_F1 (R E) Lim E.glob) (print_isWord_s1 s s.size ((i + 1 : Nat) : Int) h) with
        | none => rw [hL] at h1; cases h1
        | some w => rw [Lim_next hg hL]; rw [hL] at h1; exact h1
  have := loop s.size 0 (by omega)
  rw [print_isWord_eq, show ∀ {α : Type} (f : Int → Option α), lenSK (.str s) f = f s.size from fun _ => rfl]
  rw [show ((0 : Nat) : Int) = 0 from rfl] at this
  rw [this]
  unfold wordB
  simp only [Nat.zero_add]

def atmB (a : Atm) : Bool := if a.thread = -1 then (a.reg == 0 && locB a.loc) else decide (a.thread ≥ 0) && decide (a.thread ≤ 9) && (a.loc == 0) && regB a.reg

theorem okAtom_R (hE : print_okAtom_In E) (a : Atm) (h : AHeap) : R E 166 [.agg a.cs] h = some ([.c (.bool (atmB a))], h) := by
  refine R_intro hE.fn ?_
  have a0 : ∀ {α : Type} (f : Cell → Option α), atK a.cs 0 f = f (.int .i64 a.thread) := fun _ => rfl
  have a1 : ∀ {α : Type} (f : Cell → Option α), atK a.cs 1 f = f (.int .i64 a.reg) := fun _ => rfl
  have a2 : ∀ {α : Type} (f : Cell → Option α), atK a.cs 2 f = f (.int .i64 a.loc) := fun _ => rfl
  rw [print_okAtom_eq]
  simp only [a0, a1, a2, asI_ok, IsLoc_R hE.c158, isReg_R hE.c164, c1_ok, asB_ok, scK_and]
  unfold atmB
  by_cases h1 : a.thread = -1
  · rw [if_pos (by simpa using h1), if_pos h1]
  · rw [if_neg (by simpa using h1), if_neg h1]

theorem okCond_1_1_R (hE : print_okCond_1_1_In E) (a : Atm) (h : AHeap) : R E 165 [.agg a.cs] h = some ([.c (.bool (!atmB a))], h) := by
  refine R_intro hE.fn ?_
  rw [print_okCond_1_1_eq, if_pos ⟨rfl, rfl⟩, okAtom_R hE.c166, c1_ok, asB_ok]

def rowBad (r : List Atm) : Bool := r.length == 0 || r.any fun a => !atmB a
theorem okCond_1_R (hE : print_okCond_1_In E) {x : Cell} {l : List Atm} {h : AHeap} (hx : SlAt h x 4 (atmC l) l.length) (hl : l.length < 9223372036854775807) : R E 161 [.c x] h = some ([.c (.bool (rowBad l))], h) := by
  refine R_intro hE.fn ?_
  have hc := any_sAtom_Atom_R hE.c132 (f := .fn 165 []) hx hl (fun i => !atmB i) fun i _ α F => by
    show c1 (R E 165 ([.agg i.cs] ++ []) h) F = _
    rw [List.append_nil, okCond_1_1_R hE.c165, c1_ok]
  rw [print_okCond_1_eq, hx.len, hc, c1_ok, asB_ok, scK_or]
  have hz : ((l.length : Int) == 0) = (l.length == 0) := by cases l <;> rfl
  rw [hz]; rfl

def condB (ck : Int) (any : List (List Atm)) : Bool := if ck = 0 then any.length == 0 else (ck == 1 || ck == 2) && decide ((any.length : Int) > 0) && !(any.any rowBad)

/-- The rows that came in are not too long. -/
structure PTest.fits (T : PTest) : Prop where
  name : T.name.size < 9223372036854775807
  inits : T.inits.length < 9223372036854775807
  thr : T.thr.length < 9223372036854775807
  code : ∀ c ∈ T.thr, c.length < 9223372036854775807
  any : T.any.length < 9223372036854775807
  row : ∀ c ∈ T.any, c.length < 9223372036854775807

theorem okCond_R (hE : print_okCond_In E) {ck : Int} {c : Cell} {any : List (List Atm)} {h : AHeap} (hc : RowsOf 4 atmC h c any) (hl : any.length < 9223372036854775807) (hr : ∀ r ∈ any, r.length < 9223372036854775807) : R E 144 [.agg [.int .i64 ck, c]] h = some ([.c (.bool (condB ck any))], h) := by
  refine R_intro hE.fn ?_
  have a0 : ∀ {α : Type} (f : Cell → Option α), atK [.int .i64 ck, c] 0 f = f (.int .i64 ck) := fun _ => rfl
  have a1 : ∀ {α : Type} (f : Cell → Option α), atK [.int .i64 ck, c] 1 f = f c := fun _ => rfl
  have hcf := any_ssAtom_sAtom_R hE.c146 (f := .fn 161 []) hc hl rowBad fun r hm y hy α F => by
    show c1 (R E 161 ([.c y] ++ []) h) F = _
    rw [List.append_nil, okCond_1_R hE.c161 hy (hr r hm), c1_ok]
  rw [print_okCond_eq]
  simp only [a0, a1, asI_ok, hc.len, hcf, c1_ok, asB_ok, scK_or, scK_and]
  unfold condB
  have hz : ((any.length : Int) == 0) = (any.length == 0) := by cases any <;> rfl
  by_cases h1 : ck = 0
  · rw [if_pos (by simpa using h1), if_pos h1, hz]
  · rw [if_neg (by simpa using h1), if_neg h1]

def okT (T : PTest) : Bool := wordB T.name && !(T.inits.any fun p => !locB p.1) && !(T.thr.any fun c => c.any fun i => !fldB locB i) && condB T.ck T.any

theorem print_Ok_R (hE : print_Ok_In E) {cs : List Cell} {T : PTest} {h : AHeap} (p : TestAt h cs T) (hs : T.fits) : R E 126 [.agg cs] h = some ([.c (.bool (okT T))], h) := by
  refine R_intro hE.fn ?_
  obtain ⟨a, b, c, rfl, ⟨ha, hal⟩, hb, hc⟩ := p
  have a0 : ∀ {α : Type} (f : Cell → Option α), atK [.str T.name, a, b, .int .i64 T.ck, c] 0 f = f (.str T.name) := fun _ => rfl
  have a1 : ∀ {α : Type} (f : Cell → Option α), atK [.str T.name, a, b, .int .i64 T.ck, c] 1 f = f a := fun _ => rfl
  have a2 : ∀ {α : Type} (f : Cell → Option α), atK [.str T.name, a, b, .int .i64 T.ck, c] 2 f = f b := fun _ => rfl
  have c1' := any_sInit_Init_R hE.c143 (f := .fn 142 []) ha hs.inits (fun p => !locB p.1) fun i _ α F => by
    show c1 (R E 142 ([.agg (pairCs i)] ++ []) h) F = _
    rw [List.append_nil, Ok_2_R hE.c142, c1_ok]
  have c2' := any_ssIns_sIns_R hE.c130 (f := .fn 140 []) hb hs.thr (fun c => c.any fun i => !fldB locB i) fun r hm y hy α F => by
    show c1 (R E 140 ([.c y] ++ []) h) F = _
    rw [List.append_nil, Ok_1_R hE.c140 hy (hs.code r hm), c1_ok]
  rw [print_Ok_eq, a0, show ∀ {α : Type} (f : ByteArray → Option α), asS (.c (.str T.name)) f = f T.name from fun _ => rfl, isWord_R hE.c141 hs.name, c1_ok, asB_ok, a1, c1', c1_ok, asB_ok, scK_and, a2, c2', c1_ok, asB_ok, scK_and, if_pos (by exact Nat.le_of_ble_eq_true rfl), show ((([.str T.name, a, b, .int .i64 T.ck, c] : List Cell).drop 3).take 2) = [.int .i64 T.ck, c] from rfl, okCond_R hE.c144 hc hs.any hs.row, c1_ok, asB_ok, scK_and]
  rfl

end
end Jq

