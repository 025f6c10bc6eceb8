/- YtldfafaiappibaaEventKindsC: a part of the proof; no conditions of its own. -/
import Derived.KernelRfl
import Derived.Test.YtldfafaiappibaaRows
import Derived.WalkKit
import Derived.ProofKit
import Derived.OpenShut
import Derived.ShutString
import Derived.ChangeOld
import Derived.Below
import Derived.Carry
import Derived.Test.YtldfafaiappibaaEventKindsB
set_option linter.unusedVariables false
set_option linter.unusedSimpArgs false

/- Programs: instructions, where a thread is; what is done at once. -/
namespace Jq
open Go

structure Opd where
  reg : Int
  val : Int
  deriving DecidableEq
structure Ins where
  kind : Int
  reg : Int
  loc : Int
  a : Opd
  op : Int
  b : Opd
  n : Int
  deriving DecidableEq
structure Lcl where
  pc : Int
  r0 : Int
  r1 : Int
  r2 : Int
  r3 : Int
  deriving DecidableEq

def Opd.cs (o : Opd) : List Cell := [.int .i64 o.reg, .int .i64 o.val]
def Ins.cs (i : Ins) : List Cell := [.int .i64 i.kind, .int .i64 i.reg, .int .i64 i.loc, .int .i64 i.a.reg, .int .i64 i.a.val, .int .i64 i.op, .int .i64 i.b.reg, .int .i64 i.b.val, .int .i64 i.n]
def Lcl.cs (l : Lcl) : List Cell := [.int .i64 l.pc, .int .i64 l.r0, .int .i64 l.r1, .int .i64 l.r2, .int .i64 l.r3]
def codeC (l : List Ins) : List Cell := l.flatMap Ins.cs
def Ins.zero : Ins := ⟨0, 0, 0, ⟨0, 0⟩, 0, ⟨0, 0⟩, 0⟩
def Lcl.zero : Lcl := ⟨0, 0, 0, 0, 0⟩

theorem Ins.len (i : Ins) : i.cs.length = 9 := rfl
theorem Lcl.len (l : Lcl) : l.cs.length = 5 := rfl
theorem zero9 : List.replicate 9 (Cell.int .i64 0) = Ins.zero.cs := rfl
theorem zero5 : [Cell.int .i64 0, Cell.int .i64 0, Cell.int .i64 0, Cell.int .i64 0, Cell.int .i64 0] = Lcl.zero.cs := rfl

theorem codeC_len : ∀ l : List Ins, (codeC l).length = l.length * 9
  | [] => rfl
  | s :: l => by simp only [codeC, List.flatMap_cons, List.length_append]; rw [show (l.flatMap _).length = _ from codeC_len l, Ins.len]; simp; omega

theorem codeC_at : ∀ (l : List Ins) (i : Nat) (s : Ins), l[i]? = some s → ((codeC l).drop (i * 9)).take 9 = s.cs
  | [], _, _, h => by simp at h
  | q :: l, 0, s, h => by simp at h; subst h; rfl
  | q :: l, i + 1, s, h => by
    have := codeC_at l i s (by simpa using h)
    have e : codeC (q :: l) = q.cs ++ codeC l := rfl
    rw [e, List.drop_append, List.drop_of_length_le (by rw [Ins.len]; omega), List.nil_append, show (i + 1) * 9 - q.cs.length = i * 9 by rw [Ins.len]; omega]
    exact this

theorem codeC_snoc (l : List Ins) (s : Ins) : codeC (l ++ [s]) = codeC l ++ s.cs := by simp [codeC]

/-- One instruction, wherever it is looked at. -/
theorem SlAt.insG {h : AHeap} {x : Cell} {l : List Ins} (s : SlAt h x 9 (codeC l) l.length) {i : Nat} {q : Ins} (hq : l[i]? = some q) :
    ∃ off cs', (∀ {α : Type} (G : Nat → List Cell → Option α), (idxSK 9 x (i : Int) fun k N o => rdH h k N fun l => G o l) = G off cs') ∧ off + 9 ≤ cs'.length ∧ (cs'.drop off).take 9 = q.cs := by
  have hi : i < l.length := by
    rcases Nat.lt_or_ge i l.length with h | h
    · exact h
    · rw [List.getElem?_eq_none h] at hq; cases hq
  obtain ⟨off, cs', h1, h2, h3⟩ := s.elG hi
  exact ⟨off, cs', h1, h2, h3.trans (codeC_at l i q hq)⟩

/-- A register. -/
def Lcl.reg (l : Lcl) (i : Int) : Int := if i = 0 then l.r0 else if i = 1 then l.r1 else if i = 2 then l.r2 else l.r3
/-- A register set, if there is one. -/
def Lcl.setR (l : Lcl) (i v : Int) : Lcl := if i = 0 then { l with r0 := v } else if i = 1 then { l with r1 := v } else if i = 2 then { l with r2 := v } else if i = 3 then { l with r3 := v } else l
/-- An operand's number. -/
def opV (o : Opd) (l : Lcl) : Int := if 0 ≤ o.reg ∧ o.reg < 4 then l.reg o.reg else o.val

/-- Numbers as they are, no tables. -/
def GN : Glo := Glo.std fun _ => []

/-- What a sign makes of two numbers. -/
def doV (op a b : Int) : Option Int :=
  if op = 1 then some (GN.wrap .i64 (a + b)) else if op = 2 then some (GN.wrap .i64 (a - b)) else if op = 3 then some (GN.wrap .i64 (a * b))
  else if op = 4 then some (GN.band .i64 a b) else if op = 5 then some (GN.bor .i64 a b) else if op = 6 then some (GN.bxor .i64 a b)
  else if op = 7 then some (GN.shl .i64 a (GN.rem .u64 (GN.wrap .u64 b) 64)) else if op = 8 then some (GN.shr .i64 a (GN.rem .u64 (GN.wrap .u64 b) 64))
  else if op = 9 then some (if a = b then 1 else 0) else if op = 10 then some (if a = b then 0 else 1) else if op = 11 then some (if a < b then 1 else 0) else none

/-- One instruction that is done at once, if one comes. -/
def stepI (code : List Ins) (l : Lcl) : Option Lcl :=
  if 0 ≤ l.pc then match code[l.pc.toNat]? with
    | none => none
    | some i =>
      if i.kind = 5 then
        let m := l.setR i.reg ((doV i.op (opV i.a l) (opV i.b l)).getD (opV i.a l))
        some { m with pc := m.pc + 1 }
      else if i.kind = 6 then
        (if opV i.a l = opV i.b l then some { l with pc := l.pc + min (max i.n 0) code.length + 1 } else some { l with pc := l.pc + 1 })
      else none
  else none

def nrm (code : List Ins) : Nat → Lcl → Lcl
  | 0, l => l
  | k + 1, l => match stepI code l with
    | none => l
    | some l' => nrm code k l'

/-- Made normal. -/
def normL (code : List Ins) (l : Lcl) : Lcl := nrm code code.length l

theorem getI_lt {α : Type} {l : List α} {i : Nat} {v : α} (h : l[i]? = some v) : i < l.length := by
  rcases Nat.lt_or_ge i l.length with h1 | h1
  · exact h1
  · rw [List.getElem?_eq_none h1] at h; cases h

theorem Lcl.setR_pc (l : Lcl) (i v : Int) : (l.setR i v).pc = l.pc := by unfold Lcl.setR; repeat' split <;> try rfl

theorem stepI_pc {code : List Ins} {l l' : Lcl} (h : stepI code l = some l') : 0 ≤ l.pc ∧ l.pc < code.length ∧ l.pc < l'.pc ∧ l'.pc ≤ 2 * code.length := by
  unfold stepI at h
  split at h
  · rename_i h0
    cases hi : code[l.pc.toNat]? with
    | none => rw [hi] at h; cases h
    | some i =>
      rw [hi] at h
      have hlt := getI_lt hi
      simp only at h
      split at h
      · cases h
        have := l.setR_pc i.reg ((doV i.op (opV i.a l) (opV i.b l)).getD (opV i.a l))
        refine ⟨h0, by omega, ?_, ?_⟩ <;> simp only [this] <;> omega
      · split at h
        · split at h
          · cases h; refine ⟨h0, by omega, ?_, ?_⟩ <;> simp only <;> omega
          · cases h; refine ⟨h0, by omega, ?_, ?_⟩ <;> simp only <;> omega
        · cases h
  · cases h

theorem nrm_stop {code : List Ins} {l : Lcl} (h : stepI code l = none) : ∀ k, nrm code k l = l
  | 0 => rfl
  | k + 1 => by rw [nrm, h]

/-- Behind as many steps as there are instructions it has come to a stop. -/
theorem nrm_done {code : List Ins} : ∀ (k : Nat) (l : Lcl), (0 ≤ l.pc → (code.length : Int) ≤ l.pc + k) → stepI code (nrm code k l) = none
  | 0, l, h => by
    rw [nrm]
    cases hs : stepI code l with
    | none => rfl
    | some l' => have := stepI_pc hs; have := h this.1; omega
  | k + 1, l, h => by
    rw [nrm]
    cases hs : stepI code l with
    | none => exact hs
    | some l' =>
      have := stepI_pc hs
      exact nrm_done k l' (fun _ => by have := h this.1; omega)

theorem nrm_more {code : List Ins} : ∀ (k m : Nat) (l : Lcl), (0 ≤ l.pc → (code.length : Int) ≤ l.pc + k) → nrm code (k + m) l = nrm code k l
  | 0, m, l, h => by
    rw [Nat.zero_add]
    refine (nrm_stop ?_ m)
    cases hs : stepI code l with
    | none => rfl
    | some l' => have := stepI_pc hs; have := h this.1; omega
  | k + 1, m, l, h => by
    rw [show k + 1 + m = (k + m) + 1 by omega, nrm, nrm]
    cases hs : stepI code l with
    | none => rfl
    | some l' =>
      have := stepI_pc hs
      exact nrm_more k m l' (fun _ => by have := h this.1; omega)

theorem normL_step {code : List Ins} {l l' : Lcl} (h : stepI code l = some l') : normL code l = normL code l' := by
  obtain ⟨a, b, c, _⟩ := stepI_pc h
  unfold normL
  obtain ⟨n, hn⟩ : ∃ n, code.length = n + 1 := ⟨code.length - 1, by omega⟩
  have h2 : nrm code code.length l' = nrm code n l' := by rw [hn]; exact nrm_more n 1 l' (fun _ => by omega)
  have h1 : nrm code code.length l = nrm code n l' := by rw [hn, nrm, h]
  rw [h1, h2]
theorem normL_stop {code : List Ins} {l : Lcl} (h : stepI code l = none) : normL code l = l := nrm_stop h _
theorem normL_done (code : List Ins) (l : Lcl) : stepI code (normL code l) = none := nrm_done _ _ (fun _ => by omega)

section
variable {E : Env}

theorem lcl_get {l : Lcl} {i : Int} (h0 : 0 ≤ i) (h1 : i < 4) : l.cs[1 + Int.toNat i * 1]? = some (.int .i64 (l.reg i)) := by
  have h : i = 0 ∨ i = 1 ∨ i = 2 ∨ i = 3 := by omega
  rcases h with rfl | rfl | rfl | rfl <;> rfl

theorem lcl_set {l : Lcl} {i v : Int} (h0 : 0 ≤ i) (h1 : i < 4) : l.cs.set (1 + Int.toNat i * 1) (.int .i64 v) = (l.setR i v).cs := by
  have h : i = 0 ∨ i = 1 ∨ i = 2 ∨ i = 3 := by omega
  rcases h with rfl | rfl | rfl | rfl <;> rfl

theorem Value_R (hE : prog_Value_In E) (o : Opd) (l : Lcl) (h : AHeap) : R E 108 [.agg o.cs, .agg l.cs] h = some ([.c (.int .i64 (opV o l))], h) := by
  refine R_intro hE.fn ?_
  have a0 : ∀ {α : Type} (f : Cell → Option α), atK o.cs 0 f = f (.int .i64 o.reg) := fun _ => rfl
  have a1 : ∀ {α : Type} (f : Cell → Option α), atK o.cs 1 f = f (.int .i64 o.val) := fun _ => rfl
  unfold opV
  rw [prog_Value_eq]
  simp only [a0, a1, asI_ok, scK_and]
  by_cases h1 : 0 ≤ o.reg ∧ o.reg < 4
  · rw [if_pos (by simp; exact h1), if_pos ⟨h1.1, h1.2⟩, if_pos h1, atK_ok (lcl_get h1.1 h1.2), asI_ok]
  · rw [if_neg (by simp; omega), if_neg h1]

theorem set_R (hE : prog_set_In E) (i v : Int) {l : Lcl} {k : Nat} {h : AHeap} (hk : blk? h k = some ⟨true, 0, l.cs⟩) :
    R E 124 [.c (.ptr k 5 0), .c (.int .i64 i), .c (.int .i64 v)] h = some ([], setBlk h k (some ⟨true, 0, (l.setR i v).cs⟩)) := by
  refine R_intro hE.fn ?_
  rw [prog_set_eq, scK_and]
  by_cases h1 : 0 ≤ i ∧ i < 4
  · rw [if_pos (by simp; exact h1), if_pos ⟨h1.1, h1.2⟩, rdH_ok hk (Lcl.len l), if_pos (by rw [Lcl.len]; omega), show 0 + 1 + Int.toNat i * 1 = 1 + Int.toNat i * 1 by omega, lcl_set h1.1 h1.2, putH_ok hk rfl]
  · have e : l.setR i v = l := by unfold Lcl.setR; rw [if_neg (by omega), if_neg (by omega), if_neg (by omega), if_neg (by omega)]
    have e2 : setBlk h k (some ⟨true, 0, l.cs⟩) = h := by
      refine List.ext_getElem? fun j => ?_
      unfold setBlk
      rw [List.getElem?_set]
      by_cases hj : k = j
      · subst hj
        rw [if_pos rfl, if_pos (blk_lt' hk)]
        unfold blk? at hk
        cases hh : h[k]? with
        | none => rw [hh] at hk; cases hk
        | some b => rw [hh] at hk; simp at hk; rw [hk]
      · rw [if_neg hj]
    rw [if_neg (by simp; omega), e, e2]

theorem one_R (hE : num_one_In E) (b : Bool) (h : AHeap) : R E 139 [.c (.bool b)] h = some ([.c (.int .i64 (if b = true then 1 else 0))], h) := by
  refine R_intro hE.fn ?_
  rw [num_one_eq]
  cases b <;> rfl

theorem Do_R (hE : num_Do_In E) (op a b : Int) (h : AHeap) : R E 125 [.c (.int .i64 op), .c (.int .i64 a), .c (.int .i64 b)] h = some ([.c (.int .i64 ((doV op a b).getD 0)), .c (.bool (doV op a b).isSome)], h) := by
  refine R_intro hE.fn ?_
  rw [num_Do_eq]
  simp only [one_R hE.c139, c1_ok, asI_ok]
  have hr : ∀ x : Int, ¬ E.glob.rem .u64 (E.glob.wrap .u64 x) 64 < 0 := by
    intro x
    show ¬ Int.tmod (IntKind.wrap .u64 x) 64 < 0
    have h0 : 0 ≤ IntKind.wrap .u64 x := by
      simp only [IntKind.wrap, IntKind.signed, IntKind.bits, Bool.false_and, Bool.false_eq_true, if_false]
      exact Int.emod_nonneg _ (by omega)
    rw [Int.tmod_eq_emod_of_nonneg h0]
    have := Int.emod_nonneg (IntKind.wrap .u64 x) (b := 64) (by omega)
    omega
  simp only [hr, if_false]
  unfold doV
  have key : ∀ k : Int, ((op == k) = true) = (op = k) := fun k => by rw [beq_iff_eq]
  simp only [key]
  by_cases h1 : op = 1
  · simp only [if_pos h1]; rfl
  simp only [if_neg h1]
  by_cases h2 : op = 2
  · simp only [if_pos h2]; rfl
  simp only [if_neg h2]
  by_cases h3 : op = 3
  · simp only [if_pos h3]; rfl
  simp only [if_neg h3]
  by_cases h4 : op = 4
  · simp only [if_pos h4]; rfl
  simp only [if_neg h4]
  by_cases h5 : op = 5
  · simp only [if_pos h5]; rfl
  simp only [if_neg h5]
  by_cases h6 : op = 6
  · simp only [if_pos h6]; rfl
  simp only [if_neg h6]
  by_cases h7 : op = 7
  · simp only [if_pos h7]; rfl
  simp only [if_neg h7]
  by_cases h8 : op = 8
  · simp only [if_pos h8]; rfl
  simp only [if_neg h8]
  by_cases h9 : op = 9
  · simp only [if_pos h9]; (by_cases hab : a = b <;> simp [hab])
  simp only [if_neg h9]
  by_cases h10 : op = 10
  · simp only [if_pos h10]; (by_cases hab : a = b <;> simp [hab])
  simp only [if_neg h10]
  by_cases h11 : op = 11
  · simp only [if_pos h11]; (by_cases hab : a < b <;> simp [hab])
  simp only [if_neg h11]
  rfl

end
end Jq

/- RelAlgebra: joining and meeting are the same both ways; turned twice a relation is itself; closed twice it is closed. -/
namespace Jq
open Go

theorem clK_ge {n : Nat} {f : Nat → Nat} {a : Nat} (ha : n ≤ a) : ∀ k, clK n f k a = f a
  | 0 => rfl
  | k + 1 => by rw [clK, cl1_eq, if_neg (by omega), clK_ge ha k]

theorem clK_bit {n : Nat} {f : Nat → Nat} (ff : Fit n f) (a b : Nat) : (clK n f n a).testBit b = true ↔ Way f n a b := by
  rcases Nat.lt_or_ge a n with ha | ha
  · exact clK_way n f n (Nat.le_refl _) a b ha
  · rw [clK_ge ha]
    constructor
    · exact fun h => .one h
    · intro w
      have : a < n := by
        cases w with
        | one h => exact (ff _ _ h).1
        | step h _ _ => exact (ff _ _ h).1
      omega

theorem way_fit {n : Nat} {f : Nat → Nat} (ff : Fit n f) {a b : Nat} (w : Way f n a b) : a < n ∧ b < n := by
  induction w with
  | one h => exact ff _ _ h
  | step h _ _ ih => exact ⟨(ff _ _ h).1, ih.2⟩

theorem clK_fit {n : Nat} {f : Nat → Nat} (ff : Fit n f) : Fit n (clK n f n) := fun a b h => way_fit ff ((clK_bit ff a b).1 h)

theorem way_way {n : Nat} {f : Nat → Nat} (ff : Fit n f) {a b : Nat} : Way (clK n f n) n a b ↔ Way f n a b := by
  constructor
  · intro w
    induction w with
    | one h => exact (clK_bit ff _ _).1 h
    | step h hc _ ih => exact ((clK_bit ff _ _).1 h).trans hc ih
  · intro w; exact .one ((clK_bit ff _ _).2 w)

variable {E : Env}

theorem clamp_eq (a : Int) : (if 64 < (if 0 > a then 0 else a) then 64 else (if 0 > a then 0 else a)) = ((clamp a : Nat) : Int) := by
  unfold clamp; split <;> split <;> omega
theorem clamp_le (a : Int) : clamp a ≤ 64 := by unfold clamp; omega

theorem RelAlgebra_R (hE : jacquardlaw8_RelAlgebra_In E) (ht : TabOk E) (a0 : Int) {x1 x2 : Cell} {l1 l2 : List (Int × Int)} {h : AHeap} (hx1 : SlAt h x1 2 (pairC l1) l1.length) (hl1 : Low h.length x1)
    (hx2 : SlAt h x2 2 (pairC l2) l2.length) (hl2 : Low h.length x2) : R E 243 [.c (.int .i64 a0), .c x1, .c x2] h = some ([.c (.bool true)], h) := by
  refine R_intro hE.fn ?_
  rw [jacquardlaw8_RelAlgebra_eq]
  have hn := clamp_le a0
  simp only [clamp_eq]
  generalize clamp a0 = n at hn
  rw [Of_R hE.c1 (n : Int) hx1 hl1, c2_ok, asA_ok, asA_ok, clamp_nat hn]
  have hf := words_of n (l1.take 200)
  have hg := words_of n (l2.take 200)
  have ff := of_fit hn (l1.take 200)
  have fg := of_fit hn (l2.take 200)
  simp only [relL_len, zero_len, and_self, if_true]
  rw [Of_R hE.c1 (n : Int) hx2 hl2, c2_ok, asA_ok, asA_ok, clamp_nat hn]
  simp only [relL_len, and_self, if_true]
  generalize ofR n (l1.take 200) = f at *
  generalize ofR n (l2.take 200) = g at *
  have hc := words_clK hf n n
  have fc := clK_fit ff
  have e1 : relL n (UNI n f g) = relL n (UNI n g f) := rel_eq (w_UNI _ _ _) (w_UNI _ _ _) fun i j => by simp only [b_UNI hn]; constructor <;> (rintro ⟨q1, q2, q⟩; exact ⟨q1, q2, q.symm⟩)
  have e2 : relL n (MEE n f g) = relL n (MEE n g f) := rel_eq (w_MEE _ _ _) (w_MEE _ _ _) fun i j => by simp only [b_MEE hn]; constructor <;> (rintro ⟨q1, q2, q⟩; exact ⟨q1, q2, q.symm⟩)
  have e3 : relL n (INV n (INV n f)) = relL n f := rel_eq (w_INV _ _) hf fun i j => by
    simp only [b_INV hn]
    exact ⟨fun q => q.2.2, fun q => ⟨(ff _ _ q).2, (ff _ _ q).1, q⟩⟩
  have e4 : relL n (clK n (clK n f n) n) = relL n (clK n f n) := rel_eq (words_clK hc n n) hc fun i j => by
    rw [clK_bit fc, clK_bit ff, way_way ff]
  have e5 : relL n (INV n (TH n f g)) = relL n (TH n (INV n g) (INV n f)) := rel_eq (w_INV _ _) (w_TH _ _ _) fun i j => by
    simp only [b_INV hn, b_TH hn]
    constructor
    · rintro ⟨q1, _, q2, k, q3, q4, q5⟩; exact ⟨q2, q1, k, q3, ⟨q3, q5⟩, q1, q4⟩
    · rintro ⟨q2, q1, k, q3, ⟨_, q5⟩, _, q4⟩; exact ⟨q1, q1, q2, k, q3, q4, q5⟩
  have e6 : relL n (UNI n (MIN n f g) (MEE n f g)) = relL n f := rel_eq (w_UNI _ _ _) hf fun i j => by
    simp only [b_UNI hn, b_MIN hn, b_MEE hn]
    constructor
    · rintro ⟨_, _, ⟨_, _, q, _⟩ | ⟨_, _, q, _⟩⟩ <;> exact q
    · intro q
      obtain ⟨q1, q2⟩ := ff _ _ q
      by_cases hgb : (g i).testBit j = true
      · exact ⟨q1, q2, .inr ⟨q1, q2, q, hgb⟩⟩
      · exact ⟨q1, q2, .inl ⟨q1, q2, q, hgb⟩⟩
  have e6' : relL n (UNI n (MIN n f g) (MEE n g f)) = relL n f := rel_eq (w_UNI _ _ _) hf fun i j => by
    simp only [b_UNI hn, b_MIN hn, b_MEE hn]
    constructor
    · rintro ⟨_, _, ⟨_, _, q, _⟩ | ⟨_, _, _, q⟩⟩ <;> exact q
    · intro q
      obtain ⟨q1, q2⟩ := ff _ _ q
      by_cases hgb : (g i).testBit j = true
      · exact ⟨q1, q2, .inr ⟨q1, q2, hgb, q⟩⟩
      · exact ⟨q1, q2, .inl ⟨q1, q2, q, hgb⟩⟩
  have e7 : relL n (UNI n (TH n (clK n f n) (clK n f n)) (clK n f n)) = relL n (clK n f n) := rel_eq (w_UNI _ _ _) hc fun i j => by
    simp only [b_UNI hn, b_TH hn]
    constructor
    · rintro ⟨_, _, ⟨_, _, k, q3, q4, q5⟩ | q⟩
      · exact (clK_bit ff _ _).2 (((clK_bit ff _ _).1 q4).trans q3 ((clK_bit ff _ _).1 q5))
      · exact q
    · intro q
      exact ⟨(fc _ _ q).1, (fc _ _ q).2, .inr q⟩
  have e8 : relL n (UNI n f (clK n f n)) = relL n (clK n f n) := rel_eq (w_UNI _ _ _) hc fun i j => by
    simp only [b_UNI hn]
    constructor
    · rintro ⟨_, _, q | q⟩
      · exact (clK_bit ff _ _).2 (.one q)
      · exact q
    · intro q
      exact ⟨(fc _ _ q).1, (fc _ _ q).2, .inr q⟩
  have e9 : relL n (UNI n f f) = relL n f := rel_eq (w_UNI _ _ _) hf fun i j => by
    simp only [b_UNI hn, or_self]
    exact ⟨fun q => q.2.2, fun q => ⟨(ff _ _ q).1, (ff _ _ q).2, q⟩⟩
  simp only [relL_len, zero_len, and_self, if_true, Then_S hE.c58 ht hn, Union_S hE.c59 hn, Meet_S hE.c67 hn, Minus_S hE.c68 hn, Inverse_S hE.c40 ht hn, Closure_R hE.c12 hn, awake8_R hE.c55, hf, hg, hc, w_TH, w_UNI, w_MEE, w_MIN, w_INV, qh_ok, c1_ok, asA_ok, asB_ok, bind_ok, scK_ok, zero_rel, alike_rel, e1, e2, e3, e4, e5, e6, e6', e7, e8, e9, decide_true]

theorem RelAlgebra_law (ht : TabOk E) (hE : jacquardlaw8_RelAlgebra_In E) {h : AHeap} {c0 c1 c2 : List Cell} (o0 : okC h (.i .i64) c0) (o1 : okC h (.sl shPair) c1) (o2 : okC h (.sl shPair) c2) :
    ∃ h', R E 243 [av1 (.i .i64) c0, av1 (.sl shPair) c1, av1 (.sl shPair) c2] h = some ([.c (.bool true)], h') := by
  obtain ⟨a0, e0, _⟩ := arg_int o0
  obtain ⟨x1, l1, e1, hx1, hl1, _⟩ := arg_pairs o1
  obtain ⟨x2, l2, e2, hx2, hl2, _⟩ := arg_pairs o2
  rw [e0, e1, e2]
  exact ⟨h, RelAlgebra_R hE ht a0 hx1 hl1 hx2 hl2⟩

end Jq

/- Relations told once more, by hand: closing, none leading to itself, cutting down, whether two are the same. -/
namespace Jq
open Go

theorem Low_mono {n m : Nat} (hm : n ≤ m) : ∀ {x : Cell}, Low n x → Low m x := by
  intro x h
  unfold Low at *
  split <;> simp_all
  omega

theorem avOk_rel (m n : Nat) (f : Nat → Nat) : avOk m (.agg (relL n f)) = true := by simp [avOk, AV.cells, relL, idOk]

/-- What holds, over r. -/
def ACC (r : Nat) (q : Nat → Nat → Bool) : Nat → Nat := fun a => mkN fun b => decide (a < r) && decide (b < r) && q a b

theorem w_ACC (r : Nat) (q : Nat → Nat → Bool) : Words (ACC r q) := fun _ => mkN_lt _

theorem b_ACC {r : Nat} (hr : r ≤ 64) (q : Nat → Nat → Bool) (a b : Nat) : (ACC r q a).testBit b = (decide (a < r) && decide (b < r) && q a b) := by
  unfold ACC
  rw [testBit_mkN, Bool.eq_iff_iff]
  simp only [Bool.and_eq_true, decide_eq_true_eq]
  constructor
  · rintro ⟨_, h⟩; exact h
  · rintro h; exact ⟨by omega, h⟩

theorem ACC_fit {r : Nat} (hr : r ≤ 64) (q : Nat → Nat → Bool) : Fit r (ACC r q) := fun a b h => by
  rw [b_ACC hr] at h; simp only [Bool.and_eq_true, decide_eq_true_eq] at h; exact h.1

theorem ACC_eq {r : Nat} (hr : r ≤ 64) {q q' : Nat → Nat → Bool} (h : ∀ a b, a < r → b < r → q a b = q' a b) : relL r (ACC r q) = relL r (ACC r q') := rel_eq (w_ACC _ _) (w_ACC _ _) fun a b => by
  rw [b_ACC hr, b_ACC hr]
  simp only [Bool.and_eq_true, decide_eq_true_eq]
  constructor
  · rintro ⟨⟨h1, h2⟩, h3⟩; exact ⟨⟨h1, h2⟩, by rw [← h a b h1 h2]; exact h3⟩
  · rintro ⟨⟨h1, h2⟩, h3⟩; exact ⟨⟨h1, h2⟩, by rw [h a b h1 h2]; exact h3⟩

theorem ACC_add {r : Nat} (hr : r ≤ 64) {q q' : Nat → Nat → Bool} {i j : Nat} (hi : i < r) (hj : j < r) (h : ∀ a b, a < r → b < r → q' a b = (q a b || (decide (a = i) && decide (b = j)))) :
    relL r (addR r (ACC r q) (i : Int) (j : Int)) = relL r (ACC r q') := rel_eq (words_add (w_ACC _ _) _ _) (w_ACC _ _) fun a b => by
  rw [addR_bit hr, b_ACC hr, b_ACC hr, inR_nat, inR_nat, show decide (i < r) = true by simpa using hi, show decide (j < r) = true by simpa using hj]
  simp only [Bool.and_eq_true, Bool.or_eq_true, decide_eq_true_eq, Bool.true_and]
  constructor
  · rintro (⟨⟨h1, h2⟩, h3⟩ | ⟨h1, h2⟩)
    · exact ⟨⟨h1, h2⟩, by rw [h a b h1 h2, h3]; rfl⟩
    · have h1 : a = i := (Int.ofNat.inj h1).symm
      have h2 : b = j := (Int.ofNat.inj h2).symm
      subst h1; subst h2
      exact ⟨⟨hi, hj⟩, by rw [h a b hi hj]; simp⟩
  · rintro ⟨⟨h1, h2⟩, h3⟩
    rw [h a b h1 h2] at h3
    simp only [Bool.or_eq_true, Bool.and_eq_true, decide_eq_true_eq] at h3
    rcases h3 with h3 | ⟨rfl, rfl⟩
    · exact .inl ⟨⟨h1, h2⟩, h3⟩
    · exact .inr ⟨rfl, rfl⟩

theorem ACC_none {r : Nat} (hr : r ≤ 64) {q : Nat → Nat → Bool} (h : ∀ a b, a < r → b < r → q a b = false) : relL r (ACC r q) = relL r fun _ => 0 := rel_eq (w_ACC _ _) words_zero fun a b => by
  rw [b_ACC hr]
  simp only [Bool.and_eq_true, decide_eq_true_eq, Nat.zero_testBit]
  constructor
  · rintro ⟨⟨h1, h2⟩, h3⟩; rw [h a b h1 h2] at h3; exact h3
  · intro h; cases h

variable {E : Env}

theorem refClosure_R (hE : jacquardref6_Closure_In E) {n : Nat} (hn : n ≤ 64) {f : Nat → Nat} (hf : Words f) (h : AHeap) :
    R E 6 [.agg (relL n f)] h = some ([.agg (relL n (clK n f n))], h) := by
  refine R_intro hE.fn ?_
  rw [jacquardref6_Closure_eq]
  have outer : Lim (jacquardref6_Closure_F2 (R E) Lim E.glob) (jacquardref6_Closure_s2 h.length 65 0 ((0 : Nat) : Int) zeroL (h ++ [some ⟨true, 0, relL n (clK n f 0)⟩])) = some (.exit 0, jacquardref6_Closure_x2_1 h.length 65 0 zeroL (h ++ [some ⟨true, 0, relL n (clK n f n)⟩])) := by
    refine Lim_count (fun k => jacquardref6_Closure_s2 h.length 65 0 (k : Int) zeroL (h ++ [some ⟨true, 0, relL n (clK n f k)⟩])) 0 n (by omega) (fun k _ hk => ?_) (Lim_exit ?_)
    · have inner : Lim (jacquardref6_Closure_F1 (R E) Lim E.glob) (jacquardref6_Closure_s1 h.length 65 0 k ((0 : Nat) : Int) zeroL (h ++ [some ⟨true, 0, relL n (cl1 k 0 (clK n f k))⟩])) = some (.exit 2, jacquardref6_Closure_x1_3 h.length 65 0 k zeroL (h ++ [some ⟨true, 0, relL n (cl1 k n (clK n f k))⟩])) := by
        refine Lim_count (fun i => jacquardref6_Closure_s1 h.length 65 0 k (i : Int) zeroL (h ++ [some ⟨true, 0, relL n (cl1 k i (clK n f k))⟩])) 0 n (by omega) (fun i _ hi => ?_) (Lim_exit ?_)
        · have hw := words_cl1 (words_clK hf n k) k i
          have q1 : 0 ≤ (i : Int) ∧ (i : Int) < ((64 : Nat) : Int) := by omega
          have q2 : 0 ≤ (k : Int) ∧ (k : Int) < ((64 : Nat) : Int) := by omega
          have rd : ∀ {α : Type} (g : List Cell → Option α), rdH (h ++ [some ⟨true, 0, relL n (cl1 k i (clK n f k))⟩]) h.length 65 g = g (relL n (cl1 k i (clK n f k))) := fun g => rdH_ok (blk_new h _) (relL_len _ _)
          rw [jacquardref6_Closure_r1, rd, atK_ok (i := 0 + 0) (relL_zero _ _), asI_ok, if_pos (by simp; omega), refHas_R hE.c7 hw (by omega) (by omega) (blk_new h _), c1_ok, asB_ok, cl1, clS]
          cases hb : (cl1 k i (clK n f k) i).testBit k with
          | true =>
            simp only [if_true]
            rw [if_pos q1, rd, Int.toNat_natCast, Int.toNat_natCast, show 0 + 1 + i * 1 = 1 + i by omega, show 0 + 1 + k * 1 = 1 + k by omega, atK_ok (relL_row (by omega)), asI_ok, if_pos q2, rd, atK_ok (relL_row (by omega)), asI_ok, if_pos q1, rd, if_pos (by rw [relL_len]; omega), g_bor (hw _) (hw _), relL_set, putH_ok (blk_new h _) rfl, setBlk_last, g_succ (by omega)]
          | false => simp only [Bool.false_eq_true, if_false]; rw [g_succ (by omega)]
        · rw [jacquardref6_Closure_r1, rdH_ok (blk_new h _) (relL_len _ _), atK_ok (i := 0 + 0) (relL_zero _ _), asI_ok, if_neg (by simp)]
      rw [jacquardref6_Closure_r2, rdH_ok (blk_new h _) (relL_len _ _), atK_ok (i := 0 + 0) (relL_zero _ _), asI_ok, if_pos (by simp; omega), show jacquardref6_Closure_s1 h.length 65 0 k 0 zeroL (h ++ [some ⟨true, 0, relL n (clK n f k)⟩]) = jacquardref6_Closure_s1 h.length 65 0 k ((0 : Nat) : Int) zeroL (h ++ [some ⟨true, 0, relL n (cl1 k 0 (clK n f k))⟩]) from rfl, inner, bind_ok, jacquardref6_Closure_e1_3, g_succ (by omega)]
      rfl
    · rw [jacquardref6_Closure_r2, rdH_ok (blk_new h _) (relL_len _ _), atK_ok (i := 0 + 0) (relL_zero _ _), asI_ok, if_neg (by simp)]
  have hc : (AV.cells (.agg (relL n f))).length = 65 := relL_len _ _
  rw [hc, show jacquardref6_Closure_s2 h.length 65 0 0 ([Cell.int .i64 0] ++ List.replicate 64 (Cell.int .u64 0)) (h ++ [some (Blk.mk true 0 (AV.cells (.agg (relL n f))))]) = jacquardref6_Closure_s2 h.length 65 0 ((0 : Nat) : Int) zeroL (h ++ [some ⟨true, 0, relL n (clK n f 0)⟩]) from rfl, outer, bind_ok, jacquardref6_Closure_e2_1, rdH_ok (blk_new h _) (relL_len _ _)]
  simp only [relL_len, zeroL, zero_len, and_self, if_true]
  exact finish_gc (Kp.app _ (Nat.le_refl _)) (by simp [avOk_rel])

theorem refAcyclic_R (hE : jacquardref6_Acyclic_In E) {n : Nat} (hn : n ≤ 64) {f : Nat → Nat} (hf : Words f) (h : AHeap) :
    R E 71 [.agg (relL n f)] h = some ([.c (.bool (acycR n f))], h) := by
  refine R_intro hE.fn ?_
  have hw := words_clK hf n n
  rw [jacquardref6_Acyclic_eq, if_pos ⟨rfl, relL_len _ _⟩, refClosure_R hE.c6 hn hf, c1_ok, asA_ok, rdH_ok (blk_new h _) zero_len, if_pos ⟨rfl, zero_len, relL_len _ _⟩, putH_ok (blk_new h _) rfl, setBlk_last, zero_len]
  dsimp only
  have loop := Lim_any (F := jacquardref6_Acyclic_F1 (R E) Lim E.glob) (fun i => jacquardref6_Acyclic_s1 h.length 65 0 (i : Int) (relL n f) (h ++ [some ⟨true, 0, relL n (clK n f n)⟩])) (fun i => (clK n f n i).testBit i) (.ret, jacquardref6_Acyclic_x1_0 false (h ++ [some ⟨true, 0, relL n (clK n f n)⟩])) (.exit 0, jacquardref6_Acyclic_x1_1 (h ++ [some ⟨true, 0, relL n (clK n f n)⟩])) n (fun i hi => by
      rw [jacquardref6_Acyclic_r1, atK_ok (relL_zero _ _), asI_ok, if_pos (by simp; omega), refHas_R hE.c7 hw (by omega) (by omega) (blk_new h _), c1_ok, asB_ok, g_succ (by omega)]) (by simp) (by
      rw [jacquardref6_Acyclic_r1, atK_ok (relL_zero _ _), asI_ok, if_neg (by simp)]) (by simp)
  simp only [Int.ofNat_zero, Int.natCast_zero] at loop
  rw [loop, bind_ok]
  unfold acycR
  cases (List.range n).any fun i => (clK n f n i).testBit i with
  | true => simp only [if_true]; rw [jacquardref6_Acyclic_e1_0]; exact finish_gc (Kp.app _ (Nat.le_refl _)) (by simp [avOk, AV.cells, idOk])
  | false => simp only [Bool.false_eq_true, if_false]; rw [jacquardref6_Acyclic_e1_1]; exact finish_gc (Kp.app _ (Nat.le_refl _)) (by simp [avOk, AV.cells, idOk])

theorem Same_R (hE : jacquardlaw8_Same_In E) {n : Nat} (hn : n ≤ 64) {f g : Nat → Nat} (hfg : ∀ i, i < 64 → (if i < n then f i else 0) = g i) (h : AHeap) :
    R E 69 [.agg (relL n f), .agg (relL n g)] h = some ([.c (.bool true)], h) := by
  refine R_intro hE.fn ?_
  have loop : Lim (jacquardlaw8_Same_F1 (R E) Lim E.glob) (jacquardlaw8_Same_s1 ((0 : Nat) : Int) (relL n f) (relL n g) h) = some (.exit 0, jacquardlaw8_Same_x1_1 h) := by
    refine Lim_count (fun i => jacquardlaw8_Same_s1 (i : Int) (relL n f) (relL n g) h) 0 64 (by omega) (fun i _ hi => ?_) (Lim_exit ?_)
    · have q1 : 0 ≤ (i : Int) ∧ (i : Int) < ((64 : Nat) : Int) := by omega
      have hr := hfg i hi
      rw [jacquardlaw8_Same_r1, if_pos (by simp; omega), if_pos ⟨rfl, relL_len _ _⟩, Row_R hE.c41 hn, qh_ok, c1_ok, asI_ok, if_pos q1, Int.toNat_natCast, Nat.mul_one, atK_ok (relL_row hi), asI_ok, inR_nat, g_succ (by omega)]
      simp only [decide_eq_true_eq]
      rw [hr, bne_self_eq_false, if_neg (by simp)]
    · rw [jacquardlaw8_Same_r1, if_neg (by simp)]
  rw [jacquardlaw8_Same_eq, if_pos ⟨rfl, relL_len _ _⟩, N_R hE.c14, qh_ok, c1_ok, asI_ok, atK_ok (relL_zero _ _), asI_ok, bne_self_eq_false, if_neg (by simp), show (0 : Int) = ((0 : Nat) : Int) from rfl, loop, bind_ok, jacquardlaw8_Same_e1_1]

theorem Same_S (hE : jacquardlaw8_Same_In E) {n : Nat} (hn : n ≤ 64) {f g : Nat → Nat} (hf : Words f) (hg : Words g) (hfg : ∀ i j, ((f i).testBit j = true ∧ i < n) ↔ (g i).testBit j = true) (h : AHeap) :
    R E 69 [.agg (relL n f), .agg (relL n g)] h = some ([.c (.bool true)], h) := by
  refine Same_R hE hn (fun i _ => ?_) h
  by_cases hi : i < n
  · rw [if_pos hi]
    refine eq_of_bits (hf i) (hg i) fun j _ => ?_
    rw [Bool.eq_iff_iff, ← hfg i j]
    exact ⟨fun q => ⟨q, hi⟩, fun q => q.1⟩
  · rw [if_neg hi]
    refine eq_of_bits (by omega) (hg i) fun j _ => ?_
    rw [Bool.eq_iff_iff, ← hfg i j, Nat.zero_testBit]
    exact ⟨fun q => (by cases q), fun q => absurd q.2 hi⟩

/-- Up to row i, place j. -/
def upto (i j a b : Nat) : Bool := decide (a < i) || (decide (a = i) && decide (b < j))

theorem cut_R (hE : jacquardlaw8_cut_In E) {n m : Nat} (hn : n ≤ 64) (hm : m ≤ 64) {f : Nat → Nat} (hf : Words f) (h : AHeap) :
    R E 70 [.agg (relL n f), .c (.int .i64 (m : Int))] h = some ([.agg (relL (min n m) (ACC (min n m) fun a b => (f a).testBit b))], h) := by
  refine R_intro hE.fn ?_
  have hc : AV.cells (.agg (relL n f)) = relL n f := rfl
  have hmin : (if (m : Int) < (n : Int) then (m : Int) else (n : Int)) = ((min n m : Nat) : Int) := by split <;> omega
  have hl1 : (h ++ [some (Blk.mk true 0 (relL n f))]).length = h.length + 1 := by simp
  have hb1 : ∀ t, blk? ((h ++ [some (Blk.mk true 0 (relL n f))]) ++ t) h.length = some ⟨true, 0, relL n f⟩ := fun t => blk_old (blk_new h _) t
  have hb2 : ∀ c, blk? ((h ++ [some (Blk.mk true 0 (relL n f))]) ++ [some (Blk.mk true 0 c)]) (h ++ [some (Blk.mk true 0 (relL n f))]).length = some ⟨true, 0, c⟩ := fun c => blk_new _ _
  have hset : ∀ c c', setBlk ((h ++ [some (Blk.mk true 0 (relL n f))]) ++ [some (Blk.mk true 0 c)]) (h ++ [some (Blk.mk true 0 (relL n f))]).length (some ⟨true, 0, c'⟩) = (h ++ [some (Blk.mk true 0 (relL n f))]) ++ [some (Blk.mk true 0 c')] := fun c c' => setBlk_last _ _ _
  have hK : Kp h.length h (h ++ [some (Blk.mk true 0 (relL n f))]) := Kp.app _ (Nat.le_refl _)
  rw [jacquardlaw8_cut_eq, hc, rdH_ok (blk_new h _) rfl, atK_ok (relL_zero _ _), asI_ok, hmin]
  generalize hH : h ++ [some (Blk.mk true 0 (relL n f))] = H at *
  have hr : min n m ≤ 64 := by omega
  have hrn : min n m ≤ n := by omega
  generalize min n m = r at *
  rw [rdH_ok (hb2 _) rfl, if_pos ⟨rfl, zero_len, by rw [zero_rel, splice_zero, relL_len]⟩, putH_ok (hb2 _) rfl, hset, zero_rel, splice_zero, relL_len, relL_len]
  have rd2 : ∀ {α : Type} (u : Nat → Nat) (g : List Cell → Option α), rdH (H ++ [some ⟨true, 0, relL r u⟩]) H.length 65 g = g (relL r u) := fun u g => rdH_ok (hb2 _) (relL_len _ _)
  have e0 : relL r (fun _ => 0) = relL r (ACC r fun a b => upto 0 0 a b && (f a).testBit b) := (ACC_none hr fun a b _ _ => by simp [upto]).symm
  have outer : Lim (jacquardlaw8_cut_F2 (R E) Lim E.glob) (jacquardlaw8_cut_s2 h.length 65 0 H.length 65 0 ((0 : Nat) : Int) (relL 0 fun _ => 0) (H ++ [some ⟨true, 0, relL r (ACC r fun a b => upto 0 0 a b && (f a).testBit b)⟩])) = some (.exit 0, jacquardlaw8_cut_x2_1 H.length 65 0 (relL 0 fun _ => 0) (H ++ [some ⟨true, 0, relL r (ACC r fun a b => upto r 0 a b && (f a).testBit b)⟩])) := by
    refine Lim_count (fun i => jacquardlaw8_cut_s2 h.length 65 0 H.length 65 0 (i : Int) (relL 0 fun _ => 0) (H ++ [some ⟨true, 0, relL r (ACC r fun a b => upto i 0 a b && (f a).testBit b)⟩])) 0 r (by omega) (fun i _ hi => ?_) (Lim_exit ?_)
    · have inner : Lim (jacquardlaw8_cut_F1 (R E) Lim E.glob) (jacquardlaw8_cut_s1 h.length 65 0 H.length 65 0 i ((0 : Nat) : Int) (relL 0 fun _ => 0) (H ++ [some ⟨true, 0, relL r (ACC r fun a b => upto i 0 a b && (f a).testBit b)⟩])) = some (.exit 2, jacquardlaw8_cut_x1_3 h.length 65 0 H.length 65 0 i (relL 0 fun _ => 0) (H ++ [some ⟨true, 0, relL r (ACC r fun a b => upto i r a b && (f a).testBit b)⟩])) := by
        refine Lim_count (fun j => jacquardlaw8_cut_s1 h.length 65 0 H.length 65 0 i (j : Int) (relL 0 fun _ => 0) (H ++ [some ⟨true, 0, relL r (ACC r fun a b => upto i j a b && (f a).testBit b)⟩])) 0 r (by omega) (fun j _ hj => ?_) (Lim_exit ?_)
        · rw [jacquardlaw8_cut_r1, rd2, atK_ok (i := 0 + 0) (relL_zero _ _), asI_ok, if_pos (by simp; omega), refHas_R hE.c7 hf (by omega) (by omega) (hb1 _), c1_ok, asB_ok]
          cases hb : (f i).testBit j with
          | true =>
            have e : relL r (addR r (ACC r fun a b => upto i j a b && (f a).testBit b) (i : Int) (j : Int)) = relL r (ACC r fun a b => upto i (j + 1) a b && (f a).testBit b) := by
              refine ACC_add hr hi hj fun a b _ _ => ?_
              rw [Bool.eq_iff_iff]
              simp only [upto, Bool.and_eq_true, Bool.or_eq_true, decide_eq_true_eq]
              constructor
              · rintro ⟨q1 | ⟨q1, q2⟩, q3⟩
                · exact .inl ⟨.inl q1, q3⟩
                · by_cases q4 : b = j
                  · exact .inr ⟨q1, q4⟩
                  · exact .inl ⟨.inr ⟨q1, by omega⟩, q3⟩
              · rintro (⟨q1 | ⟨q1, q2⟩, q3⟩ | ⟨rfl, rfl⟩)
                · exact ⟨.inl q1, q3⟩
                · exact ⟨.inr ⟨q1, by omega⟩, q3⟩
                · exact ⟨.inr ⟨rfl, by omega⟩, hb⟩
            rw [if_pos rfl, refAdd_R hE.c13 hr (w_ACC _ _) (by rw [inR_nat]; simpa using hi) (by rw [inR_nat]; simpa using hj) (hb2 _), c0_ok, hset, e, g_succ (by omega)]
          | false =>
            have e : relL r (ACC r fun a b => upto i j a b && (f a).testBit b) = relL r (ACC r fun a b => upto i (j + 1) a b && (f a).testBit b) := by
              refine ACC_eq hr fun a b _ _ => ?_
              rw [Bool.eq_iff_iff]
              simp only [upto, Bool.and_eq_true, Bool.or_eq_true, decide_eq_true_eq]
              constructor
              · rintro ⟨q1 | ⟨q1, q2⟩, q3⟩
                · exact ⟨.inl q1, q3⟩
                · exact ⟨.inr ⟨q1, by omega⟩, q3⟩
              · rintro ⟨q1 | ⟨q1, q2⟩, q3⟩
                · exact ⟨.inl q1, q3⟩
                · refine ⟨.inr ⟨q1, ?_⟩, q3⟩
                  by_cases q4 : b = j
                  · rw [q1, q4, hb] at q3; cases q3
                  · omega
            rw [if_neg (by simp), e, g_succ (by omega)]
        · rw [jacquardlaw8_cut_r1, rd2, atK_ok (i := 0 + 0) (relL_zero _ _), asI_ok, if_neg (by simp)]
      have e : relL r (ACC r fun a b => upto i r a b && (f a).testBit b) = relL r (ACC r fun a b => upto (i + 1) 0 a b && (f a).testBit b) := by
        refine ACC_eq hr fun a b ha hb => ?_
        congr 1
        rw [Bool.eq_iff_iff]
        simp only [upto, Bool.and_eq_true, Bool.or_eq_true, decide_eq_true_eq]
        omega
      rw [jacquardlaw8_cut_r2, rd2, atK_ok (i := 0 + 0) (relL_zero _ _), asI_ok, if_pos (by simp; omega), show (0 : Int) = ((0 : Nat) : Int) from rfl, inner, bind_ok, jacquardlaw8_cut_e1_3, g_succ (by omega), e]
    · rw [jacquardlaw8_cut_r2, rd2, atK_ok (i := 0 + 0) (relL_zero _ _), asI_ok, if_neg (by simp)]
  have e1 : relL r (ACC r fun a b => upto r 0 a b && (f a).testBit b) = relL r (ACC r fun a b => (f a).testBit b) := ACC_eq hr fun a b ha _ => by
    rw [show upto r 0 a b = true by simp [upto, ha], Bool.true_and]
  rw [e1] at outer
  rw [show (0 : Int) = ((0 : Nat) : Int) from rfl, e0, outer, bind_ok, jacquardlaw8_cut_e2_1, rd2]
  simp only [relL_len, and_self, if_true]
  exact finish_gc (hK.trans (Kp.app _ (by omega))) (by simp [avOk_rel])

end Jq

/- Programs: made normal, begun, gone on. -/
namespace Jq
open Go

section
variable {E : Env}

theorem rdL {α : Type} {h : AHeap} {k : Nat} {l : Lcl} (hk : blk? h k = some ⟨true, 0, l.cs⟩) {F : List Cell → Option α} : rdH h k 5 F = F l.cs := rdH_ok hk rfl
theorem lcl_pc {α : Type} {l : Lcl} {f : Cell → Option α} : atK l.cs 0 f = f (.int .i64 l.pc) := rfl
theorem lcl_pc' {α : Type} {l : Lcl} {f : Cell → Option α} : atK l.cs (0 + 0) f = f (.int .i64 l.pc) := rfl
theorem lcl_setpc {l : Lcl} {v : Int} : l.cs.set 0 (.int .i64 v) = ({ l with pc := v } : Lcl).cs := rfl
theorem lcl_setpc' {l : Lcl} {v : Int} : l.cs.set (0 + 0) (.int .i64 v) = ({ l with pc := v } : Lcl).cs := rfl
theorem ins_kind {α : Type} {i : Ins} {f : Cell → Option α} : atK i.cs 0 f = f (.int .i64 i.kind) := rfl
theorem ins_reg {α : Type} {i : Ins} {f : Cell → Option α} : atK i.cs 1 f = f (.int .i64 i.reg) := rfl
theorem ins_loc {α : Type} {i : Ins} {f : Cell → Option α} : atK i.cs 2 f = f (.int .i64 i.loc) := rfl
theorem ins_op {α : Type} {i : Ins} {f : Cell → Option α} : atK i.cs 5 f = f (.int .i64 i.op) := rfl
theorem ins_n {α : Type} {i : Ins} {f : Cell → Option α} : atK i.cs 8 f = f (.int .i64 i.n) := rfl
theorem ins_a {i : Ins} : (i.cs.drop 3).take 2 = i.a.cs := rfl
theorem ins_b {i : Ins} : (i.cs.drop 6).take 2 = i.b.cs := rfl

theorem avOk_lcl (m : Nat) (l : Lcl) : avOk m (.agg l.cs) = true := by simp [avOk, AV.cells, Lcl.cs, idOk]

theorem normal_round (hE : prog_normal_In E) {x : Cell} {code : List Ins} {h : AHeap} (hlen : code.length < 4000000000000000000) (z : List Cell) (l : Lcl) (hx : SlAt (h ++ [some ⟨true, 0, l.cs⟩]) x 9 (codeC code) code.length) :
    prog_normal_F1 (R E) Lim E.glob (prog_normal_s1 x h.length 5 0 z (h ++ [some ⟨true, 0, l.cs⟩])) = match stepI code l with
      | some l' => some (.normal, prog_normal_s1 x h.length 5 0 z (h ++ [some ⟨true, 0, l'.cs⟩]))
      | none => if 0 ≤ l.pc ∧ l.pc < code.length then (if z.length = 5 then some (.ret, prog_normal_x1_0 l.cs (h ++ [some ⟨true, 0, l.cs⟩])) else none) else some (.exit 0, prog_normal_x1_1 h.length 5 0 z (h ++ [some ⟨true, 0, l.cs⟩])) := by
  have hb : ∀ l : Lcl, blk? (h ++ [some ⟨true, 0, l.cs⟩]) h.length = some ⟨true, 0, l.cs⟩ := fun l => blk_new _ _
  rw [prog_normal_r1, rdL (hb l), lcl_pc', asI_ok]
  by_cases h0 : 0 ≤ l.pc
  · rw [show decide (l.pc ≥ 0) = true from decide_eq_true h0, scK_ok, rdL (hb l), lcl_pc', asI_ok, hx.len, bind_ok]
    dsimp only
    by_cases h1 : l.pc < code.length
    · obtain ⟨p, hp⟩ : ∃ p : Nat, l.pc = (p : Int) := ⟨l.pc.toNat, by omega⟩
      have hpl : p < code.length := by omega
      have hq : code[p]? = some code[p] := List.getElem?_eq_getElem hpl
      generalize code[p] = i at hq
      obtain ⟨off, cs', hG0, hle, hcs⟩ := hx.insG hq
      have hG : ∀ {α : Type} (G : Nat → List Cell → Option α), (idxSK 9 x l.pc fun k N o => rdH (h ++ [some ⟨true, 0, l.cs⟩]) k N fun l => G o l) = G off cs' := by intro α G; rw [hp]; exact hG0 G
      have hst : stepI code l = if i.kind = 5 then
          some { (l.setR i.reg ((doV i.op (opV i.a l) (opV i.b l)).getD (opV i.a l))) with pc := (l.setR i.reg ((doV i.op (opV i.a l) (opV i.b l)).getD (opV i.a l))).pc + 1 }
        else if i.kind = 6 then (if opV i.a l = opV i.b l then some { l with pc := l.pc + min (max i.n 0) code.length + 1 } else some { l with pc := l.pc + 1 }) else none := by
        unfold stepI
        rw [if_pos h0, show l.pc.toNat = p by omega, hq]
      rw [hst, if_pos (decide_eq_true h1), rdL (hb l), lcl_pc', asI_ok, hG, if_pos hle, hcs, if_pos ⟨rfl, rfl, rfl⟩, if_pos (show 3 + 2 ≤ i.cs.length by rw [Ins.len]; omega), rdL (hb l), if_pos ⟨rfl, rfl⟩, ins_a, Value_R hE.c108, qh_ok, c1_ok, asI_ok, if_pos (show 6 + 2 ≤ i.cs.length by rw [Ins.len]; omega), rdL (hb l), if_pos ⟨rfl, rfl⟩, ins_b, Value_R hE.c108, qh_ok, c1_ok, asI_ok, ins_kind, asI_ok]
      by_cases k5 : i.kind = 5
      · rw [if_pos (by rw [k5]; rfl), if_pos k5, ins_op, asI_ok, Do_R hE.c125, c2_ok, asI_ok, asB_ok]
        cases hd : doV i.op (opV i.a l) (opV i.b l) with
        | some v =>
          have hpc := l.setR_pc i.reg v
          rw [show (some v : Option Int).isSome = true from rfl, if_pos rfl, ins_reg, asI_ok, set_R hE.c124 _ _ (hb l), setBlk_last, c0_ok, rdL (hb _), lcl_pc', asI_ok, rdL (hb _), if_pos (by rw [Lcl.len]; omega), lcl_setpc', putH_ok (hb _) rfl, setBlk_last]
          rw [show (some v : Option Int).getD 0 = v from rfl, show (some v : Option Int).getD (opV i.a l) = v from rfl, hpc, g_wrap_i64 (x := l.pc + 1) (by omega) (by omega)]
        | none =>
          have hpc := l.setR_pc i.reg (opV i.a l)
          rw [show (none : Option Int).isSome = false from rfl, if_neg (by simp), ins_reg, asI_ok, set_R hE.c124 _ _ (hb l), setBlk_last, c0_ok, rdL (hb _), lcl_pc', asI_ok, rdL (hb _), if_pos (by rw [Lcl.len]; omega), lcl_setpc', putH_ok (hb _) rfl, setBlk_last]
          rw [show (none : Option Int).getD (opV i.a l) = opV i.a l from rfl, hpc, g_wrap_i64 (x := l.pc + 1) (by omega) (by omega)]
      · rw [if_neg (by rw [beq_iff_eq]; exact k5), if_neg k5]
        by_cases k6 : i.kind = 6
        · rw [if_pos (by rw [k6]; rfl), if_pos k6]
          by_cases hab : opV i.a l = opV i.b l
          · have hv : (if (code.length : Int) < (if 0 > i.n then 0 else i.n) then (code.length : Int) else (if 0 > i.n then 0 else i.n)) = min (max i.n 0) code.length := by
              split <;> split at * <;> omega
            rw [if_pos (by rw [hab]; exact beq_self_eq_true _), if_pos hab, rdL (hb l), lcl_pc', asI_ok, ins_n, asI_ok, hx.len]
            dsimp only
            rw [hv, rdL (hb l), if_pos (by rw [Lcl.len]; omega), lcl_setpc', putH_ok (hb _) rfl, setBlk_last, rdL (hb _), lcl_pc', asI_ok, rdL (hb _), if_pos (by rw [Lcl.len]; omega), lcl_setpc', putH_ok (hb _) rfl, setBlk_last]
            dsimp only
            rw [g_wrap_i64 (x := l.pc + min (max i.n 0) code.length) (by omega) (by omega), g_wrap_i64 (x := l.pc + min (max i.n 0) code.length + 1) (by omega) (by omega)]
          · rw [if_neg (by rw [beq_iff_eq]; exact hab), if_neg hab, rdL (hb l), lcl_pc', asI_ok, rdL (hb l), if_pos (by rw [Lcl.len]; omega), lcl_setpc', putH_ok (hb _) rfl, setBlk_last, g_wrap_i64 (x := l.pc + 1) (by omega) (by omega)]
        · rw [if_neg (by rw [beq_iff_eq]; exact k6), if_neg k6, rdL (hb l), if_pos ⟨rfl, rfl⟩]
          dsimp only
          rw [if_pos (show 0 ≤ l.pc ∧ l.pc < code.length from ⟨h0, h1⟩)]
          by_cases hz : z.length = 5
          · rw [if_pos ⟨rfl, hz, rfl⟩, if_pos hz]
          · rw [if_neg (fun q => hz q.2.1), if_neg hz]
    · have hst : stepI code l = none := by
        unfold stepI
        rw [if_pos h0, List.getElem?_eq_none (by omega)]
      rw [hst, if_neg (by simpa using h1)]
      dsimp only
      rw [if_neg (fun q => h1 q.2)]
  · have hst : stepI code l = none := by unfold stepI; rw [if_neg h0]
    rw [hst, show decide (l.pc ≥ 0) = false from decide_eq_false h0, scK_ft, if_neg (by simp)]
    dsimp only
    rw [if_neg (fun q => h0 q.1)]

theorem normal_R (hE : prog_normal_In E) {x : Cell} {code : List Ins} {h : AHeap} (hlen : code.length < 4000000000000000000) (hx : SlAt h x 9 (codeC code) code.length) (hlow : Low h.length x) (l : Lcl) :
    R E 114 [.c x, .agg l.cs] h = some ([.agg (normL code l).cs], h) := by
  refine R_intro hE.fn ?_
  have hx' : ∀ l : Lcl, SlAt (h ++ [some ⟨true, 0, l.cs⟩]) x 9 (codeC code) code.length := fun l => hx.keep hlow (Kp.app _ (Nat.le_refl _))
  have hb : ∀ l : Lcl, blk? (h ++ [some ⟨true, 0, l.cs⟩]) h.length = some ⟨true, 0, l.cs⟩ := fun l => blk_new _ _
  have loop : ∀ (k : Nat) (l : Lcl), (0 ≤ l.pc → (code.length : Int) ≤ l.pc + k) → (Lim (prog_normal_F1 (R E) Lim E.glob) (prog_normal_s1 x h.length 5 0 Lcl.zero.cs (h ++ [some ⟨true, 0, l.cs⟩]))).bind (fun p => prog_normal_k3 (R E) Lim E.glob h p.1 p.2) = some ([.agg (nrm code k l).cs], h) := by
    intro k
    have stop : ∀ l : Lcl, stepI code l = none → (Lim (prog_normal_F1 (R E) Lim E.glob) (prog_normal_s1 x h.length 5 0 Lcl.zero.cs (h ++ [some ⟨true, 0, l.cs⟩]))).bind (fun p => prog_normal_k3 (R E) Lim E.glob h p.1 p.2) = some ([.agg l.cs], h) := by
      intro l hs
      have hr := normal_round hE hlen Lcl.zero.cs l (hx' l)
      rw [hs] at hr
      dsimp only at hr
      have fin : finish true h [.agg l.cs] (h ++ [some ⟨true, 0, l.cs⟩]) = some ([.agg l.cs], h) := finish_gc (Kp.app _ (Nat.le_refl _)) (by simp [avOk_lcl])
      split at hr
      · rw [if_pos (show Lcl.zero.cs.length = 5 from rfl)] at hr
        rw [Lim_ret hr, bind_ok, prog_normal_e1_0, if_pos ⟨rfl, rfl⟩, fin]
      · rw [Lim_exit hr, bind_ok, prog_normal_e1_1, rdL (hb l), if_pos ⟨rfl, rfl⟩, if_pos ⟨rfl, rfl, rfl⟩, if_pos ⟨rfl, rfl⟩, fin]
    induction k with
    | zero =>
      intro l hk
      rw [nrm]
      refine stop l ?_
      cases hs : stepI code l with
      | none => rfl
      | some l' => have := stepI_pc hs; have := hk this.1; omega
    | succ k ih =>
      intro l hk
      rw [nrm]
      cases hs : stepI code l with
      | none => exact stop l hs
      | some l' =>
        have hr := normal_round hE hlen Lcl.zero.cs l (hx' l)
        rw [hs] at hr
        have h3 := stepI_pc hs
        have := ih l' (fun _ => by have := hk h3.1; omega)
        cases hL : Lim (prog_normal_F1 (R E) Lim E.glob) (prog_normal_s1 x h.length 5 0 Lcl.zero.cs (h ++ [some ⟨true, 0, l'.cs⟩])) with
        | none => rw [hL] at this; cases this
        | some p => rw [Lim_next hr hL]; rw [hL] at this; exact this
  have hc : AV.cells (.agg l.cs) = l.cs := rfl
  rw [prog_normal_eq, hc, Lcl.len]
  exact loop code.length l (fun _ => by omega)

/-- A program, made of its parts. -/
structure PProg where
  locs : List Int
  init : List Int
  thr : List (List Ins)

/-- A program lies there. -/
def ProgAt (h : AHeap) (cs : List Cell) (P : PProg) : Prop :=
  ∃ a b c ts, cs = [a, b, c] ∧ (SlAt h a 1 (intC .u8 P.locs) P.locs.length ∧ Low h.length a) ∧ (SlAt h b 1 (intC .i64 P.init) P.init.length ∧ Low h.length b) ∧ (SlAt h c 1 ts P.thr.length ∧ Low h.length c) ∧
    ∀ (t : Nat) (code : List Ins), P.thr[t]? = some code → ∃ x : Cell, ts[t]? = some x ∧ SlAt h x 9 (codeC code) code.length ∧ Low h.length x

theorem ProgAt.len {h : AHeap} {cs : List Cell} {P : PProg} (p : ProgAt h cs P) : cs.length = 3 := by
  obtain ⟨a, b, c, ts, rfl, _⟩ := p; rfl

theorem ProgAt.keep {h h' : AHeap} {cs : List Cell} {P : PProg} (p : ProgAt h cs P) (hk : Kp h.length h h') : ProgAt h' cs P := by
  obtain ⟨a, b, c, ts, e, ⟨a1, a2⟩, ⟨b1, b2⟩, ⟨c1, c2⟩, ht⟩ := p
  exact ⟨a, b, c, ts, e, ⟨a1.keep a2 hk, Low_mono hk.1 a2⟩, ⟨b1.keep b2 hk, Low_mono hk.1 b2⟩, ⟨c1.keep c2 hk, Low_mono hk.1 c2⟩, fun t code h1 => by
    obtain ⟨x, x1, x2, x3⟩ := ht t code h1
    exact ⟨x, x1, x2.keep x3 hk, Low_mono hk.1 x3⟩⟩

/-- No thread is too long. -/
def PProg.fits (P : PProg) : Prop := P.thr.length < 4000000000000000000 ∧ ∀ code ∈ P.thr, code.length < 4000000000000000000

/-- A thread's instructions, or none. -/
def PProg.code (P : PProg) (t : Int) : List Ins := if 0 ≤ t then P.thr.getD t.toNat [] else []

theorem PProg.code_fits {P : PProg} (hf : P.fits) (t : Int) : (P.code t).length < 4000000000000000000 := by
  unfold PProg.code
  split
  · rw [List.getD_eq_getElem?_getD]
    cases h : P.thr[t.toNat]? with
    | none => show (0 : Nat) < _; omega
    | some c => exact hf.2 c (List.mem_of_getElem? h)
  · show (0 : Nat) < _; omega

theorem thread_R (hE : prog_thread_In E) {cs : List Cell} {P : PProg} {h : AHeap} (p : ProgAt h cs P) (t : Int) :
    ∃ x, R E 113 [.agg cs, .c (.int .i64 t)] h = some ([.c x], h) ∧ SlAt h x 9 (codeC (P.code t)) (P.code t).length ∧ Low h.length x := by
  obtain ⟨a, b, c, ts, rfl, _, _, ⟨hc, hcl⟩, ht⟩ := p
  have a2 : ∀ {α : Type} (f : Cell → Option α), atK [a, b, c] 2 f = f c := fun _ => rfl
  by_cases h0 : 0 ≤ t
  · by_cases h1 : t.toNat < P.thr.length
    · have hg : P.thr[t.toNat]? = some P.thr[t.toNat] := List.getElem?_eq_getElem h1
      generalize P.thr[t.toNat] = code at hg
      obtain ⟨x, x1, x2, x3⟩ := ht _ _ hg
      have hcode : P.code t = code := by unfold PProg.code; rw [if_pos h0, List.getD_eq_getElem?_getD, hg]; rfl
      rw [hcode]
      refine ⟨x, R_intro hE.fn ?_, x2, x3⟩
      have hti : t = ((t.toNat : Nat) : Int) := by omega
      rw [prog_thread_eq, show decide (t < 0) = false from decide_eq_false (by omega), scK_ok, a2, hc.len, show decide (t ≥ (P.thr.length : Int)) = false from decide_eq_false (by omega), bind_ok]
      dsimp only
      rw [if_neg (by simp), a2, hc.getAt t.toNat hti h1 x1]
    · have hcode : P.code t = [] := by unfold PProg.code; rw [if_pos h0, List.getD_eq_getElem?_getD, List.getElem?_eq_none (by omega)]; rfl
      rw [hcode]
      refine ⟨.nils, R_intro hE.fn ?_, ⟨rfl, .inl ⟨rfl, rfl⟩⟩, trivial⟩
      rw [prog_thread_eq, show decide (t < 0) = false from decide_eq_false (by omega), scK_ok, a2, hc.len, show decide (t ≥ (P.thr.length : Int)) = true from decide_eq_true (by omega), bind_ok]
      dsimp only
      rw [if_pos rfl]
  · have hcode : P.code t = [] := by unfold PProg.code; rw [if_neg h0]
    rw [hcode]
    refine ⟨.nils, R_intro hE.fn ?_, ⟨rfl, .inl ⟨rfl, rfl⟩⟩, trivial⟩
    rw [prog_thread_eq, show decide (t < 0) = true from decide_eq_true (by omega), scK_tf, if_pos rfl]

def startL (P : PProg) (t : Int) : Lcl := normL (P.code t) Lcl.zero

theorem PStart_R (hE : prog_Start_In E) {cs : List Cell} {P : PProg} {h : AHeap} (hf : P.fits) (p : ProgAt h cs P) (t : Int) :
    R E 94 [.agg cs, .c (.int .i64 t)] h = some ([.agg (startL P t).cs], h) := by
  refine R_intro hE.fn ?_
  obtain ⟨x, hr, hx, hl⟩ := thread_R hE.c113 p t
  rw [prog_Start_eq, if_pos ⟨rfl, p.len⟩, hr, c1_ok, asC_ok, zero5, normal_R hE.c114 (PProg.code_fits hf t) hx hl, c1_ok, asA_ok, if_pos ⟨rfl, rfl, rfl⟩, if_pos ⟨rfl, rfl⟩]
  rfl

/-- The instruction that comes, if one comes that touches memory. -/
def nextI (code : List Ins) (l : Lcl) : Option Ins :=
  if 0 ≤ l.pc then match code[l.pc.toNat]? with
    | none => none
    | some i => if 1 ≤ i.kind ∧ i.kind ≤ 4 then some i else none
  else none

theorem nextI_kind {code : List Ins} {l : Lcl} {i : Ins} (h : nextI code l = some i) : 0 ≤ l.pc ∧ l.pc < code.length ∧ code[l.pc.toNat]? = some i ∧ 1 ≤ i.kind ∧ i.kind ≤ 4 := by
  unfold nextI at h
  split at h
  · rename_i h0
    cases hi : code[l.pc.toNat]? with
    | none => rw [hi] at h; cases h
    | some j =>
      rw [hi] at h
      simp only at h
      split at h
      · cases h
        have := getI_lt hi
        rename_i hk
        exact ⟨h0, by omega, rfl, hk⟩
      · cases h
  · cases h

theorem PNext_R (hE : prog_Next_In E) {cs : List Cell} {P : PProg} {h : AHeap} (p : ProgAt h cs P) (t : Int) (l : Lcl) :
    R E 105 [.agg cs, .c (.int .i64 t), .agg l.cs] h = some ([.agg ((nextI (P.code t) l).getD Ins.zero).cs, .c (.bool (nextI (P.code t) l).isSome)], h) := by
  refine R_intro hE.fn ?_
  obtain ⟨x, hr, hx, hlo⟩ := thread_R hE.c113 p t
  generalize P.code t = code at *
  rw [prog_Next_eq, if_pos ⟨rfl, p.len⟩, hr, c1_ok, asC_ok, lcl_pc, asI_ok]
  by_cases h0 : 0 ≤ l.pc
  · rw [show decide (l.pc < 0) = false from decide_eq_false (by omega), scK_ok, lcl_pc, asI_ok, hx.len, bind_ok]
    dsimp only
    by_cases h1 : l.pc < code.length
    · obtain ⟨q, hq⟩ : ∃ q : Nat, l.pc = (q : Int) := ⟨l.pc.toNat, by omega⟩
      have hql : q < code.length := by omega
      have hg : code[q]? = some code[q] := List.getElem?_eq_getElem hql
      generalize code[q] = i at hg
      obtain ⟨off, cs', hG0, hle, hcs⟩ := hx.insG hg
      have hG : ∀ {α : Type} (G : Nat → List Cell → Option α), (idxSK 9 x l.pc fun k N o => rdH h k N fun l => G o l) = G off cs' := by intro α G; rw [hq]; exact hG0 G
      have hn : nextI code l = if 1 ≤ i.kind ∧ i.kind ≤ 4 then some i else none := by
        unfold nextI
        rw [if_pos h0, show l.pc.toNat = q by omega, hg]
      rw [show decide (l.pc ≥ (code.length : Int)) = false from decide_eq_false (by omega), if_neg (by simp), lcl_pc, asI_ok, hG, if_pos hle, hcs, if_pos ⟨rfl, rfl, rfl⟩, ins_kind, asI_ok, ins_kind, asI_ok, scK_or, hn]
      by_cases hk : 1 ≤ i.kind ∧ i.kind ≤ 4
      · rw [if_neg (by simp; omega), if_pos hk, if_pos ⟨rfl, rfl⟩, if_pos ⟨rfl, rfl, rfl⟩, if_pos ⟨rfl, rfl⟩]; rfl
      · rw [if_pos (by simp; omega), if_neg hk, if_pos ⟨rfl, rfl, rfl⟩, if_pos ⟨rfl, rfl⟩]; rfl
    · have hn : nextI code l = none := by unfold nextI; rw [if_pos h0, List.getElem?_eq_none (by omega)]
      rw [show decide (l.pc ≥ (code.length : Int)) = true from decide_eq_true (by omega), if_pos rfl, hn, if_pos ⟨rfl, rfl, rfl⟩, if_pos ⟨rfl, rfl⟩]; rfl
  · have hn : nextI code l = none := by unfold nextI; rw [if_neg h0]
    rw [show decide (l.pc < 0) = true from decide_eq_true (by omega), scK_tf, if_pos rfl, hn, if_pos ⟨rfl, rfl, rfl⟩, if_pos ⟨rfl, rfl⟩]; rfl

/-- Where a thread is behind an instruction that reads a value. -/
def afterL (code : List Ins) (l : Lcl) (v : Int) : Lcl := match nextI code l with
  | none => l
  | some i => normL code { (if i.kind = 2 ∨ i.kind = 4 then l.setR i.reg v else l) with pc := l.pc + 1 }

theorem PAfter_R (hE : prog_After_In E) {cs : List Cell} {P : PProg} {h : AHeap} (hf : P.fits) (p : ProgAt h cs P) (t : Int) (l : Lcl) (v : Int) :
    R E 106 [.agg cs, .c (.int .i64 t), .agg l.cs, .c (.int .i64 v)] h = some ([.agg (afterL (P.code t) l v).cs], h) := by
  refine R_intro hE.fn ?_
  have hK : ∀ b, Kp h.length h (h ++ [some b]) := fun b => Kp.app _ (Nat.le_refl _)
  have p' : ∀ b, ProgAt (h ++ [some b]) cs P := fun b => p.keep (hK b)
  have hb : ∀ l : Lcl, blk? (h ++ [some ⟨true, 0, l.cs⟩]) h.length = some ⟨true, 0, l.cs⟩ := fun l => blk_new _ _
  have fin : ∀ (m l : Lcl), finish true h [.agg m.cs] (h ++ [some ⟨true, 0, l.cs⟩]) = some ([.agg m.cs], h) := fun m l => finish_gc (hK _) (by simp [avOk_lcl])
  have hc : AV.cells (.agg l.cs) = l.cs := rfl
  have hfit := PProg.code_fits hf t
  rw [prog_After_eq, if_pos ⟨rfl, p.len⟩, hc, Lcl.len, rdL (hb l), if_pos ⟨rfl, rfl⟩, PNext_R hE.c105 (p' _), c2_ok, asA_ok, asB_ok, if_pos ⟨rfl, rfl, rfl⟩]
  unfold afterL
  cases hn : nextI (P.code t) l with
  | none =>
    rw [show (none : Option Ins).isSome = false from rfl, if_pos (show (!false) = true from rfl), rdL (hb l), if_pos ⟨rfl, rfl⟩, if_pos ⟨rfl, rfl, rfl⟩, if_pos ⟨rfl, rfl⟩, fin]
  | some i =>
    obtain ⟨n0, n1, n2, n3, n4⟩ := nextI_kind hn
    rw [show (some i : Option Ins).isSome = true from rfl, if_neg (by simp), show (some i : Option Ins).getD Ins.zero = i from rfl, ins_kind, asI_ok, ins_kind, asI_ok, scK_or]
    by_cases hk : i.kind = 2 ∨ i.kind = 4
    · have hpc := l.setR_pc i.reg v
      obtain ⟨x, hr, hx, hlo⟩ := thread_R hE.c113 (p' ⟨true, 0, ({ (l.setR i.reg v) with pc := l.pc + 1 } : Lcl).cs⟩) t
      rw [if_pos (by rw [Bool.or_eq_true, beq_iff_eq, beq_iff_eq]; exact hk), ins_reg, asI_ok, set_R hE.c124 _ _ (hb l), setBlk_last, c0_ok, rdL (hb _), lcl_pc, asI_ok, rdL (hb _), if_pos (by rw [Lcl.len]; omega), lcl_setpc, putH_ok (hb _) rfl, setBlk_last, if_pos ⟨rfl, p.len⟩, hpc, g_wrap_i64 (x := l.pc + 1) (by omega) (by omega), hr, qh_ok, c1_ok, asC_ok, rdL (hb _), if_pos ⟨rfl, rfl⟩, normal_R hE.c114 hfit hx hlo, qh_ok, c1_ok, asA_ok, if_pos ⟨rfl, rfl, rfl⟩, if_pos ⟨rfl, rfl⟩, fin]
      dsimp only
      rw [if_pos hk]
    · obtain ⟨x, hr, hx, hlo⟩ := thread_R hE.c113 (p' ⟨true, 0, ({ l with pc := l.pc + 1 } : Lcl).cs⟩) t
      rw [if_neg (by rw [Bool.or_eq_true, beq_iff_eq, beq_iff_eq]; exact hk), rdL (hb _), lcl_pc, asI_ok, rdL (hb _), if_pos (by rw [Lcl.len]; omega), lcl_setpc, putH_ok (hb _) rfl, setBlk_last, if_pos ⟨rfl, p.len⟩, g_wrap_i64 (x := l.pc + 1) (by omega) (by omega), hr, qh_ok, c1_ok, asC_ok, rdL (hb _), if_pos ⟨rfl, rfl⟩, normal_R hE.c114 hfit hx hlo, qh_ok, c1_ok, asA_ok, if_pos ⟨rfl, rfl, rfl⟩, if_pos ⟨rfl, rfl⟩, fin]
      dsimp only
      rw [if_neg hk]

end
end Jq

namespace Jq
open Go

/- jacquard/jacquardref2.Do: 93 -/
set_option maxRecDepth 100000 in
theorem jacquardref2_Do_eq (C : CallF) (L : LoopF) (G : Glo) (a0 : Int) (a1 : Int) (a2 : Int) (h0 : AHeap) :
    jacquardref2_Do.body C L G [(.c (.int .i64 a0)), (.c (.int .i64 a1)), (.c (.int .i64 a2))] h0 =
    if (a0 == 1) = true then let v_1 : Int := (G.wrap .u64 ((G.wrap .u64 a1) + (G.wrap .u64 a2))); some ([(.c (.int .i64 (G.wrap .i64 v_1))), (.c (.bool true))], h0) else if (a0 == 2) = true then let v_2 : Int := (G.wrap .u64 ((G.wrap .u64 a1) - (G.wrap .u64 a2))); some ([(.c (.int .i64 (G.wrap .i64 v_2))), (.c (.bool true))], h0) else if (a0 == 3) = true then let v_3 : Int := (G.wrap .u64 ((G.wrap .u64 a1) * (G.wrap .u64 a2))); some ([(.c (.int .i64 (G.wrap .i64 v_3))), (.c (.bool true))], h0) else if (a0 == 4) = true then some ([(.c (.int .i64 (G.band .i64 a1 a2))), (.c (.bool true))], h0) else if (a0 == 5) = true then some ([(.c (.int .i64 (G.bor .i64 a1 a2))), (.c (.bool true))], h0) else if (a0 == 6) = true then some ([(.c (.int .i64 (G.bxor .i64 a1 a2))), (.c (.bool true))], h0) else if (a0 == 7) = true then if (G.rem .u64 (G.wrap .u64 a2) 64) < 0 then none else let v_4 : Int := (G.shl .u64 (G.wrap .u64 a1) (G.rem .u64 (G.wrap .u64 a2) 64)); some ([(.c (.int .i64 (G.wrap .i64 v_4))), (.c (.bool true))], h0) else if (a0 == 8) = true then if (G.rem .u64 (G.wrap .u64 a2) 64) < 0 then none else let v_5 : Int := (G.shr .i64 a1 (G.rem .u64 (G.wrap .u64 a2) 64)); some ([(.c (.int .i64 v_5)), (.c (.bool true))], h0) else if (a0 == 9) = true then if (a1 == a2) = true then some ([(.c (.int .i64 1)), (.c (.bool true))], h0) else some ([(.c (.int .i64 0)), (.c (.bool true))], h0) else if (a0 == 10) = true then if (a1 != a2) = true then some ([(.c (.int .i64 1)), (.c (.bool true))], h0) else some ([(.c (.int .i64 0)), (.c (.bool true))], h0) else if (a0 == 11) = true then if (decide (a1 < a2)) = true then some ([(.c (.int .i64 1)), (.c (.bool true))], h0) else some ([(.c (.int .i64 0)), (.c (.bool true))], h0) else some ([(.c (.int .i64 0)), (.c (.bool false))], h0) := by kernel_rfl


end Jq

/- Programs as the document says: what is done at once, what comes next. -/
namespace Jq
open Go

theorem wrap_res {x y : Int} (h : x % 18446744073709551616 = y % 18446744073709551616) : IntKind.wrap .i64 x = IntKind.wrap .i64 y := by
  simp only [IntKind.wrap, IntKind.signed, IntKind.bits, Bool.true_and]
  split
  · rename_i h1
    have h1 := of_decide_eq_true h1
    split
    · omega
    · rename_i h2; exact absurd (decide_eq_true (by omega)) h2
  · rename_i h1
    split
    · rename_i h2
      have h2 := of_decide_eq_true h2
      exact absurd (decide_eq_true (by omega)) h1
    · omega

theorem u64_mod (x : Int) : IntKind.wrap .u64 x = x % 18446744073709551616 := by
  simp only [IntKind.wrap, IntKind.signed, IntKind.bits, Bool.false_and, Bool.false_eq_true, if_false]; rfl

/-- An instruction that may be, in a thread of so many. -/
structure GoodI (len : Nat) (i : Ins) : Prop where
  kind : 1 ≤ i.kind ∧ i.kind ≤ 6
  reg : i.kind = 2 ∨ i.kind = 4 ∨ i.kind = 5 → 0 ≤ i.reg ∧ i.reg < 4
  op : i.kind = 5 → 0 ≤ i.op ∧ i.op ≤ 11
  n : i.kind = 6 → 0 ≤ i.n ∧ i.n ≤ len

def GoodC (code : List Ins) : Prop := ∀ i ∈ code, GoodI code.length i

section
variable {E : Env}

theorem refValue_R (hE : jacquardref6_Value_In E) (o : Opd) (l : Lcl) (h : AHeap) : R E 92 [.agg o.cs, .agg l.cs] h = some ([.c (.int .i64 (opV o l))], h) := by
  refine R_intro hE.fn ?_
  have a0 : ∀ {α : Type} (f : Cell → Option α), atK o.cs 0 f = f (.int .i64 o.reg) := fun _ => rfl
  have a1 : ∀ {α : Type} (f : Cell → Option α), atK o.cs 1 f = f (.int .i64 o.val) := fun _ => rfl
  unfold opV
  rw [jacquardref6_Value_eq]
  simp only [a0, a1, asI_ok, scK_and]
  by_cases h1 : 0 ≤ o.reg ∧ o.reg < 4
  · rw [if_pos (by simp; omega), if_pos ⟨h1.1, h1.2⟩, if_pos h1, atK_ok (lcl_get h1.1 h1.2), asI_ok]
  · rw [if_neg (by simp; omega), if_neg h1]

theorem refDo_R (hE : jacquardref2_Do_In E) (op a b : Int) (h : AHeap) : R E 93 [.c (.int .i64 op), .c (.int .i64 a), .c (.int .i64 b)] h = some ([.c (.int .i64 ((doV op a b).getD 0)), .c (.bool (doV op a b).isSome)], h) := by
  refine R_intro hE.fn ?_
  rw [jacquardref2_Do_eq]
  have hr : ∀ x : Int, 0 ≤ E.glob.rem .u64 (E.glob.wrap .u64 x) 64 := by
    intro x
    show 0 ≤ Int.tmod (IntKind.wrap .u64 x) 64
    rw [u64_mod, Int.tmod_eq_emod_of_nonneg (Int.emod_nonneg _ (by omega))]
    exact Int.emod_nonneg _ (by omega)
  have hr' : ∀ x : Int, ¬ E.glob.rem .u64 (E.glob.wrap .u64 x) 64 < 0 := fun x => by have := hr x; omega
  simp only [hr', if_false]
  have w1 : E.glob.wrap .i64 (E.glob.wrap .u64 (E.glob.wrap .u64 a + E.glob.wrap .u64 b)) = GN.wrap .i64 (a + b) := by
    show IntKind.wrap .i64 (IntKind.wrap .u64 (IntKind.wrap .u64 a + IntKind.wrap .u64 b)) = IntKind.wrap .i64 (a + b)
    refine wrap_res ?_
    rw [u64_mod, u64_mod, u64_mod]; omega
  have w2 : E.glob.wrap .i64 (E.glob.wrap .u64 (E.glob.wrap .u64 a - E.glob.wrap .u64 b)) = GN.wrap .i64 (a - b) := by
    show IntKind.wrap .i64 (IntKind.wrap .u64 (IntKind.wrap .u64 a - IntKind.wrap .u64 b)) = IntKind.wrap .i64 (a - b)
    refine wrap_res ?_
    rw [u64_mod, u64_mod, u64_mod]; omega
  have w3 : E.glob.wrap .i64 (E.glob.wrap .u64 (E.glob.wrap .u64 a * E.glob.wrap .u64 b)) = GN.wrap .i64 (a * b) := by
    show IntKind.wrap .i64 (IntKind.wrap .u64 (IntKind.wrap .u64 a * IntKind.wrap .u64 b)) = IntKind.wrap .i64 (a * b)
    refine wrap_res ?_
    rw [u64_mod, u64_mod, u64_mod, Int.emod_emod_of_dvd _ (Int.dvd_refl _), ← Int.mul_emod]
  have w7 : ∀ k : Int, E.glob.wrap .i64 (E.glob.shl .u64 (E.glob.wrap .u64 a) k) = GN.shl .i64 a k := by
    intro k
    show IntKind.wrap .i64 (IntKind.wrap .u64 (IntKind.wrap .u64 a * 2 ^ min k.toNat IntKind.u64.bits)) = IntKind.wrap .i64 (a * 2 ^ min k.toNat IntKind.i64.bits)
    refine wrap_res ?_
    rw [u64_mod, u64_mod, Int.emod_emod_of_dvd _ (Int.dvd_refl _)]
    show _ = (a * 2 ^ min k.toNat IntKind.u64.bits) % _
    rw [Int.mul_emod, Int.emod_emod_of_dvd _ (Int.dvd_refl _), ← Int.mul_emod]
  simp only [w1, w2, w3, w7]
  unfold doV
  have key : ∀ k : Int, ((op == k) = true) = (op = k) := fun k => by rw [beq_iff_eq]
  simp only [key]
  by_cases h1 : op = 1
  · simp only [if_pos h1]; rfl
  simp only [if_neg h1]
  by_cases h2 : op = 2
  · simp only [if_pos h2]; rfl
  simp only [if_neg h2]
  by_cases h3 : op = 3
  · simp only [if_pos h3]; rfl
  simp only [if_neg h3]
  by_cases h4 : op = 4
  · simp only [if_pos h4]; rfl
  simp only [if_neg h4]
  by_cases h5 : op = 5
  · simp only [if_pos h5]; rfl
  simp only [if_neg h5]
  by_cases h6 : op = 6
  · simp only [if_pos h6]; rfl
  simp only [if_neg h6]
  by_cases h7 : op = 7
  · simp only [if_pos h7]; rfl
  simp only [if_neg h7]
  by_cases h8 : op = 8
  · simp only [if_pos h8]; rfl
  simp only [if_neg h8]
  by_cases h9 : op = 9
  · simp only [if_pos h9]; (by_cases hab : a = b <;> simp [hab])
  simp only [if_neg h9]
  by_cases h10 : op = 10
  · simp only [if_pos h10]; (by_cases hab : a = b <;> simp [hab])
  simp only [if_neg h10]
  by_cases h11 : op = 11
  · simp only [if_pos h11]; (by_cases hab : a < b <;> simp [hab])
  simp only [if_neg h11]
  rfl

theorem doV_some {op : Int} (a b : Int) (h1 : 1 ≤ op) (h2 : op ≤ 11) : ∃ v, doV op a b = some v := by
  have h : op = 1 ∨ op = 2 ∨ op = 3 ∨ op = 4 ∨ op = 5 ∨ op = 6 ∨ op = 7 ∨ op = 8 ∨ op = 9 ∨ op = 10 ∨ op = 11 := by omega
  rcases h with rfl | rfl | rfl | rfl | rfl | rfl | rfl | rfl | rfl | rfl | rfl <;> exact ⟨_, rfl⟩

/-- One thread of a program that lies there. -/
theorem ProgAt.thr {h : AHeap} {cs : List Cell} {P : PProg} (p : ProgAt h cs P) {t : Nat} {code : List Ins} (ht : P.thr[t]? = some code) :
    ∃ x, SlAt h x 9 (codeC code) code.length ∧ Low h.length x ∧ ∀ {α : Type} (f : Cell → Option α), (atK cs 2 fun q => idxSK 1 q (t : Int) fun k N o => rdH h k N fun l => atK l o f) = f x := by
  obtain ⟨a, b, c, ts, rfl, _, _, ⟨hc, hcl⟩, hts⟩ := p
  obtain ⟨x, x1, x2, x3⟩ := hts _ _ ht
  refine ⟨x, x2, x3, fun f => ?_⟩
  show (idxSK 1 c (t : Int) fun k N o => rdH h k N fun l => atK l o f) = f x
  exact hc.get1 (getI_lt ht) x1

theorem ProgAt.nthr {α : Type} {h : AHeap} {cs : List Cell} {P : PProg} (p : ProgAt h cs P) {f : Int → Option α} : (atK cs 2 fun q => lenK q f) = f P.thr.length := by
  obtain ⟨a, b, c, ts, rfl, _, _, ⟨hc, hcl⟩, hts⟩ := p
  show lenK c f = _
  exact hc.len

theorem code_of {P : PProg} {t : Nat} {code : List Ins} (ht : P.thr[t]? = some code) : P.code (t : Int) = code := by
  unfold PProg.code
  rw [if_pos (by omega), Int.toNat_natCast, List.getD_eq_getElem?_getD, ht]; rfl

theorem refnormal_R (hE : jacquardref6_normal_In E) {cs : List Cell} {P : PProg} {h : AHeap} (p : ProgAt h cs P) {t : Nat} {code : List Ins} (ht : P.thr[t]? = some code) (hlen : code.length < 4000000000000000000) (hg : GoodC code) (l : Lcl) (h0 : 0 ≤ l.pc) :
    R E 123 [.agg cs, .c (.int .i64 (t : Int)), .agg l.cs] h = some ([.agg (normL code l).cs], h) := by
  refine R_intro hE.fn ?_
  obtain ⟨x, hx, hxl, hT⟩ := p.thr ht
  have round : ∀ l : Lcl, 0 ≤ l.pc → jacquardref6_normal_F1 (R E) Lim E.glob (jacquardref6_normal_s1 t cs l.cs Lcl.zero.cs h) = match stepI code l with
      | some l' => some (.normal, jacquardref6_normal_s1 t cs l'.cs Lcl.zero.cs h)
      | none => if l.pc < code.length then some (.ret, jacquardref6_normal_x1_0 l.cs h) else some (.exit 0, jacquardref6_normal_x1_1 l.cs Lcl.zero.cs h) := by
    intro l h0
    rw [jacquardref6_normal_r1, lcl_pc, asI_ok, hT, hx.len]
    by_cases h1 : l.pc < code.length
    · obtain ⟨q, hp⟩ : ∃ q : Nat, l.pc = (q : Int) := ⟨l.pc.toNat, by omega⟩
      have hpl : q < code.length := by omega
      have hq : code[q]? = some code[q] := List.getElem?_eq_getElem hpl
      have hgi := hg _ (List.getElem_mem hpl)
      generalize code[q] = i at hq hgi
      obtain ⟨off, cs', hG0, hle, hcs⟩ := hx.insG hq
      have hG : ∀ {α : Type} (G : Nat → List Cell → Option α), (idxSK 9 x l.pc fun k N o => rdH h k N fun l => G o l) = G off cs' := by intro α G; rw [hp]; exact hG0 G
      have hst : stepI code l = if i.kind = 5 then
          some { (l.setR i.reg ((doV i.op (opV i.a l) (opV i.b l)).getD (opV i.a l))) with pc := (l.setR i.reg ((doV i.op (opV i.a l) (opV i.b l)).getD (opV i.a l))).pc + 1 }
        else if i.kind = 6 then (if opV i.a l = opV i.b l then some { l with pc := l.pc + min (max i.n 0) code.length + 1 } else some { l with pc := l.pc + 1 }) else none := by
        unfold stepI
        rw [if_pos h0, show l.pc.toNat = q by omega, hq]
      rw [hst, if_pos (decide_eq_true h1), hT, lcl_pc, asI_ok, hG, if_pos hle, hcs, if_pos ⟨rfl, rfl, rfl⟩, ins_kind, asI_ok]
      by_cases k5 : i.kind = 5
      · obtain ⟨r0, r1⟩ := hgi.reg (.inr (.inr k5))
        obtain ⟨o0, o1⟩ := hgi.op k5
        rw [if_pos (by rw [k5]; rfl), if_pos k5, if_pos (show 3 + 2 ≤ i.cs.length by rw [Ins.len]; omega), if_pos ⟨rfl, rfl⟩, ins_a, refValue_R hE.c92, c1_ok, asI_ok, ins_op, asI_ok]
        by_cases hop : i.op = 0
        · have hd : doV i.op (opV i.a l) (opV i.b l) = none := by rw [hop]; rfl
          have hpc := l.setR_pc i.reg (opV i.a l)
          rw [hd, if_neg (by rw [hop]; simp), ins_reg, asI_ok, if_pos ⟨r0, r1⟩, if_pos (by rw [Lcl.len]; omega), lcl_set r0 r1, lcl_pc, asI_ok, if_pos (by rw [Lcl.len]; omega), lcl_setpc]
          rw [show (none : Option Int).getD (opV i.a l) = opV i.a l from rfl, hpc, g_wrap_i64 (x := l.pc + 1) (by omega) (by omega)]
        · obtain ⟨v, hd⟩ := doV_some (opV i.a l) (opV i.b l) (show 1 ≤ i.op by omega) o1
          have hpc := l.setR_pc i.reg v
          rw [hd, if_pos (by rw [bne_iff_ne]; exact hop), ins_op, asI_ok, if_pos (show 6 + 2 ≤ i.cs.length by rw [Ins.len]; omega), if_pos ⟨rfl, rfl⟩, ins_b, refValue_R hE.c92, qh_ok, c1_ok, asI_ok, refDo_R hE.c93, qh_ok, c2_ok, asI_ok, asB_ok, hd, ins_reg, asI_ok, if_pos ⟨r0, r1⟩, if_pos (by rw [Lcl.len]; omega), show (some v : Option Int).getD 0 = v from rfl, lcl_set r0 r1, lcl_pc, asI_ok, if_pos (by rw [Lcl.len]; omega), lcl_setpc]
          rw [show (some v : Option Int).getD (opV i.a l) = v from rfl, hpc, g_wrap_i64 (x := l.pc + 1) (by omega) (by omega)]
      · rw [if_neg (by rw [beq_iff_eq]; exact k5), if_neg k5]
        by_cases k6 : i.kind = 6
        · obtain ⟨n0, n1⟩ := hgi.n k6
          rw [if_pos (by rw [k6]; rfl), if_pos k6, if_pos (show 3 + 2 ≤ i.cs.length by rw [Ins.len]; omega), if_pos ⟨rfl, rfl⟩, ins_a, refValue_R hE.c92, qh_ok, c1_ok, asI_ok, if_pos (show 6 + 2 ≤ i.cs.length by rw [Ins.len]; omega), if_pos ⟨rfl, rfl⟩, ins_b, refValue_R hE.c92, qh_ok, c1_ok, asI_ok]
          by_cases hab : opV i.a l = opV i.b l
          · rw [if_pos (by rw [hab]; exact beq_self_eq_true _), if_pos hab, lcl_pc, asI_ok, ins_n, asI_ok, if_pos (by rw [Lcl.len]; omega), lcl_setpc, lcl_pc, asI_ok, if_pos (by rw [Lcl.len]; omega), lcl_setpc]
            dsimp only
            rw [show min (max i.n 0) (code.length : Int) = i.n by omega, g_wrap_i64 (x := l.pc + i.n) (by omega) (by omega), g_wrap_i64 (x := l.pc + i.n + 1) (by omega) (by omega)]
          · rw [if_neg (by rw [beq_iff_eq]; exact hab), if_neg hab, lcl_pc, asI_ok, if_pos (by rw [Lcl.len]; omega), lcl_setpc, g_wrap_i64 (x := l.pc + 1) (by omega) (by omega)]
        · rw [if_neg (by rw [beq_iff_eq]; exact k6), if_neg k6, if_pos ⟨rfl, rfl⟩, if_pos ⟨rfl, rfl, rfl⟩]
          dsimp only
          rw [if_pos h1]
    · have hst : stepI code l = none := by
        unfold stepI
        rw [if_pos h0, List.getElem?_eq_none (by omega)]
      rw [hst, if_neg (by simpa using h1)]
      dsimp only
      rw [if_neg h1]
  have stop : ∀ l : Lcl, 0 ≤ l.pc → stepI code l = none → (Lim (jacquardref6_normal_F1 (R E) Lim E.glob) (jacquardref6_normal_s1 t cs l.cs Lcl.zero.cs h)).bind (fun p => jacquardref6_normal_k3 (R E) Lim E.glob h p.1 p.2) = some ([.agg l.cs], h) := by
    intro l h0 hs
    have hr := round l h0
    rw [hs] at hr
    dsimp only at hr
    split at hr
    · rw [Lim_ret hr, bind_ok, jacquardref6_normal_e1_0, if_pos ⟨rfl, rfl⟩]
    · rw [Lim_exit hr, bind_ok, jacquardref6_normal_e1_1, if_pos ⟨rfl, rfl⟩, if_pos ⟨rfl, rfl, rfl⟩, if_pos ⟨rfl, rfl⟩]
  have loop : ∀ (k : Nat) (l : Lcl), 0 ≤ l.pc → (code.length : Int) ≤ l.pc + k → (Lim (jacquardref6_normal_F1 (R E) Lim E.glob) (jacquardref6_normal_s1 t cs l.cs Lcl.zero.cs h)).bind (fun p => jacquardref6_normal_k3 (R E) Lim E.glob h p.1 p.2) = some ([.agg (nrm code k l).cs], h) := by
    intro k
    induction k with
    | zero =>
      intro l h0 hk
      rw [nrm]
      refine stop l h0 ?_
      cases hs : stepI code l with
      | none => rfl
      | some l' => have := stepI_pc hs; omega
    | succ k ih =>
      intro l h0 hk
      rw [nrm]
      cases hs : stepI code l with
      | none => exact stop l h0 hs
      | some l' =>
        have hr := round l h0
        rw [hs] at hr
        have h3 := stepI_pc hs
        have := ih l' (by omega) (by omega)
        cases hL : Lim (jacquardref6_normal_F1 (R E) Lim E.glob) (jacquardref6_normal_s1 t cs l'.cs Lcl.zero.cs h) with
        | none => rw [hL] at this; cases this
        | some p => rw [Lim_next hr hL]; rw [hL] at this; exact this
  rw [jacquardref6_normal_eq, zero5]
  exact loop code.length l h0 (by omega)

theorem there_R (hE : jacquardref6_there_In E) {cs : List Cell} {P : PProg} {h : AHeap} (p : ProgAt h cs P) (t : Int) :
    R E 110 [.agg cs, .c (.int .i64 t)] h = some ([.c (.bool (decide (0 ≤ t) && decide (t < P.thr.length)))], h) := by
  refine R_intro hE.fn ?_
  rw [jacquardref6_there_eq]
  by_cases h0 : 0 ≤ t
  · rw [show decide (t ≥ 0) = true from decide_eq_true h0, scK_ok, p.nthr, bind_ok]
    rfl
  · rw [show decide (t ≥ 0) = false from decide_eq_false h0, scK_ft]
    rfl

/-- Each thread may be. -/
def PProg.good (P : PProg) : Prop := P.fits ∧ ∀ code ∈ P.thr, GoodC code

theorem code_out {P : PProg} {t : Int} (h : ¬ (0 ≤ t ∧ t < P.thr.length)) : P.code t = [] := by
  unfold PProg.code
  split
  · rw [List.getD_eq_getElem?_getD, List.getElem?_eq_none (by omega)]; rfl
  · rfl

theorem refStart_R (hE : jacquardref6_Start_In E) {cs : List Cell} {P : PProg} {h : AHeap} (hg : P.good) (p : ProgAt h cs P) (t : Int) :
    R E 104 [.agg cs, .c (.int .i64 t)] h = some ([.agg (startL P t).cs], h) := by
  refine R_intro hE.fn ?_
  rw [jacquardref6_Start_eq, if_pos ⟨rfl, p.len⟩, there_R hE.c110 p, c1_ok, asB_ok]
  by_cases ht : 0 ≤ t ∧ t < P.thr.length
  · obtain ⟨q, hq⟩ : ∃ q : Nat, t = (q : Int) := ⟨t.toNat, by omega⟩
    have hqq : P.thr[q]? = some P.thr[q] := List.getElem?_eq_getElem (by omega)
    have hm := List.mem_of_getElem? hqq
    generalize P.thr[q] = code at hqq hm
    rw [show (decide (0 ≤ t) && decide (t < P.thr.length)) = true by simp [ht.1, ht.2], if_neg (by simp), if_pos ⟨rfl, p.len⟩, zero5, hq, refnormal_R hE.c123 p hqq (hg.1.2 _ hm) (hg.2 _ hm) Lcl.zero (by simp [Lcl.zero]), c1_ok, asA_ok, if_pos ⟨rfl, rfl, rfl⟩, if_pos ⟨rfl, rfl⟩]
    unfold startL
    rw [code_of hqq]
  · have hs : startL P t = Lcl.zero := by unfold startL; rw [code_out ht]; rfl
    rw [show (decide (0 ≤ t) && decide (t < P.thr.length)) = false by simp; omega, if_pos (show (!false) = true from rfl), zero5, if_pos ⟨rfl, rfl, rfl⟩, if_pos ⟨rfl, rfl⟩, hs]

theorem refNext_R (hE : jacquardref6_Next_In E) {cs : List Cell} {P : PProg} {h : AHeap} (hg : P.good) (p : ProgAt h cs P) (t : Int) (l : Lcl) :
    R E 81 [.agg cs, .c (.int .i64 t), .agg l.cs] h = some ([.agg ((nextI (P.code t) l).getD Ins.zero).cs, .c (.bool (nextI (P.code t) l).isSome)], h) := by
  refine R_intro hE.fn ?_
  rw [jacquardref6_Next_eq, if_pos ⟨rfl, p.len⟩, there_R hE.c110 p, qh_ok, c1_ok, asB_ok]
  by_cases ht : 0 ≤ t ∧ t < P.thr.length
  · obtain ⟨q, hq⟩ : ∃ q : Nat, t = (q : Int) := ⟨t.toNat, by omega⟩
    have hqq : P.thr[q]? = some P.thr[q] := List.getElem?_eq_getElem (by omega)
    have hm := List.mem_of_getElem? hqq
    generalize P.thr[q] = code at hqq hm
    have hgc := hg.2 _ hm
    obtain ⟨x, hx, hxl, hT⟩ := p.thr hqq
    rw [show (decide (0 ≤ t) && decide (t < P.thr.length)) = true by simp [ht.1, ht.2], Bool.not_true, scK_ok, lcl_pc, asI_ok, bind_ok]
    dsimp only
    subst hq
    rw [code_of hqq]
    by_cases h0 : 0 ≤ l.pc
    · rw [show decide (l.pc < 0) = false from decide_eq_false (by omega), scK_ok, lcl_pc, asI_ok, hT, hx.len, bind_ok]
      dsimp only
      by_cases h1 : l.pc < code.length
      · obtain ⟨m, hmm⟩ : ∃ m : Nat, l.pc = (m : Int) := ⟨l.pc.toNat, by omega⟩
        have hml : m < code.length := by omega
        have hi : code[m]? = some code[m] := List.getElem?_eq_getElem hml
        have hgi := hgc _ (List.getElem_mem hml)
        generalize code[m] = i at hi hgi
        obtain ⟨off, cs', hG0, hle, hcs⟩ := hx.insG hi
        have hG : ∀ {α : Type} (G : Nat → List Cell → Option α), (idxSK 9 x l.pc fun k N o => rdH h k N fun l => G o l) = G off cs' := by intro α G; rw [hmm]; exact hG0 G
        have hn : nextI code l = if 1 ≤ i.kind ∧ i.kind ≤ 4 then some i else none := by
          unfold nextI
          rw [if_pos h0, show l.pc.toNat = m by omega, hi]
        have hk2 := hgi.kind
        rw [show decide (l.pc ≥ (code.length : Int)) = false from decide_eq_false (by omega), if_neg (by simp), hT, lcl_pc, asI_ok, hG, if_pos hle, hcs, if_pos ⟨rfl, rfl, rfl⟩, ins_kind, asI_ok, ins_kind, asI_ok, scK_or, hn]
        by_cases hk : 1 ≤ i.kind ∧ i.kind ≤ 4
        · rw [if_neg (by simp; omega), if_pos hk, if_pos ⟨rfl, rfl⟩, if_pos ⟨rfl, rfl, rfl⟩, if_pos ⟨rfl, rfl⟩]; rfl
        · rw [if_pos (by simp; omega), if_neg hk, if_pos ⟨rfl, rfl, rfl⟩, if_pos ⟨rfl, rfl⟩]; rfl
      · have hn : nextI code l = none := by unfold nextI; rw [if_pos h0, List.getElem?_eq_none (by omega)]
        rw [show decide (l.pc ≥ (code.length : Int)) = true from decide_eq_true (by omega), if_pos rfl, hn, if_pos ⟨rfl, rfl, rfl⟩, if_pos ⟨rfl, rfl⟩]; rfl
    · have hn : nextI code l = none := by unfold nextI; rw [if_neg h0]
      rw [show decide (l.pc < 0) = true from decide_eq_true (by omega), scK_tf, if_pos rfl, hn, if_pos ⟨rfl, rfl, rfl⟩, if_pos ⟨rfl, rfl⟩]; rfl
  · have hn : nextI (P.code t) l = none := by rw [code_out ht]; unfold nextI; split <;> simp
    rw [show (decide (0 ≤ t) && decide (t < P.thr.length)) = false by simp; omega, Bool.not_false, scK_tf, scK_tf, if_pos rfl, hn, if_pos ⟨rfl, rfl, rfl⟩, if_pos ⟨rfl, rfl⟩]; rfl

theorem refAfter_R (hE : jacquardref6_After_In E) {cs : List Cell} {P : PProg} {h : AHeap} (hg : P.good) (p : ProgAt h cs P) (t : Int) (l : Lcl) (v : Int) :
    R E 107 [.agg cs, .c (.int .i64 t), .agg l.cs, .c (.int .i64 v)] h = some ([.agg (afterL (P.code t) l v).cs], h) := by
  refine R_intro hE.fn ?_
  rw [jacquardref6_After_eq, if_pos ⟨rfl, p.len⟩, if_pos ⟨rfl, rfl⟩, refNext_R hE.c81 hg p, c2_ok, asA_ok, asB_ok, if_pos ⟨rfl, rfl, rfl⟩]
  unfold afterL
  cases hn : nextI (P.code t) l with
  | none =>
    rw [show (none : Option Ins).isSome = false from rfl, if_pos (show (!false) = true from rfl), if_pos ⟨rfl, rfl⟩, if_pos ⟨rfl, rfl, rfl⟩, if_pos ⟨rfl, rfl⟩]
  | some i =>
    obtain ⟨n0, n1, n2, n3, n4⟩ := nextI_kind hn
    have ht : 0 ≤ t ∧ t < P.thr.length := by
      refine Classical.byContradiction fun hc => ?_
      rw [code_out hc] at n2; simp at n2
    obtain ⟨q, hq⟩ : ∃ q : Nat, t = (q : Int) := ⟨t.toNat, by omega⟩
    have hqq : P.thr[q]? = some P.thr[q] := List.getElem?_eq_getElem (by omega)
    have hm := List.mem_of_getElem? hqq
    generalize P.thr[q] = code at hqq hm
    subst hq
    rw [code_of hqq] at n1 n2 ⊢
    have hgi := hg.2 _ hm i (List.mem_of_getElem? n2)
    have hfit := hg.1.2 _ hm
    rw [show (some i : Option Ins).isSome = true from rfl, if_neg (by simp), show (some i : Option Ins).getD Ins.zero = i from rfl, ins_kind, asI_ok, ins_kind, asI_ok, scK_or]
    by_cases hk : i.kind = 2 ∨ i.kind = 4
    · have hpc := l.setR_pc i.reg v
      obtain ⟨r0, r1⟩ := hgi.reg (hk.imp id .inl)
      rw [if_pos (by rw [Bool.or_eq_true, beq_iff_eq, beq_iff_eq]; exact hk), ins_reg, asI_ok, if_pos ⟨r0, r1⟩, if_pos (by rw [Lcl.len]; omega), lcl_set r0 r1, lcl_pc, asI_ok, if_pos (by rw [Lcl.len]; omega), lcl_setpc, if_pos ⟨rfl, p.len⟩, if_pos ⟨rfl, rfl⟩, hpc, g_wrap_i64 (x := l.pc + 1) (by omega) (by omega), refnormal_R hE.c123 p hqq hfit (hg.2 _ hm) _ (by dsimp only; omega), c1_ok, asA_ok, if_pos ⟨rfl, rfl, rfl⟩, if_pos ⟨rfl, rfl⟩]
      dsimp only
      rw [if_pos hk]
    · rw [if_neg (by rw [Bool.or_eq_true, beq_iff_eq, beq_iff_eq]; exact hk), lcl_pc, asI_ok, if_pos (by rw [Lcl.len]; omega), lcl_setpc, if_pos ⟨rfl, p.len⟩, if_pos ⟨rfl, rfl⟩, g_wrap_i64 (x := l.pc + 1) (by omega) (by omega), refnormal_R hE.c123 p hqq hfit (hg.2 _ hm) _ (by dsimp only; omega), c1_ok, asA_ok, if_pos ⟨rfl, rfl, rfl⟩, if_pos ⟨rfl, rfl⟩]
      dsimp only
      rw [if_neg hk]

end
end Jq

namespace Jq
open Go

/- jacquard/event.Unfold: 78 -/
def event_Unfold_k2 (C : CallF) (L : LoopF) (G : Glo) (h0 : AHeap) : Ex → St → Option (List AV × AHeap) :=
  kBlk 0 (event_Unfold.fin G h0)
def event_Unfold_s1 (a1 : Int) (x2 : Cell) (x6 : Cell) (s0 : List Cell) (s1 : List Cell) (h : AHeap) : St := ⟨[.top, .v (.c (.int .i64 a1)), .v (.c x2), .loc 0 0, .top, .top, .v (.c x6), .loc 1 0, .top, .top, .top, .top, .top, .top, .top, .top, .top, .top, .top, .top, .top, .top, .top, .top, .top, .top, .top, .top, .top, .top, .top, .top, .top, .top, .top, .top, .top, .top, .top, .top, .top, .top, .top, .top, .top, .top, .top, .top, .top, .top, .top, .top, .top, .top, .top, .top, .top, .top, .top, .top, .top, .top, .top], [some s0, some s1, none, none], h⟩
def event_Unfold_F1 (C : CallF) (L : LoopF) (G : Glo) : St → Option (Ex × St) :=
  roundF (fun st f => event_Unfold_b1.exec C L G st f) [1, 2, 3, 6, 7] [0, 1] [(0, [6, 7, 8], [1])]
def event_Unfold_x1_0 (x6 : Cell) (b8 : Bool) (s1 : List Cell) (h : AHeap) : St := ⟨[.top, .top, .top, .top, .top, .top, .v (.c x6), .loc 1 0, .v (.c (.bool b8)), .top, .top, .top, .top, .top, .top, .top, .top, .top, .top, .top, .top, .top, .top, .top, .top, .top, .top, .top, .top, .top, .top, .top, .top, .top, .top, .top, .top, .top, .top, .top, .top, .top, .top, .top, .top, .top, .top, .top, .top, .top, .top, .top, .top, .top, .top, .top, .top, .top, .top, .top, .top, .top, .top], [none, some s1, none, none], h⟩
theorem event_Unfold_r1 (C : CallF) (L : LoopF) (G : Glo) (a1 : Int) (x2 : Cell) (x6 : Cell) (s0 : List Cell) (s1 : List Cell) (h : AHeap) :
    event_Unfold_F1 C L G (event_Unfold_s1 a1 x2 x6 s0 s1 h) =
    if 0 = 0 ∧ s0.length = 3 then if 0 = 0 ∧ s1.length = 5 then c2 (C 105 [(.agg s0), (.c (.int .i64 a1)), (.agg s1)] h) fun y_5 y_6 h_4 => asA y_5 fun l_7 => asB y_6 fun b_8 => if 0 = 0 ∧ (List.replicate 9 (Cell.int .i64 0)).length = 9 ∧ l_7.length = 9 then if (!b_8) = true then if 0 = 0 ∧ s1.length = 5 then if 0 = 0 ∧ s1.length = 5 ∧ s1.length = 5 then some (.ret, (event_Unfold_x1_0 x6 false s1 h_4)) else none else none else lenK x2 fun n_9 => if (decide (n_9 > 0)) = true then idxSK 1 x2 0 fun k_10 N_11 o_12 => rdH h_4 k_10 N_11 fun l_13 => atK l_13 o_12 fun q_14 => asI .i64 (.c q_14) fun n_15 => if 0 = 0 ∧ l_7.length = 9 then if 0 = 0 ∧ s1.length = 5 then c2 (C 109 [(.agg l_7), (.agg s1), (.c (.int .i64 n_15))] h_4) fun y_17 y_18 h_16 => asA y_17 fun l_19 => asB y_18 fun b_20 => if 0 = 0 ∧ [Cell.int .i64 0, Cell.int .i64 0, Cell.int .i64 0, Cell.int .i64 0, Cell.int .i64 0, Cell.int .i64 0].length = 6 ∧ l_19.length = 6 then if b_20 = true then lenK x2 fun n_21 => if (n_21 == 0) = true then if 0 = 0 ∧ s1.length = 5 then if 0 = 0 ∧ s1.length = 5 ∧ s1.length = 5 then some (.ret, (event_Unfold_x1_0 x6 true s1 h_16)) else none else none else sliceK h_16 1 true false x2 [.v (.c (.int .i64 1))] fun x_22 => lenK x6 fun n_23 => if 0 < l_19.length then if 1 < (l_19.set 0 (.int .i64 a1)).length then if 0 = 0 ∧ ((l_19.set 0 (.int .i64 a1)).set 1 (.int .i64 n_23)).length = 6 then if ((l_19.set 0 (.int .i64 a1)).set 1 (.int .i64 n_23)).length = 6 ∧ 0 + 6 ≤ [Cell.int .i64 0, Cell.int .i64 0, Cell.int .i64 0, Cell.int .i64 0, Cell.int .i64 0, Cell.int .i64 0].length then if (splice [Cell.int .i64 0, Cell.int .i64 0, Cell.int .i64 0, Cell.int .i64 0, Cell.int .i64 0, Cell.int .i64 0] 0 ((l_19.set 0 (.int .i64 a1)).set 1 (.int .i64 n_23))).length = 1 * 6 then appK 6 48 x6 (splice [Cell.int .i64 0, Cell.int .i64 0, Cell.int .i64 0, Cell.int .i64 0, Cell.int .i64 0, Cell.int .i64 0] 0 ((l_19.set 0 (.int .i64 a1)).set 1 (.int .i64 n_23))) h_16 fun x_24 h_25 => if 0 = 0 ∧ s0.length = 3 then if 0 = 0 ∧ s1.length = 5 then c1 (C 106 [(.agg s0), (.c (.int .i64 a1)), (.agg s1), (.c (.int .i64 n_15))] h_25) fun y_27 h_26 => asA y_27 fun l_28 => if 0 = 0 ∧ s1.length = 5 ∧ l_28.length = 5 then some (.normal, (event_Unfold_s1 a1 x_22 x_24 s0 l_28 h_26)) else none else none else none else none else none else none else none else none else lenK x6 fun n_29 => if 0 < l_19.length then if 1 < (l_19.set 0 (.int .i64 a1)).length then if 0 = 0 ∧ ((l_19.set 0 (.int .i64 a1)).set 1 (.int .i64 n_29)).length = 6 then if ((l_19.set 0 (.int .i64 a1)).set 1 (.int .i64 n_29)).length = 6 ∧ 0 + 6 ≤ [Cell.int .i64 0, Cell.int .i64 0, Cell.int .i64 0, Cell.int .i64 0, Cell.int .i64 0, Cell.int .i64 0].length then if (splice [Cell.int .i64 0, Cell.int .i64 0, Cell.int .i64 0, Cell.int .i64 0, Cell.int .i64 0, Cell.int .i64 0] 0 ((l_19.set 0 (.int .i64 a1)).set 1 (.int .i64 n_29))).length = 1 * 6 then appK 6 48 x6 (splice [Cell.int .i64 0, Cell.int .i64 0, Cell.int .i64 0, Cell.int .i64 0, Cell.int .i64 0, Cell.int .i64 0] 0 ((l_19.set 0 (.int .i64 a1)).set 1 (.int .i64 n_29))) h_16 fun x_30 h_31 => if 0 = 0 ∧ s0.length = 3 then if 0 = 0 ∧ s1.length = 5 then c1 (C 106 [(.agg s0), (.c (.int .i64 a1)), (.agg s1), (.c (.int .i64 n_15))] h_31) fun y_33 h_32 => asA y_33 fun l_34 => if 0 = 0 ∧ s1.length = 5 ∧ l_34.length = 5 then some (.normal, (event_Unfold_s1 a1 x2 x_30 s0 l_34 h_32)) else none else none else none else none else none else none else none else none else none else none else none else if 0 = 0 ∧ l_7.length = 9 then if 0 = 0 ∧ s1.length = 5 then c2 (C 109 [(.agg l_7), (.agg s1), (.c (.int .i64 0))] h_4) fun y_36 y_37 h_35 => asA y_36 fun l_38 => asB y_37 fun b_39 => if 0 = 0 ∧ [Cell.int .i64 0, Cell.int .i64 0, Cell.int .i64 0, Cell.int .i64 0, Cell.int .i64 0, Cell.int .i64 0].length = 6 ∧ l_38.length = 6 then if b_39 = true then lenK x2 fun n_40 => if (n_40 == 0) = true then if 0 = 0 ∧ s1.length = 5 then if 0 = 0 ∧ s1.length = 5 ∧ s1.length = 5 then some (.ret, (event_Unfold_x1_0 x6 true s1 h_35)) else none else none else sliceK h_35 1 true false x2 [.v (.c (.int .i64 1))] fun x_41 => lenK x6 fun n_42 => if 0 < l_38.length then if 1 < (l_38.set 0 (.int .i64 a1)).length then if 0 = 0 ∧ ((l_38.set 0 (.int .i64 a1)).set 1 (.int .i64 n_42)).length = 6 then if ((l_38.set 0 (.int .i64 a1)).set 1 (.int .i64 n_42)).length = 6 ∧ 0 + 6 ≤ [Cell.int .i64 0, Cell.int .i64 0, Cell.int .i64 0, Cell.int .i64 0, Cell.int .i64 0, Cell.int .i64 0].length then if (splice [Cell.int .i64 0, Cell.int .i64 0, Cell.int .i64 0, Cell.int .i64 0, Cell.int .i64 0, Cell.int .i64 0] 0 ((l_38.set 0 (.int .i64 a1)).set 1 (.int .i64 n_42))).length = 1 * 6 then appK 6 48 x6 (splice [Cell.int .i64 0, Cell.int .i64 0, Cell.int .i64 0, Cell.int .i64 0, Cell.int .i64 0, Cell.int .i64 0] 0 ((l_38.set 0 (.int .i64 a1)).set 1 (.int .i64 n_42))) h_35 fun x_43 h_44 => if 0 = 0 ∧ s0.length = 3 then if 0 = 0 ∧ s1.length = 5 then c1 (C 106 [(.agg s0), (.c (.int .i64 a1)), (.agg s1), (.c (.int .i64 0))] h_44) fun y_46 h_45 => asA y_46 fun l_47 => if 0 = 0 ∧ s1.length = 5 ∧ l_47.length = 5 then some (.normal, (event_Unfold_s1 a1 x_41 x_43 s0 l_47 h_45)) else none else none else none else none else none else none else none else none else lenK x6 fun n_48 => if 0 < l_38.length then if 1 < (l_38.set 0 (.int .i64 a1)).length then if 0 = 0 ∧ ((l_38.set 0 (.int .i64 a1)).set 1 (.int .i64 n_48)).length = 6 then if ((l_38.set 0 (.int .i64 a1)).set 1 (.int .i64 n_48)).length = 6 ∧ 0 + 6 ≤ [Cell.int .i64 0, Cell.int .i64 0, Cell.int .i64 0, Cell.int .i64 0, Cell.int .i64 0, Cell.int .i64 0].length then if (splice [Cell.int .i64 0, Cell.int .i64 0, Cell.int .i64 0, Cell.int .i64 0, Cell.int .i64 0, Cell.int .i64 0] 0 ((l_38.set 0 (.int .i64 a1)).set 1 (.int .i64 n_48))).length = 1 * 6 then appK 6 48 x6 (splice [Cell.int .i64 0, Cell.int .i64 0, Cell.int .i64 0, Cell.int .i64 0, Cell.int .i64 0, Cell.int .i64 0] 0 ((l_38.set 0 (.int .i64 a1)).set 1 (.int .i64 n_48))) h_35 fun x_49 h_50 => if 0 = 0 ∧ s0.length = 3 then if 0 = 0 ∧ s1.length = 5 then c1 (C 106 [(.agg s0), (.c (.int .i64 a1)), (.agg s1), (.c (.int .i64 0))] h_50) fun y_52 h_51 => asA y_52 fun l_53 => if 0 = 0 ∧ s1.length = 5 ∧ l_53.length = 5 then some (.normal, (event_Unfold_s1 a1 x2 x_49 s0 l_53 h_51)) else none else none else none else none else none else none else none else none else none else none else none else none else none else none := by kernel_rfl
theorem event_Unfold_e1_0 (C : CallF) (L : LoopF) (G : Glo) (h0 : AHeap) (x6 : Cell) (b8 : Bool) (s1 : List Cell) (h : AHeap) :
    (event_Unfold_k2 C L G h0) .ret (event_Unfold_x1_0 x6 b8 s1 h) =
    if 0 = 0 ∧ s1.length = 5 then some ([(.c x6), (.agg s1), (.c (.bool b8))], h) else none := by kernel_rfl
set_option maxRecDepth 100000 in
theorem event_Unfold_eq (C : CallF) (L : LoopF) (G : Glo) (l0 : List Cell) (a1 : Int) (x2 : Cell) (h0 : AHeap) :
    event_Unfold.body C L G [(.agg l0), (.c (.int .i64 a1)), (.c x2)] h0 =
    if 0 = 0 ∧ l0.length = 3 then c1 (C 94 [(.agg l0), (.c (.int .i64 a1))] h0) fun y_2 h_1 => asA y_2 fun l_3 => if 0 = 0 ∧ [Cell.int .i64 0, Cell.int .i64 0, Cell.int .i64 0, Cell.int .i64 0, Cell.int .i64 0].length = 5 ∧ l_3.length = 5 then (L (event_Unfold_F1 C L G) (event_Unfold_s1 a1 x2 .nils l0 l_3 h_1)).bind fun p_54 => (event_Unfold_k2 C L G h0) p_54.1 p_54.2 else none else none := by kernel_rfl

/- jacquard/event.Reads: 79 -/
set_option maxRecDepth 100000 in
theorem event_Reads_eq (C : CallF) (L : LoopF) (G : Glo) (l0 : List Cell) (h0 : AHeap) :
    event_Reads.body C L G [(.agg l0)] h0 =
    atK l0 2 fun q_1 => asI .i64 (.c q_1) fun n_2 => scK (n_2 == 1) false (atK l0 2 fun q_3 => asI .i64 (.c q_3) fun n_4 => some ((n_4 == 4), h0)) true h0 fun b_5 h_6 => scK b_5 false (atK l0 2 fun q_7 => asI .i64 (.c q_7) fun n_8 => some ((n_8 == 5), h_6)) true h_6 fun b_9 h_10 => some ([(.c (.bool b_9))], h_10) := by kernel_rfl

/- jacquard/event.Writes: 80 -/
set_option maxRecDepth 100000 in
theorem event_Writes_eq (C : CallF) (L : LoopF) (G : Glo) (l0 : List Cell) (h0 : AHeap) :
    event_Writes.body C L G [(.agg l0)] h0 =
    atK l0 2 fun q_1 => asI .i64 (.c q_1) fun n_2 => scK (n_2 == 2) false (atK l0 2 fun q_3 => asI .i64 (.c q_3) fun n_4 => some ((n_4 == 4), h0)) true h0 fun b_5 h_6 => some ([(.c (.bool b_5))], h_6) := by kernel_rfl

/- jacquard/event.Fences: 82 -/
set_option maxRecDepth 100000 in
theorem event_Fences_eq (C : CallF) (L : LoopF) (G : Glo) (l0 : List Cell) (h0 : AHeap) :
    event_Fences.body C L G [(.agg l0)] h0 =
    atK l0 2 fun q_1 => asI .i64 (.c q_1) fun n_2 => scK (n_2 == 3) false (atK l0 2 fun q_3 => asI .i64 (.c q_3) fun n_4 => some ((n_4 == 4), h0)) true h0 fun b_5 h_6 => scK b_5 false (atK l0 2 fun q_7 => asI .i64 (.c q_7) fun n_8 => some ((n_8 == 5), h_6)) true h_6 fun b_9 h_10 => some ([(.c (.bool b_9))], h_10) := by kernel_rfl

/- jacquard/event.Same: 84 -/
set_option maxRecDepth 100000 in
theorem event_Same_eq (C : CallF) (L : LoopF) (G : Glo) (x0 : Cell) (x1 : Cell) (h0 : AHeap) :
    event_Same.body C L G [(.c x0), (.c x1)] h0 =
    c1 (C 112 [(.c x0), (.c x1)] h0) fun y_2 h_1 => asB y_2 fun b_3 => some ([(.c (.bool b_3))], h_1) := by kernel_rfl

/- jacquard/event.Inits: 88 -/
def event_Inits_k2 (C : CallF) (L : LoopF) (G : Glo) (h0 : AHeap) : Ex → St → Option (List AV × AHeap) :=
  kSeq (fun st => event_Inits_p1.exec C L G st (event_Inits.fin G h0)) (event_Inits.fin G h0)
def event_Inits_k3 (C : CallF) (L : LoopF) (G : Glo) (h0 : AHeap) : Ex → St → Option (List AV × AHeap) :=
  kBlk 0 (event_Inits_k2 C L G h0)
def event_Inits_s1 (x3 : Cell) (x7 : Cell) (a8 : Int) (a9 : Int) (h : AHeap) : St := ⟨[.top, .top, .top, .v (.c x3), .top, .top, .top, .v (.c x7), .v (.c (.int .i64 a8)), .v (.c (.int .i64 a9)), .top, .top, .top, .top, .top, .top, .top, .top, .top, .top, .top, .top, .top], [none], h⟩
def event_Inits_F1 (C : CallF) (L : LoopF) (G : Glo) : St → Option (Ex × St) :=
  roundF (fun st f => event_Inits_b1.exec C L G st f) [3, 7, 8, 9] [] [(1, [3], [])]
def event_Inits_x1_1 (x3 : Cell) (h : AHeap) : St := ⟨[.top, .top, .top, .v (.c x3), .top, .top, .top, .top, .top, .top, .top, .top, .top, .top, .top, .top, .top, .top, .top, .top, .top, .top, .top], [none], h⟩
theorem event_Inits_r1 (C : CallF) (L : LoopF) (G : Glo) (x3 : Cell) (x7 : Cell) (a8 : Int) (a9 : Int) (h : AHeap) :
    event_Inits_F1 C L G (event_Inits_s1 x3 x7 a8 a9 h) =
    if (decide (a9 < a8)) = true then idxSK 1 x7 a9 fun k_3 N_4 o_5 => rdH h k_3 N_4 fun l_6 => atK l_6 o_5 fun q_7 => asI .i64 (.c q_7) fun n_8 => if (splice (splice (splice (splice (splice [Cell.int .i64 0, Cell.int .i64 0, Cell.int .i64 0, Cell.int .i64 0, Cell.int .i64 0, Cell.int .i64 0] 0 ([(.int .i64 (-1))] : List Cell)) 1 ([(.int .i64 a9)] : List Cell)) 2 ([(.int .i64 2)] : List Cell)) 3 ([(.int .i64 a9)] : List Cell)) 5 ([(.int .i64 n_8)] : List Cell)).length = 6 ∧ 0 + 6 ≤ [Cell.int .i64 0, Cell.int .i64 0, Cell.int .i64 0, Cell.int .i64 0, Cell.int .i64 0, Cell.int .i64 0].length then if (splice [Cell.int .i64 0, Cell.int .i64 0, Cell.int .i64 0, Cell.int .i64 0, Cell.int .i64 0, Cell.int .i64 0] 0 (splice (splice (splice (splice (splice [Cell.int .i64 0, Cell.int .i64 0, Cell.int .i64 0, Cell.int .i64 0, Cell.int .i64 0, Cell.int .i64 0] 0 ([(.int .i64 (-1))] : List Cell)) 1 ([(.int .i64 a9)] : List Cell)) 2 ([(.int .i64 2)] : List Cell)) 3 ([(.int .i64 a9)] : List Cell)) 5 ([(.int .i64 n_8)] : List Cell))).length = 1 * 6 then appK 6 48 x3 (splice [Cell.int .i64 0, Cell.int .i64 0, Cell.int .i64 0, Cell.int .i64 0, Cell.int .i64 0, Cell.int .i64 0] 0 (splice (splice (splice (splice (splice [Cell.int .i64 0, Cell.int .i64 0, Cell.int .i64 0, Cell.int .i64 0, Cell.int .i64 0, Cell.int .i64 0] 0 ([(.int .i64 (-1))] : List Cell)) 1 ([(.int .i64 a9)] : List Cell)) 2 ([(.int .i64 2)] : List Cell)) 3 ([(.int .i64 a9)] : List Cell)) 5 ([(.int .i64 n_8)] : List Cell))) h fun x_9 h_10 => some (.normal, (event_Inits_s1 x_9 x7 a8 (G.wrap .i64 (a9 + 1)) h_10)) else none else none else some ((.exit 0), (event_Inits_x1_1 x3 h)) := by kernel_rfl
theorem event_Inits_e1_1 (C : CallF) (L : LoopF) (G : Glo) (h0 : AHeap) (x3 : Cell) (h : AHeap) :
    (event_Inits_k3 C L G h0) (.exit 0) (event_Inits_x1_1 x3 h) =
    some ([(.c x3)], h) := by kernel_rfl
set_option maxRecDepth 100000 in
theorem event_Inits_eq (C : CallF) (L : LoopF) (G : Glo) (l0 : List Cell) (h0 : AHeap) :
    event_Inits.body C L G [(.agg l0)] h0 =
    atK l0 1 fun q_1 => lenK q_1 fun n_2 => (L (event_Inits_F1 C L G) (event_Inits_s1 .nils q_1 n_2 0 h0)).bind fun p_11 => (event_Inits_k3 C L G h0) p_11.1 p_11.2 := by kernel_rfl

/- jacquard/event.PO: 90 -/
def event_PO_k2 (C : CallF) (L : LoopF) (G : Glo) (h0 : AHeap) : Ex → St → Option (List AV × AHeap) :=
  kSeq (fun st => event_PO_p1.exec C L G st (event_PO.fin G h0)) (event_PO.fin G h0)
def event_PO_k3 (C : CallF) (L : LoopF) (G : Glo) (h0 : AHeap) : Ex → St → Option (List AV × AHeap) :=
  kBlk 0 (event_PO_k2 C L G h0)
def event_PO_s2 (x0 : Cell) (x15 : Cell) (a16 : Int) (a17 : Int) (s0 : List Cell) (s1 : List Cell) (h : AHeap) : St := ⟨[.v (.c x0), .top, .loc 0 0, .loc 1 0, .top, .top, .top, .top, .top, .top, .top, .top, .top, .top, .top, .v (.c x15), .v (.c (.int .i64 a16)), .v (.c (.int .i64 a17)), .top, .top, .top, .top, .top, .top, .top, .top, .top, .top, .top, .top, .top, .top, .top, .top, .top, .top, .top, .top, .top, .top, .top, .top, .top, .top, .top, .top, .top, .top, .top, .top, .top, .top, .top, .top, .top, .top, .top, .top, .top, .top, .top, .top, .top], [some s0, some s1, none, none], h⟩
def event_PO_F2 (C : CallF) (L : LoopF) (G : Glo) : St → Option (Ex × St) :=
  roundF (fun st f => event_PO_b2.exec C L G st f) [0, 2, 3, 15, 16, 17] [0, 1] [(1, [2, 3], [0, 1])]
def event_PO_k4 (C : CallF) (L : LoopF) (G : Glo) : Ex → St → Option (Ex × St) :=
  kSeq (fun st => event_PO_p2.exec C L G st (kLoop [0, 2, 3, 15, 16, 17] [0, 1] [(1, [2, 3], [0, 1])])) (kLoop [0, 2, 3, 15, 16, 17] [0, 1] [(1, [2, 3], [0, 1])])
def event_PO_k5 (C : CallF) (L : LoopF) (G : Glo) : Ex → St → Option (Ex × St) :=
  kBlk 1 (event_PO_k4 C L G)
def event_PO_k6 (C : CallF) (L : LoopF) (G : Glo) : Ex → St → Option (Ex × St) :=
  kBlk 2 (event_PO_k5 C L G)
def event_PO_s1 (x0 : Cell) (a4 : Int) (x15 : Cell) (a16 : Int) (a17 : Int) (x22 : Cell) (a23 : Int) (a24 : Int) (s0 : List Cell) (s1 : List Cell) (s2 : List Cell) (h : AHeap) : St := ⟨[.v (.c x0), .top, .loc 0 0, .loc 1 0, .v (.c (.int .i64 a4)), .loc 2 0, .top, .top, .top, .top, .top, .top, .top, .top, .top, .v (.c x15), .v (.c (.int .i64 a16)), .v (.c (.int .i64 a17)), .top, .top, .top, .top, .v (.c x22), .v (.c (.int .i64 a23)), .v (.c (.int .i64 a24)), .top, .top, .top, .top, .top, .top, .top, .top, .top, .top, .top, .top, .top, .top, .top, .top, .top, .top, .top, .top, .top, .top, .top, .top, .top, .top, .top, .top, .top, .top, .top, .top, .top, .top, .top, .top, .top, .top], [some s0, some s1, some s2, none], h⟩
def event_PO_F1 (C : CallF) (L : LoopF) (G : Glo) : St → Option (Ex × St) :=
  roundF (fun st f => event_PO_b1.exec C L G st f) [0, 2, 3, 4, 5, 15, 16, 17, 22, 23, 24] [0, 1, 2] [(3, [0, 2, 3, 15, 16, 17], [0, 1])]
def event_PO_x1_3 (x0 : Cell) (x15 : Cell) (a16 : Int) (a17 : Int) (s0 : List Cell) (s1 : List Cell) (h : AHeap) : St := ⟨[.v (.c x0), .top, .loc 0 0, .loc 1 0, .top, .top, .top, .top, .top, .top, .top, .top, .top, .top, .top, .v (.c x15), .v (.c (.int .i64 a16)), .v (.c (.int .i64 a17)), .top, .top, .top, .top, .top, .top, .top, .top, .top, .top, .top, .top, .top, .top, .top, .top, .top, .top, .top, .top, .top, .top, .top, .top, .top, .top, .top, .top, .top, .top, .top, .top, .top, .top, .top, .top, .top, .top, .top, .top, .top, .top, .top, .top, .top], [some s0, some s1, none, none], h⟩
def event_PO_x2_1 (s0 : List Cell) (s1 : List Cell) (h : AHeap) : St := ⟨[.top, .top, .loc 0 0, .loc 1 0, .top, .top, .top, .top, .top, .top, .top, .top, .top, .top, .top, .top, .top, .top, .top, .top, .top, .top, .top, .top, .top, .top, .top, .top, .top, .top, .top, .top, .top, .top, .top, .top, .top, .top, .top, .top, .top, .top, .top, .top, .top, .top, .top, .top, .top, .top, .top, .top, .top, .top, .top, .top, .top, .top, .top, .top, .top, .top, .top], [some s0, some s1, none, none], h⟩
theorem event_PO_r1 (C : CallF) (L : LoopF) (G : Glo) (x0 : Cell) (a4 : Int) (x15 : Cell) (a16 : Int) (a17 : Int) (x22 : Cell) (a23 : Int) (a24 : Int) (s0 : List Cell) (s1 : List Cell) (s2 : List Cell) (h : AHeap) :
    event_PO_F1 C L G (event_PO_s1 x0 a4 x15 a16 a17 x22 a23 a24 s0 s1 s2 h) =
    if (decide (a24 < a23)) = true then idxSK 6 x22 a24 fun k_15 N_16 o_17 => rdH h k_15 N_16 fun l_18 => if o_17 + 6 ≤ l_18.length then if 0 = 0 ∧ [Cell.int .i64 0, Cell.int .i64 0, Cell.int .i64 0, Cell.int .i64 0, Cell.int .i64 0, Cell.int .i64 0].length = 6 ∧ ((l_18.drop o_17).take 6).length = 6 then atK s2 0 fun q_19 => asI .i64 (.c q_19) fun n_20 => scK (decide (n_20 < 0)) true (atK ((l_18.drop o_17).take 6) 0 fun q_21 => asI .i64 (.c q_21) fun n_22 => some ((decide (n_22 ≥ 0)), h)) false h fun b_23 h_24 => scK b_23 false (atK s2 0 fun q_25 => asI .i64 (.c q_25) fun n_26 => scK (decide (n_26 ≥ 0)) true (atK s2 0 fun q_27 => asI .i64 (.c q_27) fun n_28 => atK ((l_18.drop o_17).take 6) 0 fun q_29 => asI .i64 (.c q_29) fun n_30 => some ((n_28 == n_30), h_24)) false h_24 fun b_31 h_32 => scK b_31 true (atK s2 1 fun q_33 => asI .i64 (.c q_33) fun n_34 => atK ((l_18.drop o_17).take 6) 1 fun q_35 => asI .i64 (.c q_35) fun n_36 => some ((decide (n_34 < n_36)), h_32)) false h_32 fun b_37 h_38 => some (b_37, h_38)) true h_24 fun b_39 h_40 => if b_39 = true then if 0 = 0 ∧ s1.length = 65 then c1 (C 10 [(.agg s1), (.c (.int .i64 a4)), (.c (.int .i64 a24))] h_40) fun y_42 h_41 => asA y_42 fun l_43 => if 0 = 0 ∧ s1.length = 65 ∧ l_43.length = 65 then some (.normal, (event_PO_s1 x0 a4 x15 a16 a17 x22 a23 (G.wrap .i64 (a24 + 1)) s0 l_43 s2 h_41)) else none else none else some (.normal, (event_PO_s1 x0 a4 x15 a16 a17 x22 a23 (G.wrap .i64 (a24 + 1)) s0 s1 s2 h_40)) else none else none else some ((.exit 2), (event_PO_x1_3 x0 x15 a16 a17 s0 s1 h)) := by kernel_rfl
theorem event_PO_e1_3 (C : CallF) (L : LoopF) (G : Glo) (x0 : Cell) (x15 : Cell) (a16 : Int) (a17 : Int) (s0 : List Cell) (s1 : List Cell) (h : AHeap) :
    (event_PO_k6 C L G) (.exit 2) (event_PO_x1_3 x0 x15 a16 a17 s0 s1 h) =
    some (.normal, (event_PO_s2 x0 x15 a16 (G.wrap .i64 (a17 + 1)) s0 s1 h)) := by kernel_rfl
theorem event_PO_r2 (C : CallF) (L : LoopF) (G : Glo) (x0 : Cell) (x15 : Cell) (a16 : Int) (a17 : Int) (s0 : List Cell) (s1 : List Cell) (h : AHeap) :
    event_PO_F2 C L G (event_PO_s2 x0 x15 a16 a17 s0 s1 h) =
    if (decide (a17 < a16)) = true then idxSK 6 x15 a17 fun k_10 N_11 o_12 => rdH h k_10 N_11 fun l_13 => if o_12 + 6 ≤ l_13.length then if 0 = 0 ∧ [Cell.int .i64 0, Cell.int .i64 0, Cell.int .i64 0, Cell.int .i64 0, Cell.int .i64 0, Cell.int .i64 0].length = 6 ∧ ((l_13.drop o_12).take 6).length = 6 then lenK x0 fun n_14 => (L (event_PO_F1 C L G) (event_PO_s1 x0 a17 x15 a16 a17 x0 n_14 0 s0 s1 ((l_13.drop o_12).take 6) h)).bind fun p_44 => (event_PO_k6 C L G) p_44.1 p_44.2 else none else none else some ((.exit 0), (event_PO_x2_1 s0 s1 h)) := by kernel_rfl
theorem event_PO_e2_1 (C : CallF) (L : LoopF) (G : Glo) (h0 : AHeap) (s0 : List Cell) (s1 : List Cell) (h : AHeap) :
    (event_PO_k3 C L G h0) (.exit 0) (event_PO_x2_1 s0 s1 h) =
    if 0 = 0 ∧ s1.length = 65 then if 0 = 0 ∧ s0.length = 65 ∧ s1.length = 65 then if 0 = 0 ∧ s1.length = 65 then some ([(.agg s1)], h) else none else none else none := by kernel_rfl
set_option maxRecDepth 100000 in
theorem event_PO_eq (C : CallF) (L : LoopF) (G : Glo) (x0 : Cell) (h0 : AHeap) :
    event_PO.body C L G [(.c x0)] h0 =
    lenK x0 fun n_1 => if (decide (n_1 > 64)) = true then c1 (C 9 [(.c (.int .i64 0))] h0) fun y_3 h_2 => asA y_3 fun l_4 => if 0 = 0 ∧ ([Cell.int .i64 0] ++ List.replicate 64 (Cell.int .u64 0)).length = 65 ∧ l_4.length = 65 then if 0 = 0 ∧ l_4.length = 65 then some ([(.agg l_4)], h_2) else none else none else lenK x0 fun n_5 => c1 (C 9 [(.c (.int .i64 n_5))] h0) fun y_7 h_6 => asA y_7 fun l_8 => if 0 = 0 ∧ ([Cell.int .i64 0] ++ List.replicate 64 (Cell.int .u64 0)).length = 65 ∧ l_8.length = 65 then lenK x0 fun n_9 => (L (event_PO_F2 C L G) (event_PO_s2 x0 x0 n_9 0 ([Cell.int .i64 0] ++ List.replicate 64 (Cell.int .u64 0)) l_8 h_6)).bind fun p_45 => (event_PO_k3 C L G h0) p_45.1 p_45.2 else none := by kernel_rfl

/- jacquard/event.Of: 109 -/
set_option maxRecDepth 100000 in
theorem event_Of_eq (C : CallF) (L : LoopF) (G : Glo) (l0 : List Cell) (l1 : List Cell) (a2 : Int) (h0 : AHeap) :
    event_Of.body C L G [(.agg l0), (.agg l1), (.c (.int .i64 a2))] h0 =
    atK l0 0 fun q_1 => asI .i64 (.c q_1) fun n_2 => if (n_2 == 1) = true then atK l0 2 fun q_3 => asI .i64 (.c q_3) fun n_4 => if 3 + 2 ≤ l0.length then if 0 = 0 ∧ l1.length = 5 then c1 (qh h0 (C 108 [(.agg ((l0.drop 3).take 2)), (.agg l1)] h0)) fun y_6 h_5 => asI .i64 y_6 fun n_7 => if 0 = 0 ∧ [Cell.int .i64 0, Cell.int .i64 0, Cell.int .i64 0, Cell.int .i64 0, Cell.int .i64 0, Cell.int .i64 0].length = 6 ∧ (splice (splice (splice [Cell.int .i64 0, Cell.int .i64 0, Cell.int .i64 0, Cell.int .i64 0, Cell.int .i64 0, Cell.int .i64 0] 2 ([(.int .i64 2)] : List Cell)) 3 ([(.int .i64 n_4)] : List Cell)) 5 ([(.int .i64 n_7)] : List Cell)).length = 6 then if 0 = 0 ∧ (splice (splice (splice [Cell.int .i64 0, Cell.int .i64 0, Cell.int .i64 0, Cell.int .i64 0, Cell.int .i64 0, Cell.int .i64 0] 2 ([(.int .i64 2)] : List Cell)) 3 ([(.int .i64 n_4)] : List Cell)) 5 ([(.int .i64 n_7)] : List Cell)).length = 6 then some ([(.agg (splice (splice (splice [Cell.int .i64 0, Cell.int .i64 0, Cell.int .i64 0, Cell.int .i64 0, Cell.int .i64 0, Cell.int .i64 0] 2 ([(.int .i64 2)] : List Cell)) 3 ([(.int .i64 n_4)] : List Cell)) 5 ([(.int .i64 n_7)] : List Cell))), (.c (.bool false))], h0) else none else none else none else none else if (n_2 == 2) = true then atK l0 2 fun q_8 => asI .i64 (.c q_8) fun n_9 => if 0 = 0 ∧ [Cell.int .i64 0, Cell.int .i64 0, Cell.int .i64 0, Cell.int .i64 0, Cell.int .i64 0, Cell.int .i64 0].length = 6 ∧ (splice (splice (splice [Cell.int .i64 0, Cell.int .i64 0, Cell.int .i64 0, Cell.int .i64 0, Cell.int .i64 0, Cell.int .i64 0] 2 ([(.int .i64 1)] : List Cell)) 3 ([(.int .i64 n_9)] : List Cell)) 4 ([(.int .i64 a2)] : List Cell)).length = 6 then if 0 = 0 ∧ (splice (splice (splice [Cell.int .i64 0, Cell.int .i64 0, Cell.int .i64 0, Cell.int .i64 0, Cell.int .i64 0, Cell.int .i64 0] 2 ([(.int .i64 1)] : List Cell)) 3 ([(.int .i64 n_9)] : List Cell)) 4 ([(.int .i64 a2)] : List Cell)).length = 6 then some ([(.agg (splice (splice (splice [Cell.int .i64 0, Cell.int .i64 0, Cell.int .i64 0, Cell.int .i64 0, Cell.int .i64 0, Cell.int .i64 0] 2 ([(.int .i64 1)] : List Cell)) 3 ([(.int .i64 n_9)] : List Cell)) 4 ([(.int .i64 a2)] : List Cell))), (.c (.bool true))], h0) else none else none else if (n_2 == 4) = true then if 3 + 2 ≤ l0.length then if 0 = 0 ∧ l1.length = 5 then c1 (C 108 [(.agg ((l0.drop 3).take 2)), (.agg l1)] h0) fun y_11 h_10 => asI .i64 y_11 fun n_12 => if (n_12 == a2) = true then atK l0 2 fun q_13 => asI .i64 (.c q_13) fun n_14 => if 6 + 2 ≤ l0.length then if 0 = 0 ∧ l1.length = 5 then c1 (qh h_10 (C 108 [(.agg ((l0.drop 6).take 2)), (.agg l1)] h_10)) fun y_16 h_15 => asI .i64 y_16 fun n_17 => if 0 = 0 ∧ [Cell.int .i64 0, Cell.int .i64 0, Cell.int .i64 0, Cell.int .i64 0, Cell.int .i64 0, Cell.int .i64 0].length = 6 ∧ (splice (splice (splice (splice [Cell.int .i64 0, Cell.int .i64 0, Cell.int .i64 0, Cell.int .i64 0, Cell.int .i64 0, Cell.int .i64 0] 2 ([(.int .i64 4)] : List Cell)) 3 ([(.int .i64 n_14)] : List Cell)) 4 ([(.int .i64 a2)] : List Cell)) 5 ([(.int .i64 n_17)] : List Cell)).length = 6 then if 0 = 0 ∧ (splice (splice (splice (splice [Cell.int .i64 0, Cell.int .i64 0, Cell.int .i64 0, Cell.int .i64 0, Cell.int .i64 0, Cell.int .i64 0] 2 ([(.int .i64 4)] : List Cell)) 3 ([(.int .i64 n_14)] : List Cell)) 4 ([(.int .i64 a2)] : List Cell)) 5 ([(.int .i64 n_17)] : List Cell)).length = 6 then some ([(.agg (splice (splice (splice (splice [Cell.int .i64 0, Cell.int .i64 0, Cell.int .i64 0, Cell.int .i64 0, Cell.int .i64 0, Cell.int .i64 0] 2 ([(.int .i64 4)] : List Cell)) 3 ([(.int .i64 n_14)] : List Cell)) 4 ([(.int .i64 a2)] : List Cell)) 5 ([(.int .i64 n_17)] : List Cell))), (.c (.bool true))], h_10) else none else none else none else none else atK l0 2 fun q_18 => asI .i64 (.c q_18) fun n_19 => if 0 = 0 ∧ [Cell.int .i64 0, Cell.int .i64 0, Cell.int .i64 0, Cell.int .i64 0, Cell.int .i64 0, Cell.int .i64 0].length = 6 ∧ (splice (splice (splice [Cell.int .i64 0, Cell.int .i64 0, Cell.int .i64 0, Cell.int .i64 0, Cell.int .i64 0, Cell.int .i64 0] 2 ([(.int .i64 5)] : List Cell)) 3 ([(.int .i64 n_19)] : List Cell)) 4 ([(.int .i64 a2)] : List Cell)).length = 6 then if 0 = 0 ∧ (splice (splice (splice [Cell.int .i64 0, Cell.int .i64 0, Cell.int .i64 0, Cell.int .i64 0, Cell.int .i64 0, Cell.int .i64 0] 2 ([(.int .i64 5)] : List Cell)) 3 ([(.int .i64 n_19)] : List Cell)) 4 ([(.int .i64 a2)] : List Cell)).length = 6 then some ([(.agg (splice (splice (splice [Cell.int .i64 0, Cell.int .i64 0, Cell.int .i64 0, Cell.int .i64 0, Cell.int .i64 0, Cell.int .i64 0] 2 ([(.int .i64 5)] : List Cell)) 3 ([(.int .i64 n_19)] : List Cell)) 4 ([(.int .i64 a2)] : List Cell))), (.c (.bool true))], h_10) else none else none else none else none else if 0 = 0 ∧ [Cell.int .i64 0, Cell.int .i64 0, Cell.int .i64 0, Cell.int .i64 0, Cell.int .i64 0, Cell.int .i64 0].length = 6 ∧ (splice [Cell.int .i64 0, Cell.int .i64 0, Cell.int .i64 0, Cell.int .i64 0, Cell.int .i64 0, Cell.int .i64 0] 2 ([(.int .i64 3)] : List Cell)).length = 6 then if 0 = 0 ∧ (splice [Cell.int .i64 0, Cell.int .i64 0, Cell.int .i64 0, Cell.int .i64 0, Cell.int .i64 0, Cell.int .i64 0] 2 ([(.int .i64 3)] : List Cell)).length = 6 then some ([(.agg (splice [Cell.int .i64 0, Cell.int .i64 0, Cell.int .i64 0, Cell.int .i64 0, Cell.int .i64 0, Cell.int .i64 0] 2 ([(.int .i64 3)] : List Cell))), (.c (.bool false))], h0) else none else none := by kernel_rfl


end Jq

/- Events: what an instruction does; a thread unfolded. -/
namespace Jq
open Go

structure Evt where
  t : Int
  i : Int
  kind : Int
  loc : Int
  r : Int
  w : Int
  deriving DecidableEq

def Evt.cs (e : Evt) : List Cell := [.int .i64 e.t, .int .i64 e.i, .int .i64 e.kind, .int .i64 e.loc, .int .i64 e.r, .int .i64 e.w]
def evsC (l : List Evt) : List Cell := l.flatMap Evt.cs
theorem Evt.len (e : Evt) : e.cs.length = 6 := rfl
theorem evsC_len : ∀ l : List Evt, (evsC l).length = l.length * 6
  | [] => rfl
  | s :: l => by simp only [evsC, List.flatMap_cons, List.length_append]; rw [show (l.flatMap _).length = _ from evsC_len l, Evt.len]; simp; omega
theorem evsC_at : ∀ (l : List Evt) (i : Nat) (s : Evt), l[i]? = some s → ((evsC l).drop (i * 6)).take 6 = s.cs
  | [], _, _, h => by simp at h
  | q :: l, 0, s, h => by simp at h; subst h; rfl
  | q :: l, i + 1, s, h => by
    have := evsC_at l i s (by simpa using h)
    have e : evsC (q :: l) = q.cs ++ evsC l := rfl
    rw [e, List.drop_append, List.drop_of_length_le (by rw [Evt.len]; omega), List.nil_append, show (i + 1) * 6 - q.cs.length = i * 6 by rw [Evt.len]; omega]
    exact this
theorem evsC_snoc (l : List Evt) (s : Evt) : evsC (l ++ [s]) = evsC l ++ s.cs := by simp [evsC]
theorem evsC_cell {l : List Evt} {i j : Nat} {s : Evt} {c : Cell} (h : l[i]? = some s) (hj : j < 6) (hc : s.cs[j]? = some c) : (evsC l)[i * 6 + j]? = some c := by
  rw [← hc, ← evsC_at l i s h, List.getElem?_take, if_pos hj, List.getElem?_drop]

/-- One event, wherever it is looked at. -/
theorem SlAt.evG {h : AHeap} {x : Cell} {l : List Evt} (s : SlAt h x 6 (evsC l) l.length) {i : Nat} {q : Evt} (hq : l[i]? = some q) :
    ∃ off cs', (∀ {α : Type} (G : Nat → List Cell → Option α), (idxSK 6 x (i : Int) fun k N o => rdH h k N fun l => G o l) = G off cs') ∧ off + 6 ≤ cs'.length ∧ (cs'.drop off).take 6 = q.cs := by
  obtain ⟨off, cs', h1, h2, h3⟩ := s.elG (getI_lt hq)
  exact ⟨off, cs', h1, h2, h3.trans (evsC_at l i q hq)⟩
theorem SlAt.evF {α : Type} {h : AHeap} {x : Cell} {l : List Evt} (s : SlAt h x 6 (evsC l) l.length) {i j : Nat} {q : Evt} {c : Cell} (hq : l[i]? = some q) (hj : j < 6) (hc : q.cs[j]? = some c) {f : Cell → Option α} :
    (idxSK 6 x (i : Int) fun k N o => rdH h k N fun l => atK l (o + j) f) = f c := s.get (getI_lt hq) hj (evsC_cell hq hj hc)

/-- The event of an instruction that reads v. -/
def evOf (i : Ins) (l : Lcl) (v : Int) : Evt :=
  if i.kind = 1 then ⟨0, 0, 2, i.loc, 0, opV i.a l⟩
  else if i.kind = 2 then ⟨0, 0, 1, i.loc, v, 0⟩
  else if i.kind = 4 then (if opV i.a l = v then ⟨0, 0, 4, i.loc, v, opV i.b l⟩ else ⟨0, 0, 5, i.loc, v, 0⟩)
  else ⟨0, 0, 3, 0, 0, 0⟩

def rdI (i : Ins) : Bool := decide (i.kind = 2 ∨ i.kind = 4)

/-- A thread unfolded: its events, where it is, and whether it would read more. -/
def unf (code : List Ins) (t : Int) : Nat → Lcl → List Int → List Evt → List Evt × Lcl × Bool
  | 0, l, _, out => (out, l, false)
  | k + 1, l, rs, out => match nextI code l with
    | none => (out, l, false)
    | some i =>
      if rdI i = true then match rs with
        | [] => (out, l, true)
        | v :: rs => unf code t k (afterL code l v) rs (out ++ [{ evOf i l v with t := t, i := out.length }])
      else unf code t k (afterL code l 0) rs (out ++ [{ evOf i l 0 with t := t, i := out.length }])

theorem nrm_pc {code : List Ins} : ∀ (k : Nat) (l : Lcl), l.pc ≤ (nrm code k l).pc
  | 0, l => by rw [nrm]; omega
  | k + 1, l => by
    rw [nrm]
    cases hs : stepI code l with
    | none => show l.pc ≤ l.pc; omega
    | some l' =>
      have h1 := stepI_pc hs
      have h2 := nrm_pc (code := code) k l'
      show l.pc ≤ (nrm code k l').pc
      omega

theorem afterL_pc {code : List Ins} {l : Lcl} {i : Ins} (h : nextI code l = some i) (v : Int) : l.pc + 1 ≤ (afterL code l v).pc := by
  unfold afterL
  rw [h]
  exact nrm_pc _ _

theorem evOf_novalue {i : Ins} (h : rdI i = false) (l : Lcl) (v w : Int) : evOf i l v = evOf i l w := by
  unfold rdI at h
  rw [decide_eq_false_iff_not] at h
  unfold evOf
  split
  · rfl
  · rw [if_neg (by omega), if_neg (by omega), if_neg (by omega), if_neg (by omega)]
theorem afterL_novalue {code : List Ins} {l : Lcl} {i : Ins} (hn : nextI code l = some i) (h : rdI i = false) (v w : Int) : afterL code l v = afterL code l w := by
  unfold rdI at h
  rw [decide_eq_false_iff_not] at h
  unfold afterL
  rw [hn]
  dsimp only
  rw [if_neg h, if_neg h]

theorem normL_pc (code : List Ins) (l : Lcl) : l.pc ≤ (normL code l).pc := nrm_pc _ _

section
variable {E : Env}

theorem evOf_prog (hE : event_Of_In E) (i : Ins) (l : Lcl) (v : Int) (h : AHeap) : R E 109 [.agg i.cs, .agg l.cs, .c (.int .i64 v)] h = some ([.agg (evOf i l v).cs, .c (.bool (rdI i))], h) := by
  refine R_intro hE.fn ?_
  have n3 : (3 + 2 ≤ i.cs.length) := by rw [Ins.len]; omega
  have n6 : (6 + 2 ≤ i.cs.length) := by rw [Ins.len]; omega
  unfold evOf rdI
  rw [event_Of_eq, ins_kind, asI_ok]
  by_cases k1 : i.kind = 1
  · rw [if_pos (by rw [k1]; rfl), if_pos k1, ins_loc, asI_ok, if_pos n3, if_pos ⟨rfl, rfl⟩, ins_a, Value_R hE.c108, qh_ok, c1_ok, asI_ok, if_pos ⟨rfl, rfl, rfl⟩, if_pos ⟨rfl, rfl⟩, show decide (i.kind = 2 ∨ i.kind = 4) = false from decide_eq_false (by omega)]
    rfl
  · rw [if_neg (by rw [beq_iff_eq]; exact k1), if_neg k1]
    by_cases k2 : i.kind = 2
    · rw [if_pos (by rw [k2]; rfl), if_pos k2, ins_loc, asI_ok, if_pos ⟨rfl, rfl, rfl⟩, if_pos ⟨rfl, rfl⟩, show decide (i.kind = 2 ∨ i.kind = 4) = true from decide_eq_true (by omega)]
      rfl
    · rw [if_neg (by rw [beq_iff_eq]; exact k2), if_neg k2]
      by_cases k4 : i.kind = 4
      · rw [if_pos (by rw [k4]; rfl), if_pos k4, if_pos n3, if_pos ⟨rfl, rfl⟩, ins_a, Value_R hE.c108, c1_ok, asI_ok, show decide (i.kind = 2 ∨ i.kind = 4) = true from decide_eq_true (by omega)]
        by_cases hv : opV i.a l = v
        · rw [if_pos (by rw [hv]; exact beq_self_eq_true _), if_pos hv, ins_loc, asI_ok, if_pos n6, if_pos ⟨rfl, rfl⟩, ins_b, Value_R hE.c108, qh_ok, c1_ok, asI_ok, if_pos ⟨rfl, rfl, rfl⟩, if_pos ⟨rfl, rfl⟩]
          rfl
        · rw [if_neg (by rw [beq_iff_eq]; exact hv), if_neg hv, ins_loc, asI_ok, if_pos ⟨rfl, rfl, rfl⟩, if_pos ⟨rfl, rfl⟩]
          rfl
      · rw [if_neg (by rw [beq_iff_eq]; exact k4), if_neg k4, if_pos ⟨rfl, rfl, rfl⟩, if_pos ⟨rfl, rfl⟩, show decide (i.kind = 2 ∨ i.kind = 4) = false from decide_eq_false (by omega)]
        rfl

theorem evOf_ref (hE : jacquardref6_Event_In E) (i : Ins) (l : Lcl) (v : Int) (h : AHeap) : R E 111 [.agg i.cs, .agg l.cs, .c (.int .i64 v)] h = some ([.agg (evOf i l v).cs], h) := by
  refine R_intro hE.fn ?_
  have n3 : (3 + 2 ≤ i.cs.length) := by rw [Ins.len]; omega
  have n6 : (6 + 2 ≤ i.cs.length) := by rw [Ins.len]; omega
  unfold evOf
  rw [jacquardref6_Event_eq, ins_kind, asI_ok]
  by_cases k1 : i.kind = 1
  · rw [if_pos (by rw [k1]; rfl), if_pos k1, ins_loc, asI_ok, if_pos n3, if_pos ⟨rfl, rfl⟩, ins_a, refValue_R hE.c92, qh_ok, c1_ok, asI_ok, if_pos ⟨rfl, rfl, rfl⟩, if_pos ⟨rfl, rfl⟩]
    rfl
  · rw [if_neg (by rw [beq_iff_eq]; exact k1), if_neg k1]
    by_cases k2 : i.kind = 2
    · rw [if_pos (by rw [k2]; rfl), if_pos k2, ins_loc, asI_ok, if_pos ⟨rfl, rfl, rfl⟩, if_pos ⟨rfl, rfl⟩]
      rfl
    · rw [if_neg (by rw [beq_iff_eq]; exact k2), if_neg k2]
      by_cases k4 : i.kind = 4
      · rw [if_pos (by rw [k4]; rfl), if_pos k4, if_pos n3, if_pos ⟨rfl, rfl⟩, ins_a, refValue_R hE.c92, c1_ok, asI_ok]
        by_cases hv : opV i.a l = v
        · rw [if_pos (by rw [hv]; exact beq_self_eq_true _), if_pos hv, ins_loc, asI_ok, if_pos n6, if_pos ⟨rfl, rfl⟩, ins_b, refValue_R hE.c92, qh_ok, c1_ok, asI_ok, if_pos ⟨rfl, rfl, rfl⟩, if_pos ⟨rfl, rfl⟩]
          rfl
        · rw [if_neg (by rw [beq_iff_eq]; exact fun e => hv e.symm), if_neg hv, ins_loc, asI_ok, if_pos ⟨rfl, rfl, rfl⟩, if_pos ⟨rfl, rfl⟩]
          rfl
      · rw [if_neg (by rw [beq_iff_eq]; exact k4), if_neg k4, if_pos ⟨rfl, rfl, rfl⟩, if_pos ⟨rfl, rfl⟩]
        rfl

/-- A row that can be cut, whatever is made behind it. -/
def SlOkE (h : AHeap) (esz : Nat) (x : Cell) : Prop := ∀ k N off len, x = .sl k N off len → ∀ h', Kp h.length h h' → okSl h' esz k N = true

theorem SlOk.e {h : AHeap} {x : Cell} (s : SlOk h x) (esz : Nat) : SlOkE h esz x := fun k N off len e h' hk => s k N off len e h' hk esz

theorem SlOkE.mono {h h' : AHeap} {esz : Nat} {x : Cell} (s : SlOkE h esz x) (hk : Kp h.length h h') : SlOkE h' esz x :=
  fun k N off len e h2 hk2 => s k N off len e h2 (hk.trans (hk2.mono hk.1))

theorem Own.okE {n : Nat} {h : AHeap} {x : Cell} {esz len : Nat} {cs : List Cell} (o : Own n h x esz cs len) : SlOkE h esz x := by
  intro k N off len' e h' hk
  rcases o.2 with ⟨rfl, _⟩ | ⟨k', rfl, _, hb⟩
  · cases e
  · cases e
    unfold okSl
    rw [hk.blk (blk_lt' hb), hb]; simp

/-- All but the first. -/
theorem SlAt.tail {α : Type} {h0 h : AHeap} {x : Cell} {esz len : Nat} {cs : List Cell} (s : SlAt h x esz cs (len + 1)) (hok : SlOkE h0 esz x) (hp : Kp h0.length h0 h) (hl : Low h0.length x) :
    ∃ x', (∀ f : Cell → Option α, sliceK h esz true false x [.v (.c (.int .i64 1))] f = f x') ∧ SlAt h x' esz (cs.drop esz) len ∧ Low h0.length x' ∧ SlOkE h0 esz x' := by
  have hlen : (cs.drop esz).length = len * esz := by rw [List.length_drop, s.1, Nat.succ_mul]; omega
  rcases s.2 with ⟨_, h0⟩ | ⟨k, N, off, rfl, hb⟩
  · omega
  · refine ⟨.sl k N (off + 1 * esz) (len + 1 - 1), fun f => ?_, ⟨hlen, .inr ⟨k, N, off + 1 * esz, rfl, ?_⟩⟩, ?_, ?_⟩
    · unfold sliceK
      simp only [hok k N off _ rfl h hp, if_true]
      unfold boundsK
      simp only
      rw [if_pos ⟨by omega, by omega⟩]
      rfl
    · rcases hb with h0 | ⟨b, hb, hN, hle, hat⟩
      · omega
      · rw [Nat.succ_mul] at hle hat
        refine .inr ⟨b, hb, hN, by omega, fun j hj => ?_⟩
        rw [List.getElem?_drop, ← hat (esz + j) (by omega)]
        congr 1; omega
    · rcases hl with h1 | h1
      · omega
      · exact .inr h1
    · intro k' N' off' len' hk'
      cases hk'
      exact hok k N off _ rfl

theorem intC_drop (k : IntKind) (l : List Int) (n : Nat) : (intC k l).drop n = intC k (l.drop n) := by simp [intC]

/-- No thread is long. -/
def PProg.small (P : PProg) : Prop := P.thr.length ≤ 1000 ∧ ∀ code ∈ P.thr, code.length ≤ 1000
theorem PProg.small.fits {P : PProg} (h : P.small) : P.fits := ⟨by have := h.1; omega, fun c hc => by have := h.2 c hc; omega⟩
theorem PProg.small.code {P : PProg} (h : P.small) (t : Int) : (P.code t).length ≤ 1000 := by
  unfold PProg.code
  split
  · rw [List.getD_eq_getElem?_getD]
    cases hq : P.thr[t.toNat]? with
    | none => show (0 : Nat) ≤ _; omega
    | some c => exact h.2 c (List.mem_of_getElem? hq)
  · show (0 : Nat) ≤ _; omega

theorem ev_put {t n : Int} {e : Evt} : (e.cs.set 0 (.int .i64 t)).set 1 (.int .i64 n) = ({ e with t := t, i := n } : Evt).cs := rfl
theorem ev_len16 (e : Evt) : e.cs.length = 1 * 6 := rfl
theorem ev_splice {e : Evt} : splice [Cell.int .i64 0, Cell.int .i64 0, Cell.int .i64 0, Cell.int .i64 0, Cell.int .i64 0, Cell.int .i64 0] 0 e.cs = e.cs := rfl

theorem Unfold_R (hE : event_Unfold_In E) {cs : List Cell} {P : PProg} {h : AHeap} (hsm : P.small) (p : ProgAt h cs P) (t : Int) {x : Cell} {rs : List Int} (hx : SlAt h x 1 (intC .i64 rs) rs.length) (hlx : Low h.length x) (hok : SlOkE h 1 x) :
    ∃ y h', R E 78 [.agg cs, .c (.int .i64 t), .c x] h = some ([.c y, .agg (unf (P.code t) t 1001 (startL P t) rs []).2.1.cs, .c (.bool (unf (P.code t) t 1001 (startL P t) rs []).2.2)], h') ∧
      Own h.length h' y 6 (evsC (unf (P.code t) t 1001 (startL P t) rs []).1) (unf (P.code t) t 1001 (startL P t) rs []).1.length ∧ Kp h.length h h' := by
  have hm : maxBytes ≥ 1001 * 48 := by unfold maxBytes; omega
  have hcode := hsm.code t
  have hfit := hsm.fits
  have loop : ∀ (k : Nat) (l : Lcl) (rs : List Int) (out : List Evt) (x y : Cell) (h1 : AHeap), 0 ≤ l.pc → (out.length : Int) ≤ l.pc → ((P.code t).length : Int) < l.pc + k → Kp h.length h h1 →
      SlAt h1 x 1 (intC .i64 rs) rs.length → Low h.length x → SlOkE h 1 x → Own h.length h1 y 6 (evsC out) out.length →
      ∃ y' h', (Lim (event_Unfold_F1 (R E) Lim E.glob) (event_Unfold_s1 t x y cs l.cs h1)).bind (fun p => event_Unfold_k2 (R E) Lim E.glob h p.1 p.2) = some ([.c y', .agg (unf (P.code t) t k l rs out).2.1.cs, .c (.bool (unf (P.code t) t k l rs out).2.2)], h') ∧
        Own h.length h' y' 6 (evsC (unf (P.code t) t k l rs out).1) (unf (P.code t) t k l rs out).1.length ∧ Kp h.length h h' := by
    intro k
    induction k with
    | zero =>
      intro l rs out x y h1 h0 h2 h3 hk hx hlx hok hy
      have hn : nextI (P.code t) l = none := by
        cases hq : nextI (P.code t) l with
        | none => rfl
        | some i => have := nextI_kind hq; omega
      refine ⟨y, h1, ?_, hy, hk⟩
      have hr : event_Unfold_F1 (R E) Lim E.glob (event_Unfold_s1 t x y cs l.cs h1) = some (.ret, event_Unfold_x1_0 y false l.cs h1) := by
        rw [event_Unfold_r1, if_pos ⟨rfl, p.len⟩, if_pos ⟨rfl, rfl⟩, PNext_R hE.c105 (p.keep hk), c2_ok, asA_ok, asB_ok, if_pos ⟨rfl, rfl, rfl⟩, hn, show (none : Option Ins).isSome = false from rfl, if_pos (show (!false) = true from rfl), if_pos ⟨rfl, rfl⟩, if_pos ⟨rfl, rfl, rfl⟩]
      rw [Lim_ret hr, bind_ok, event_Unfold_e1_0, if_pos ⟨rfl, rfl⟩]; rfl
    | succ k ih =>
      intro l rs out x y h1 h0 h2 h3 hk hx hlx hok hy
      rw [unf]
      cases hn : nextI (P.code t) l with
      | none =>
        refine ⟨y, h1, ?_, hy, hk⟩
        have hr : event_Unfold_F1 (R E) Lim E.glob (event_Unfold_s1 t x y cs l.cs h1) = some (.ret, event_Unfold_x1_0 y false l.cs h1) := by
          rw [event_Unfold_r1, if_pos ⟨rfl, p.len⟩, if_pos ⟨rfl, rfl⟩, PNext_R hE.c105 (p.keep hk), c2_ok, asA_ok, asB_ok, if_pos ⟨rfl, rfl, rfl⟩, hn, show (none : Option Ins).isSome = false from rfl, if_pos (show (!false) = true from rfl), if_pos ⟨rfl, rfl⟩, if_pos ⟨rfl, rfl, rfl⟩]
        rw [Lim_ret hr, bind_ok, event_Unfold_e1_0, if_pos ⟨rfl, rfl⟩]
      | some i =>
        have hnk := nextI_kind hn
        have hpc := fun v => afterL_pc hn v
        have hob : out.length < 1000 := by omega
        dsimp only
        cases rs with
        | nil =>
          have e0 : decide ((([] : List Int).length : Int) > 0) = false := rfl
          have e1 : ((([] : List Int).length : Int) == 0) = true := rfl
          by_cases hrd : rdI i = true
          · rw [if_pos hrd]
            refine ⟨y, h1, ?_, hy, hk⟩
            have hr : event_Unfold_F1 (R E) Lim E.glob (event_Unfold_s1 t x y cs l.cs h1) = some (.ret, event_Unfold_x1_0 y true l.cs h1) := by
              rw [event_Unfold_r1, if_pos ⟨rfl, p.len⟩, if_pos ⟨rfl, rfl⟩, PNext_R hE.c105 (p.keep hk), c2_ok, asA_ok, asB_ok, if_pos ⟨rfl, rfl, rfl⟩, hn, show (some i : Option Ins).isSome = true from rfl, if_neg (by simp), hx.len, e0, if_neg (by simp), if_pos ⟨rfl, rfl⟩, if_pos ⟨rfl, rfl⟩, show (some i : Option Ins).getD Ins.zero = i from rfl, evOf_prog hE.c109, c2_ok, asA_ok, asB_ok, if_pos ⟨rfl, rfl, rfl⟩, if_pos hrd, hx.len, if_pos e1, if_pos ⟨rfl, rfl⟩, if_pos ⟨rfl, rfl, rfl⟩]
            rw [Lim_ret hr, bind_ok, event_Unfold_e1_0, if_pos ⟨rfl, rfl⟩]
          · rw [if_neg hrd]
            obtain ⟨y2, h2', ha, hy2, hk2, _⟩ := hy.app (bytes := 48) (xs := ({ evOf i l 0 with t := t, i := out.length } : Evt).cs) hk.1 rfl (by omega) (by omega) (by omega)
            have hr : event_Unfold_F1 (R E) Lim E.glob (event_Unfold_s1 t x y cs l.cs h1) = some (.normal, event_Unfold_s1 t x y2 cs (afterL (P.code t) l 0).cs h2') := by
              rw [event_Unfold_r1, if_pos ⟨rfl, p.len⟩, if_pos ⟨rfl, rfl⟩, PNext_R hE.c105 (p.keep hk), c2_ok, asA_ok, asB_ok, if_pos ⟨rfl, rfl, rfl⟩, hn, show (some i : Option Ins).isSome = true from rfl, if_neg (by simp), hx.len, e0, if_neg (by simp), if_pos ⟨rfl, rfl⟩, if_pos ⟨rfl, rfl⟩, show (some i : Option Ins).getD Ins.zero = i from rfl, evOf_prog hE.c109, c2_ok, asA_ok, asB_ok, if_pos ⟨rfl, rfl, rfl⟩, if_neg hrd, hy.at.len, if_pos (by rw [Evt.len]; omega), if_pos (by rw [List.length_set, Evt.len]; omega), ev_put, if_pos ⟨rfl, rfl⟩, if_pos ⟨rfl, by simp⟩, ev_splice, if_pos (ev_len16 _), ha, if_pos ⟨rfl, p.len⟩, if_pos ⟨rfl, rfl⟩, PAfter_R hE.c106 hfit (p.keep (hk.trans hk2)), c1_ok, asA_ok, if_pos ⟨rfl, rfl, rfl⟩]
            rw [← evsC_snoc] at hy2
            obtain ⟨y3, h3', q1, q2, q3⟩ := ih (afterL (P.code t) l 0) [] (out ++ [{ evOf i l 0 with t := t, i := out.length }]) x y2 h2' (by have := hpc 0; omega) (by have := hpc 0; rw [List.length_append, List.length_singleton]; omega) (by have := hpc 0; omega) (hk.trans hk2) (hx.keep (n := h.length) hlx hk2) hlx hok (by rw [List.length_append, List.length_singleton]; exact hy2)
            refine ⟨y3, h3', ?_, q2, q3⟩
            cases hL : Lim (event_Unfold_F1 (R E) Lim E.glob) (event_Unfold_s1 t x y2 cs (afterL (P.code t) l 0).cs h2') with
            | none => rw [hL] at q1; cases q1
            | some w => rw [Lim_next hr hL]; rw [hL] at q1; exact q1
        | cons v rs =>
          have e0 : decide (((v :: rs).length : Int) > 0) = true := decide_eq_true (by rw [List.length_cons]; omega)
          have e1 : (((v :: rs).length : Int) == 0) = false := by rw [beq_eq_false_iff_ne, List.length_cons]; omega
          have g0 : ∀ {α : Type} (f : Cell → Option α), (idxSK 1 x 0 fun k N o => rdH h1 k N fun l => atK l o f) = f (.int .i64 v) := fun f => hx.get0 (by simp) rfl
          by_cases hrd : rdI i = true
          · rw [if_pos hrd]
            obtain ⟨x2, hs2, hx2, hlx2, hok2⟩ := SlAt.tail (α := Ex × St) (len := rs.length) (by rw [List.length_cons] at hx; exact hx) hok hk hlx
            have hx2' : SlAt h1 x2 1 (intC .i64 rs) rs.length := by rw [intC_drop] at hx2; exact hx2
            obtain ⟨y2, h2', ha, hy2, hk2, _⟩ := hy.app (bytes := 48) (xs := ({ evOf i l v with t := t, i := out.length } : Evt).cs) hk.1 rfl (by omega) (by omega) (by omega)
            have hr : event_Unfold_F1 (R E) Lim E.glob (event_Unfold_s1 t x y cs l.cs h1) = some (.normal, event_Unfold_s1 t x2 y2 cs (afterL (P.code t) l v).cs h2') := by
              rw [event_Unfold_r1, if_pos ⟨rfl, p.len⟩, if_pos ⟨rfl, rfl⟩, PNext_R hE.c105 (p.keep hk), c2_ok, asA_ok, asB_ok, if_pos ⟨rfl, rfl, rfl⟩, hn, show (some i : Option Ins).isSome = true from rfl, if_neg (by simp), hx.len, e0, if_pos rfl, g0, asI_ok, if_pos ⟨rfl, rfl⟩, if_pos ⟨rfl, rfl⟩, show (some i : Option Ins).getD Ins.zero = i from rfl, evOf_prog hE.c109, c2_ok, asA_ok, asB_ok, if_pos ⟨rfl, rfl, rfl⟩, if_pos hrd, hx.len, e1, if_neg (by simp), hs2, hy.at.len, if_pos (by rw [Evt.len]; omega), if_pos (by rw [List.length_set, Evt.len]; omega), ev_put, if_pos ⟨rfl, rfl⟩, if_pos ⟨rfl, by simp⟩, ev_splice, if_pos (ev_len16 _), ha, if_pos ⟨rfl, p.len⟩, if_pos ⟨rfl, rfl⟩, PAfter_R hE.c106 hfit (p.keep (hk.trans hk2)), c1_ok, asA_ok, if_pos ⟨rfl, rfl, rfl⟩]
            rw [← evsC_snoc] at hy2
            obtain ⟨y3, h3', q1, q2, q3⟩ := ih (afterL (P.code t) l v) rs (out ++ [{ evOf i l v with t := t, i := out.length }]) x2 y2 h2' (by have := hpc v; omega) (by have := hpc v; rw [List.length_append, List.length_singleton]; omega) (by have := hpc v; omega) (hk.trans hk2) (hx2'.keep (n := h.length) hlx2 hk2) hlx2 hok2 (by rw [List.length_append, List.length_singleton]; exact hy2)
            refine ⟨y3, h3', ?_, q2, q3⟩
            cases hL : Lim (event_Unfold_F1 (R E) Lim E.glob) (event_Unfold_s1 t x2 y2 cs (afterL (P.code t) l v).cs h2') with
            | none => rw [hL] at q1; cases q1
            | some w => rw [Lim_next hr hL]; rw [hL] at q1; exact q1
          · have hrd' : rdI i = false := by simpa using hrd
            rw [if_neg hrd]
            obtain ⟨y2, h2', ha, hy2, hk2, _⟩ := hy.app (bytes := 48) (xs := ({ evOf i l 0 with t := t, i := out.length } : Evt).cs) hk.1 rfl (by omega) (by omega) (by omega)
            have hr : event_Unfold_F1 (R E) Lim E.glob (event_Unfold_s1 t x y cs l.cs h1) = some (.normal, event_Unfold_s1 t x y2 cs (afterL (P.code t) l 0).cs h2') := by
              rw [event_Unfold_r1, if_pos ⟨rfl, p.len⟩, if_pos ⟨rfl, rfl⟩, PNext_R hE.c105 (p.keep hk), c2_ok, asA_ok, asB_ok, if_pos ⟨rfl, rfl, rfl⟩, hn, show (some i : Option Ins).isSome = true from rfl, if_neg (by simp), hx.len, e0, if_pos rfl, g0, asI_ok, if_pos ⟨rfl, rfl⟩, if_pos ⟨rfl, rfl⟩, show (some i : Option Ins).getD Ins.zero = i from rfl, evOf_prog hE.c109, evOf_novalue hrd' l v 0, c2_ok, asA_ok, asB_ok, if_pos ⟨rfl, rfl, rfl⟩, if_neg hrd, hy.at.len, if_pos (by rw [Evt.len]; omega), if_pos (by rw [List.length_set, Evt.len]; omega), ev_put, if_pos ⟨rfl, rfl⟩, if_pos ⟨rfl, by simp⟩, ev_splice, if_pos (ev_len16 _), ha, if_pos ⟨rfl, p.len⟩, if_pos ⟨rfl, rfl⟩, PAfter_R hE.c106 hfit (p.keep (hk.trans hk2)), afterL_novalue hn hrd' v 0, c1_ok, asA_ok, if_pos ⟨rfl, rfl, rfl⟩]
            rw [← evsC_snoc] at hy2
            obtain ⟨y3, h3', q1, q2, q3⟩ := ih (afterL (P.code t) l 0) (v :: rs) (out ++ [{ evOf i l 0 with t := t, i := out.length }]) x y2 h2' (by have := hpc 0; omega) (by have := hpc 0; rw [List.length_append, List.length_singleton]; omega) (by have := hpc 0; omega) (hk.trans hk2) (hx.keep (n := h.length) hlx hk2) hlx hok (by rw [List.length_append, List.length_singleton]; exact hy2)
            refine ⟨y3, h3', ?_, q2, q3⟩
            cases hL : Lim (event_Unfold_F1 (R E) Lim E.glob) (event_Unfold_s1 t x y2 cs (afterL (P.code t) l 0).cs h2') with
            | none => rw [hL] at q1; cases q1
            | some w => rw [Lim_next hr hL]; rw [hL] at q1; exact q1
  have hs0 : 0 ≤ (startL P t).pc := by have := normL_pc (P.code t) Lcl.zero; exact this
  obtain ⟨y', h', q1, q2, q3⟩ := loop 1001 (startL P t) rs [] x .nils h hs0 (by simpa using hs0) (by omega) (Kp.refl _ _) hx hlx hok (Own.nil _ _ _)
  refine ⟨y', h', R_intro hE.fn ?_, q2, q3⟩
  rw [event_Unfold_eq, if_pos ⟨rfl, p.len⟩, PStart_R hE.c94 hfit p, c1_ok, asA_ok, if_pos ⟨rfl, rfl, rfl⟩]
  exact q1

end
end Jq

namespace Jq
open Go

/- jacquard/jacquardlaw10.awake: 77 -/
set_option maxRecDepth 100000 in
theorem jacquardlaw10_awake_eq (C : CallF) (L : LoopF) (G : Glo)  (h0 : AHeap) :
    jacquardlaw10_awake.body C L G [] h0 =
    if (splice [Cell.int .u8 0] 0 ([(.int .u8 120)] : List Cell)).length = 1 * 1 then markK (.sl h0.length ((splice [Cell.int .u8 0] 0 ([(.int .u8 120)] : List Cell)).length) 0 1) (h0 ++ [some (Blk.mk true 1 (splice [Cell.int .u8 0] 0 ([(.int .u8 120)] : List Cell)))]) fun x_1 h_2 => if (splice [Cell.int .i64 0] 0 ([(.int .i64 4)] : List Cell)).length = 1 * 1 then if (splice (splice (List.replicate 9 (Cell.int .i64 0)) 0 ([(.int .i64 2)] : List Cell)) 1 ([(.int .i64 1)] : List Cell)).length = 9 ∧ 0 + 9 ≤ (List.replicate 9 (Cell.int .i64 0)).length then if (splice (List.replicate 9 (Cell.int .i64 0)) 0 (splice (splice (List.replicate 9 (Cell.int .i64 0)) 0 ([(.int .i64 2)] : List Cell)) 1 ([(.int .i64 1)] : List Cell))).length = 1 * 9 then if (splice [Cell.nils] 0 ([(.sl ((h_2 ++ [some (Blk.mk true 1 (splice [Cell.int .i64 0] 0 ([(.int .i64 4)] : List Cell)))]).length) ((splice (List.replicate 9 (Cell.int .i64 0)) 0 (splice (splice (List.replicate 9 (Cell.int .i64 0)) 0 ([(.int .i64 2)] : List Cell)) 1 ([(.int .i64 1)] : List Cell))).length) 0 1)] : List Cell)).length = 1 * 1 then if 0 = 0 ∧ [Cell.nils, Cell.nils, Cell.nils].length = 3 ∧ (splice (splice (splice [Cell.nils, Cell.nils, Cell.nils] 0 ([x_1] : List Cell)) 1 ([(.sl h_2.length ((splice [Cell.int .i64 0] 0 ([(.int .i64 4)] : List Cell)).length) 0 1)] : List Cell)) 2 ([(.sl (((h_2 ++ [some (Blk.mk true 1 (splice [Cell.int .i64 0] 0 ([(.int .i64 4)] : List Cell)))]) ++ [some (Blk.mk true 9 (splice (List.replicate 9 (Cell.int .i64 0)) 0 (splice (splice (List.replicate 9 (Cell.int .i64 0)) 0 ([(.int .i64 2)] : List Cell)) 1 ([(.int .i64 1)] : List Cell))))]).length) ((splice [Cell.nils] 0 ([(.sl ((h_2 ++ [some (Blk.mk true 1 (splice [Cell.int .i64 0] 0 ([(.int .i64 4)] : List Cell)))]).length) ((splice (List.replicate 9 (Cell.int .i64 0)) 0 (splice (splice (List.replicate 9 (Cell.int .i64 0)) 0 ([(.int .i64 2)] : List Cell)) 1 ([(.int .i64 1)] : List Cell))).length) 0 1)] : List Cell)).length) 0 1)] : List Cell)).length = 3 then if 0 = 0 ∧ (splice (splice (splice [Cell.nils, Cell.nils, Cell.nils] 0 ([x_1] : List Cell)) 1 ([(.sl h_2.length ((splice [Cell.int .i64 0] 0 ([(.int .i64 4)] : List Cell)).length) 0 1)] : List Cell)) 2 ([(.sl (((h_2 ++ [some (Blk.mk true 1 (splice [Cell.int .i64 0] 0 ([(.int .i64 4)] : List Cell)))]) ++ [some (Blk.mk true 9 (splice (List.replicate 9 (Cell.int .i64 0)) 0 (splice (splice (List.replicate 9 (Cell.int .i64 0)) 0 ([(.int .i64 2)] : List Cell)) 1 ([(.int .i64 1)] : List Cell))))]).length) ((splice [Cell.nils] 0 ([(.sl ((h_2 ++ [some (Blk.mk true 1 (splice [Cell.int .i64 0] 0 ([(.int .i64 4)] : List Cell)))]).length) ((splice (List.replicate 9 (Cell.int .i64 0)) 0 (splice (splice (List.replicate 9 (Cell.int .i64 0)) 0 ([(.int .i64 2)] : List Cell)) 1 ([(.int .i64 1)] : List Cell))).length) 0 1)] : List Cell)).length) 0 1)] : List Cell)).length = 3 then if (splice [Cell.int .i64 0] 0 ([(.int .i64 5)] : List Cell)).length = 1 * 1 then c3 (C 78 [(.agg (splice (splice (splice [Cell.nils, Cell.nils, Cell.nils] 0 ([x_1] : List Cell)) 1 ([(.sl h_2.length ((splice [Cell.int .i64 0] 0 ([(.int .i64 4)] : List Cell)).length) 0 1)] : List Cell)) 2 ([(.sl (((h_2 ++ [some (Blk.mk true 1 (splice [Cell.int .i64 0] 0 ([(.int .i64 4)] : List Cell)))]) ++ [some (Blk.mk true 9 (splice (List.replicate 9 (Cell.int .i64 0)) 0 (splice (splice (List.replicate 9 (Cell.int .i64 0)) 0 ([(.int .i64 2)] : List Cell)) 1 ([(.int .i64 1)] : List Cell))))]).length) ((splice [Cell.nils] 0 ([(.sl ((h_2 ++ [some (Blk.mk true 1 (splice [Cell.int .i64 0] 0 ([(.int .i64 4)] : List Cell)))]).length) ((splice (List.replicate 9 (Cell.int .i64 0)) 0 (splice (splice (List.replicate 9 (Cell.int .i64 0)) 0 ([(.int .i64 2)] : List Cell)) 1 ([(.int .i64 1)] : List Cell))).length) 0 1)] : List Cell)).length) 0 1)] : List Cell))), (.c (.int .i64 0)), (.c (.sl ((((h_2 ++ [some (Blk.mk true 1 (splice [Cell.int .i64 0] 0 ([(.int .i64 4)] : List Cell)))]) ++ [some (Blk.mk true 9 (splice (List.replicate 9 (Cell.int .i64 0)) 0 (splice (splice (List.replicate 9 (Cell.int .i64 0)) 0 ([(.int .i64 2)] : List Cell)) 1 ([(.int .i64 1)] : List Cell))))]) ++ [some (Blk.mk true 1 (splice [Cell.nils] 0 ([(.sl ((h_2 ++ [some (Blk.mk true 1 (splice [Cell.int .i64 0] 0 ([(.int .i64 4)] : List Cell)))]).length) ((splice (List.replicate 9 (Cell.int .i64 0)) 0 (splice (splice (List.replicate 9 (Cell.int .i64 0)) 0 ([(.int .i64 2)] : List Cell)) 1 ([(.int .i64 1)] : List Cell))).length) 0 1)] : List Cell)))]).length) ((splice [Cell.int .i64 0] 0 ([(.int .i64 5)] : List Cell)).length) 0 1))] ((((h_2 ++ [some (Blk.mk true 1 (splice [Cell.int .i64 0] 0 ([(.int .i64 4)] : List Cell)))]) ++ [some (Blk.mk true 9 (splice (List.replicate 9 (Cell.int .i64 0)) 0 (splice (splice (List.replicate 9 (Cell.int .i64 0)) 0 ([(.int .i64 2)] : List Cell)) 1 ([(.int .i64 1)] : List Cell))))]) ++ [some (Blk.mk true 1 (splice [Cell.nils] 0 ([(.sl ((h_2 ++ [some (Blk.mk true 1 (splice [Cell.int .i64 0] 0 ([(.int .i64 4)] : List Cell)))]).length) ((splice (List.replicate 9 (Cell.int .i64 0)) 0 (splice (splice (List.replicate 9 (Cell.int .i64 0)) 0 ([(.int .i64 2)] : List Cell)) 1 ([(.int .i64 1)] : List Cell))).length) 0 1)] : List Cell)))]) ++ [some (Blk.mk true 1 (splice [Cell.int .i64 0] 0 ([(.int .i64 5)] : List Cell)))])) fun y_4 y_5 y_6 h_3 => asC y_4 fun x_7 => asA y_5 fun l_8 => asB y_6 fun b_9 => if 0 = 0 ∧ [Cell.int .i64 0, Cell.int .i64 0, Cell.int .i64 0, Cell.int .i64 0, Cell.int .i64 0].length = 5 ∧ l_8.length = 5 then if 0 = 0 ∧ (splice (splice (splice [Cell.nils, Cell.nils, Cell.nils] 0 ([x_1] : List Cell)) 1 ([(.sl h_2.length ((splice [Cell.int .i64 0] 0 ([(.int .i64 4)] : List Cell)).length) 0 1)] : List Cell)) 2 ([(.sl (((h_2 ++ [some (Blk.mk true 1 (splice [Cell.int .i64 0] 0 ([(.int .i64 4)] : List Cell)))]) ++ [some (Blk.mk true 9 (splice (List.replicate 9 (Cell.int .i64 0)) 0 (splice (splice (List.replicate 9 (Cell.int .i64 0)) 0 ([(.int .i64 2)] : List Cell)) 1 ([(.int .i64 1)] : List Cell))))]).length) ((splice [Cell.nils] 0 ([(.sl ((h_2 ++ [some (Blk.mk true 1 (splice [Cell.int .i64 0] 0 ([(.int .i64 4)] : List Cell)))]).length) ((splice (List.replicate 9 (Cell.int .i64 0)) 0 (splice (splice (List.replicate 9 (Cell.int .i64 0)) 0 ([(.int .i64 2)] : List Cell)) 1 ([(.int .i64 1)] : List Cell))).length) 0 1)] : List Cell)).length) 0 1)] : List Cell)).length = 3 then c1 (C 88 [(.agg (splice (splice (splice [Cell.nils, Cell.nils, Cell.nils] 0 ([x_1] : List Cell)) 1 ([(.sl h_2.length ((splice [Cell.int .i64 0] 0 ([(.int .i64 4)] : List Cell)).length) 0 1)] : List Cell)) 2 ([(.sl (((h_2 ++ [some (Blk.mk true 1 (splice [Cell.int .i64 0] 0 ([(.int .i64 4)] : List Cell)))]) ++ [some (Blk.mk true 9 (splice (List.replicate 9 (Cell.int .i64 0)) 0 (splice (splice (List.replicate 9 (Cell.int .i64 0)) 0 ([(.int .i64 2)] : List Cell)) 1 ([(.int .i64 1)] : List Cell))))]).length) ((splice [Cell.nils] 0 ([(.sl ((h_2 ++ [some (Blk.mk true 1 (splice [Cell.int .i64 0] 0 ([(.int .i64 4)] : List Cell)))]).length) ((splice (List.replicate 9 (Cell.int .i64 0)) 0 (splice (splice (List.replicate 9 (Cell.int .i64 0)) 0 ([(.int .i64 2)] : List Cell)) 1 ([(.int .i64 1)] : List Cell))).length) 0 1)] : List Cell)).length) 0 1)] : List Cell)))] h_3) fun y_11 h_10 => asC y_11 fun x_12 => lenK x_7 fun n_13 => scK (n_13 == 1) true (idxSK 6 x_7 0 fun k_14 N_15 o_16 => rdH h_10 k_14 N_15 fun l_17 => if o_16 + 6 ≤ l_17.length then if alike ((l_17.drop o_16).take 6) ([Cell.int .i64 0, Cell.int .i64 0, Cell.int .i64 0, Cell.int .i64 0, Cell.int .i64 0, Cell.int .i64 0]) = true ∧ alike (splice (splice [Cell.int .i64 0, Cell.int .i64 0, Cell.int .i64 0, Cell.int .i64 0, Cell.int .i64 0, Cell.int .i64 0] 2 ([(.int .i64 1)] : List Cell)) 4 ([(.int .i64 5)] : List Cell)) ([Cell.int .i64 0, Cell.int .i64 0, Cell.int .i64 0, Cell.int .i64 0, Cell.int .i64 0, Cell.int .i64 0]) = true then some ((decide (((l_17.drop o_16).take 6) = (splice (splice [Cell.int .i64 0, Cell.int .i64 0, Cell.int .i64 0, Cell.int .i64 0, Cell.int .i64 0, Cell.int .i64 0] 2 ([(.int .i64 1)] : List Cell)) 4 ([(.int .i64 5)] : List Cell)))), h_10) else none else none) false h_10 fun b_18 h_19 => scK b_18 true (atK l_8 2 fun q_20 => asI .i64 (.c q_20) fun n_21 => some ((n_21 == 5), h_19)) false h_19 fun b_22 h_23 => scK b_22 true (some ((!b_9), h_23)) false h_23 fun b_24 h_25 => scK b_24 true (lenK x_12 fun n_26 => some ((n_26 == 1), h_25)) false h_25 fun b_27 h_28 => scK b_27 true (idxSK 6 x_12 0 fun k_29 N_30 o_31 => rdH h_28 k_29 N_30 fun l_32 => if o_31 + 6 ≤ l_32.length then if alike ((l_32.drop o_31).take 6) ([Cell.int .i64 0, Cell.int .i64 0, Cell.int .i64 0, Cell.int .i64 0, Cell.int .i64 0, Cell.int .i64 0]) = true ∧ alike (splice (splice (splice [Cell.int .i64 0, Cell.int .i64 0, Cell.int .i64 0, Cell.int .i64 0, Cell.int .i64 0, Cell.int .i64 0] 0 ([(.int .i64 (-1))] : List Cell)) 2 ([(.int .i64 2)] : List Cell)) 5 ([(.int .i64 4)] : List Cell)) ([Cell.int .i64 0, Cell.int .i64 0, Cell.int .i64 0, Cell.int .i64 0, Cell.int .i64 0, Cell.int .i64 0]) = true then some ((decide (((l_32.drop o_31).take 6) = (splice (splice (splice [Cell.int .i64 0, Cell.int .i64 0, Cell.int .i64 0, Cell.int .i64 0, Cell.int .i64 0, Cell.int .i64 0] 0 ([(.int .i64 (-1))] : List Cell)) 2 ([(.int .i64 2)] : List Cell)) 5 ([(.int .i64 4)] : List Cell)))), h_28) else none else none) false h_28 fun b_33 h_34 => finish true h0 [(.c (.bool b_33))] h_34 else none else none else none else none else none else none else none else none else none else none := by kernel_rfl

/- jacquard/jacquardlaw10.EventKinds: 212 -/
set_option maxRecDepth 100000 in
theorem jacquardlaw10_EventKinds_eq (C : CallF) (L : LoopF) (G : Glo) (a0 : Int) (h0 : AHeap) :
    jacquardlaw10_EventKinds.body C L G [(.c (.int .i64 a0))] h0 =
    if 0 = 0 ∧ [Cell.int .i64 0, Cell.int .i64 0, Cell.int .i64 0, Cell.int .i64 0, Cell.int .i64 0, Cell.int .i64 0].length = 6 ∧ (splice [Cell.int .i64 0, Cell.int .i64 0, Cell.int .i64 0, Cell.int .i64 0, Cell.int .i64 0, Cell.int .i64 0] 2 ([(.int .i64 a0)] : List Cell)).length = 6 then if 0 = 0 ∧ (splice [Cell.int .i64 0, Cell.int .i64 0, Cell.int .i64 0, Cell.int .i64 0, Cell.int .i64 0, Cell.int .i64 0] 2 ([(.int .i64 a0)] : List Cell)).length = 6 then c1 (qh h0 (C 79 [(.agg (splice [Cell.int .i64 0, Cell.int .i64 0, Cell.int .i64 0, Cell.int .i64 0, Cell.int .i64 0, Cell.int .i64 0] 2 ([(.int .i64 a0)] : List Cell)))] h0)) fun y_2 h_1 => asB y_2 fun b_3 => if 0 = 0 ∧ (splice [Cell.int .i64 0, Cell.int .i64 0, Cell.int .i64 0, Cell.int .i64 0, Cell.int .i64 0, Cell.int .i64 0] 2 ([(.int .i64 a0)] : List Cell)).length = 6 then c1 (qh h0 (C 80 [(.agg (splice [Cell.int .i64 0, Cell.int .i64 0, Cell.int .i64 0, Cell.int .i64 0, Cell.int .i64 0, Cell.int .i64 0] 2 ([(.int .i64 a0)] : List Cell)))] h0)) fun y_5 h_4 => asB y_5 fun b_6 => if 0 = 0 ∧ (splice [Cell.int .i64 0, Cell.int .i64 0, Cell.int .i64 0, Cell.int .i64 0, Cell.int .i64 0, Cell.int .i64 0] 2 ([(.int .i64 a0)] : List Cell)).length = 6 then c1 (qh h0 (C 82 [(.agg (splice [Cell.int .i64 0, Cell.int .i64 0, Cell.int .i64 0, Cell.int .i64 0, Cell.int .i64 0, Cell.int .i64 0] 2 ([(.int .i64 a0)] : List Cell)))] h0)) fun y_8 h_7 => asB y_8 fun b_9 => scK (a0 == 1) false (some ((a0 == 4), h0)) true h0 fun b_10 h_11 => scK b_10 false (some ((a0 == 5), h_11)) true h_11 fun b_12 h_13 => scK (b_3 == b_12) true (scK (a0 == 2) false (some ((a0 == 4), h_13)) true h_13 fun b_14 h_15 => some ((b_6 == b_14), h_15)) false h_13 fun b_16 h_17 => scK b_16 true (scK (a0 == 3) false (some ((a0 == 4), h_17)) true h_17 fun b_18 h_19 => scK b_18 false (some ((a0 == 5), h_19)) true h_19 fun b_20 h_21 => some ((b_9 == b_20), h_21)) false h_17 fun b_22 h_23 => scK b_22 true (c1 (C 77 [] h_23) fun y_25 h_24 => asB y_25 fun b_26 => some (b_26, h_24)) false h_23 fun b_27 h_28 => some ([(.c (.bool b_27))], h_28) else none else none else none else none := by kernel_rfl

/- jacquard/jacquardlaw10.EventOrders: 214 -/
set_option maxRecDepth 100000 in
theorem jacquardlaw10_EventOrders_eq (C : CallF) (L : LoopF) (G : Glo) (x0 : Cell) (h0 : AHeap) :
    jacquardlaw10_EventOrders.body C L G [(.c x0)] h0 =
    lenK x0 fun n_1 => if (decide (n_1 > 80)) = true then c1 (C 77 [] h0) fun y_3 h_2 => asB y_3 fun b_4 => some ([(.c (.bool b_4))], h_2) else lenK x0 fun n_5 => if (decide (n_5 > 64)) = true then c1 (C 90 [(.c x0)] h0) fun y_7 h_6 => asA y_7 fun l_8 => c1 (C 14 [(.agg l_8)] h_6) fun y_10 h_9 => asI .i64 y_10 fun n_11 => scK (n_11 == 0) true (c1 (C 77 [] h_9) fun y_13 h_12 => asB y_13 fun b_14 => some (b_14, h_12)) false h_9 fun b_15 h_16 => some ([(.c (.bool b_15))], h_16) else c1 (C 90 [(.c x0)] h0) fun y_18 h_17 => asA y_18 fun l_19 => c1 (C 91 [(.c x0)] h_17) fun y_21 h_20 => asA y_21 fun l_22 => c1 (C 69 [(.agg l_19), (.agg l_22)] h_20) fun y_24 h_23 => asB y_24 fun b_25 => scK b_25 true (c1 (C 84 [(.c x0), (.c x0)] h_23) fun y_27 h_26 => asB y_27 fun b_28 => some (b_28, h_26)) false h_23 fun b_29 h_30 => scK b_29 true (c1 (C 77 [] h_30) fun y_32 h_31 => asB y_32 fun b_33 => some (b_33, h_31)) false h_30 fun b_34 h_35 => some ([(.c (.bool b_34))], h_35) := by kernel_rfl


end Jq

namespace Jq
open Go

/- slices.Equal(()jacquard/api.Ev,jacquard/api.Ev): 112 -/
def slices_Equal_sEv_Ev_k2 (C : CallF) (L : LoopF) (G : Glo) (h0 : AHeap) : Ex → St → Option (List AV × AHeap) :=
  kSeq (fun st => slices_Equal_sEv_Ev_p1.exec C L G st (slices_Equal_sEv_Ev.fin G h0)) (slices_Equal_sEv_Ev.fin G h0)
def slices_Equal_sEv_Ev_k3 (C : CallF) (L : LoopF) (G : Glo) (h0 : AHeap) : Ex → St → Option (List AV × AHeap) :=
  kBlk 0 (slices_Equal_sEv_Ev_k2 C L G h0)
def slices_Equal_sEv_Ev_s1 (x0 : Cell) (x1 : Cell) (a12 : Int) (a13 : Int) (h : AHeap) : St := ⟨[.v (.c x0), .v (.c x1), .top, .top, .top, .top, .top, .top, .top, .top, .top, .top, .v (.c (.int .i64 a12)), .v (.c (.int .i64 a13)), .top, .top, .top, .top, .top, .top, .top, .top, .top, .top, .top, .top], [], h⟩
def slices_Equal_sEv_Ev_F1 (C : CallF) (L : LoopF) (G : Glo) : St → Option (Ex × St) :=
  roundF (fun st f => slices_Equal_sEv_Ev_b1.exec C L G st f) [0, 1, 12, 13] [] [(0, [4], []), (1, [], [])]
def slices_Equal_sEv_Ev_x1_0 (b4 : Bool) (h : AHeap) : St := ⟨[.top, .top, .top, .top, .v (.c (.bool b4)), .top, .top, .top, .top, .top, .top, .top, .top, .top, .top, .top, .top, .top, .top, .top, .top, .top, .top, .top, .top, .top], [], h⟩
def slices_Equal_sEv_Ev_x1_1 (h : AHeap) : St := ⟨[.top, .top, .top, .top, .top, .top, .top, .top, .top, .top, .top, .top, .top, .top, .top, .top, .top, .top, .top, .top, .top, .top, .top, .top, .top, .top], [], h⟩
theorem slices_Equal_sEv_Ev_r1 (C : CallF) (L : LoopF) (G : Glo) (x0 : Cell) (x1 : Cell) (a12 : Int) (a13 : Int) (h : AHeap) :
    slices_Equal_sEv_Ev_F1 C L G (slices_Equal_sEv_Ev_s1 x0 x1 a12 a13 h) =
    if (decide (a13 < a12)) = true then idxSK 6 x0 a13 fun k_4 N_5 o_6 => rdH h k_4 N_5 fun l_7 => if o_6 + 6 ≤ l_7.length then idxSK 6 x1 a13 fun k_8 N_9 o_10 => rdH h k_8 N_9 fun l_11 => if o_10 + 6 ≤ l_11.length then if alike ((l_7.drop o_6).take 6) ([Cell.int .i64 0, Cell.int .i64 0, Cell.int .i64 0, Cell.int .i64 0, Cell.int .i64 0, Cell.int .i64 0]) = true ∧ alike ((l_11.drop o_10).take 6) ([Cell.int .i64 0, Cell.int .i64 0, Cell.int .i64 0, Cell.int .i64 0, Cell.int .i64 0, Cell.int .i64 0]) = true then if (!(decide (((l_7.drop o_6).take 6) = ((l_11.drop o_10).take 6)))) = true then some (.ret, (slices_Equal_sEv_Ev_x1_0 false h)) else some (.normal, (slices_Equal_sEv_Ev_s1 x0 x1 a12 (G.wrap .i64 (a13 + 1)) h)) else none else none else none else some ((.exit 0), (slices_Equal_sEv_Ev_x1_1 h)) := by kernel_rfl
theorem slices_Equal_sEv_Ev_e1_0 (C : CallF) (L : LoopF) (G : Glo) (h0 : AHeap) (b4 : Bool) (h : AHeap) :
    (slices_Equal_sEv_Ev_k3 C L G h0) .ret (slices_Equal_sEv_Ev_x1_0 b4 h) =
    some ([(.c (.bool b4))], h) := by kernel_rfl
theorem slices_Equal_sEv_Ev_e1_1 (C : CallF) (L : LoopF) (G : Glo) (h0 : AHeap) (h : AHeap) :
    (slices_Equal_sEv_Ev_k3 C L G h0) (.exit 0) (slices_Equal_sEv_Ev_x1_1 h) =
    some ([(.c (.bool true))], h) := by kernel_rfl
set_option maxRecDepth 100000 in
theorem slices_Equal_sEv_Ev_eq (C : CallF) (L : LoopF) (G : Glo) (x0 : Cell) (x1 : Cell) (h0 : AHeap) :
    slices_Equal_sEv_Ev.body C L G [(.c x0), (.c x1)] h0 =
    lenK x0 fun n_1 => lenK x1 fun n_2 => if (n_1 != n_2) = true then some ([(.c (.bool false))], h0) else lenK x0 fun n_3 => (L (slices_Equal_sEv_Ev_F1 C L G) (slices_Equal_sEv_Ev_s1 x0 x1 n_3 0 h0)).bind fun p_12 => (slices_Equal_sEv_Ev_k3 C L G h0) p_12.1 p_12.2 := by kernel_rfl


end Jq

/- Events: those at the beginning; their order; whether two rows are the same; laws of them. -/
namespace Jq
open Go

def initsE (l : List Int) : List Evt := (List.range l.length).map fun (i : Nat) => ⟨-1, i, 2, i, 0, l.getD i 0⟩

theorem initsE_len (l : List Int) : (initsE l).length = l.length := by simp [initsE]
theorem initsE_get {l : List Int} {i : Nat} (hi : i < l.length) : (initsE l)[i]? = some ⟨-1, i, 2, i, 0, l.getD i 0⟩ := by
  unfold initsE; rw [List.getElem?_map, List.getElem?_range hi]; rfl

theorem getDI {l : List Int} {i : Nat} (hi : i < l.length) : l[i]? = some (l.getD i 0) := by
  rw [List.getD_eq_getElem?_getD, List.getElem?_eq_getElem hi]; rfl

theorem takeI_succ {α : Type} {l : List α} {i : Nat} {p : α} (h : l[i]? = some p) : l.take (i + 1) = l.take i ++ [p] := by
  rw [List.take_add_one, h]; rfl

def shEv : Sh := .agg (Sh.rep (.i .i64) 6)
theorem ev_of {h : AHeap} {c : List Cell} (o : okC h shEv c) : ∃ s : Evt, c = s.cs := by
  obtain ⟨x0, y0, rfl, ⟨a0, rfl, _⟩, x1, y1, rfl, ⟨a1, rfl, _⟩, x2, y2, rfl, ⟨a2, rfl, _⟩, x3, y3, rfl, ⟨a3, rfl, _⟩, x4, y4, rfl, ⟨a4, rfl, _⟩, x5, y5, rfl, ⟨a5, rfl, _⟩, h7⟩ := o
  have : y5 = [] := h7
  subst this
  exact ⟨⟨a0, a1, a2, a3, a4, a5⟩, rfl⟩
theorem okL_evs {h : AHeap} : ∀ (len : Nat) (xs : List Cell), okL (okC h shEv) len xs → ∃ l : List Evt, xs = evsC l ∧ l.length = len
  | 0, xs, h => ⟨[], h, rfl⟩
  | len + 1, xs, ⟨x, y, h1, hx, hy⟩ => by
    obtain ⟨l, h2, h3⟩ := okL_evs len y hy
    obtain ⟨s, rfl⟩ := ev_of hx
    exact ⟨s :: l, by rw [h1, h2]; rfl, by simp [h3]⟩
theorem arg_evs {h : AHeap} {cs : List Cell} (o : okC h (.sl shEv) cs) : ∃ x l, av1 (.sl shEv) cs = .c x ∧ SlAt h x 6 (evsC l) l.length ∧ Low h.length x ∧ l.length ≤ maxLen := by
  obtain ⟨x, xs, len, h1, h2, hm, h3, h4⟩ := arg_row o
  obtain ⟨l, rfl, rfl⟩ := okL_evs len xs h2
  exact ⟨x, l, h1, h3, h4, hm⟩

section
variable {E : Env}

theorem ProgAt.initG {h : AHeap} {cs : List Cell} {P : PProg} (p : ProgAt h cs P) : ∃ b, SlAt h b 1 (intC .i64 P.init) P.init.length ∧ Low h.length b ∧ ∀ {α : Type} (f : Cell → Option α), atK cs 1 f = f b := by
  obtain ⟨a, b, c, ts, rfl, _, ⟨hb, hbl⟩, _⟩ := p
  exact ⟨b, hb, hbl, fun _ => rfl⟩
theorem ProgAt.locsG {h : AHeap} {cs : List Cell} {P : PProg} (p : ProgAt h cs P) : ∃ b, SlAt h b 1 (intC .u8 P.locs) P.locs.length ∧ Low h.length b ∧ ∀ {α : Type} (f : Cell → Option α), atK cs 0 f = f b := by
  obtain ⟨a, b, c, ts, rfl, ⟨hb, hbl⟩, _⟩ := p
  exact ⟨a, hb, hbl, fun _ => rfl⟩

theorem ev_init {i v : Int} : splice (splice (splice (splice (splice [Cell.int .i64 0, Cell.int .i64 0, Cell.int .i64 0, Cell.int .i64 0, Cell.int .i64 0, Cell.int .i64 0] 0 ([(.int .i64 (-1))] : List Cell)) 1 ([(.int .i64 i)] : List Cell)) 2 ([(.int .i64 2)] : List Cell)) 3 ([(.int .i64 i)] : List Cell)) 5 ([(.int .i64 v)] : List Cell) = (Evt.mk (-1) i 2 i 0 v).cs := rfl

theorem Inits_R (hE : event_Inits_In E) {cs : List Cell} {P : PProg} {h : AHeap} (p : ProgAt h cs P) (hl : P.init.length ≤ 1000) :
    ∃ y h', R E 88 [.agg cs] h = some ([.c y], h') ∧ Own h.length h' y 6 (evsC (initsE P.init)) P.init.length ∧ Kp h.length h h' := by
  obtain ⟨b, hb, hbl, hB⟩ := p.initG
  have hm : maxBytes ≥ 1001 * 48 := by unfold maxBytes; omega
  obtain ⟨st, ⟨y, h1, rfl, hy, hk⟩, hL⟩ := Lim_inv (F := event_Inits_F1 (R E) Lim E.glob) (fun i st => ∃ y h1, st = event_Inits_s1 y b P.init.length (i : Int) h1 ∧ Own h.length h1 y 6 (evsC ((initsE P.init).take i)) i ∧ Kp h.length h h1) 0 P.init.length (by omega)
    (fun i st _ hi => by
      rintro ⟨y, h1, rfl, hy, hk⟩
      obtain ⟨y2, h2, ha, hy2, hk2, _⟩ := hy.app (bytes := 48) (xs := (Evt.mk (-1) i 2 i 0 (P.init.getD i 0)).cs) hk.1 rfl (by omega) (by omega) (by omega)
      refine ⟨_, ?_, y2, h2, rfl, ?_, hk.trans hk2⟩
      · rw [event_Inits_r1, if_pos (by simp; omega), (hb.keep hbl hk).get1 hi (intC_get (getDI hi)), asI_ok, ev_init, if_pos ⟨rfl, by simp⟩, ev_splice, if_pos (ev_len16 _), ha, g_succ (by omega)]
      · rw [takeI_succ (initsE_get hi), evsC_snoc]; exact hy2) (st := event_Inits_s1 .nils b P.init.length ((0 : Nat) : Int) h) ⟨.nils, h, rfl, by rw [List.take_zero]; exact Own.nil _ _ _, Kp.refl _ _⟩
  have hfin : event_Inits_F1 (R E) Lim E.glob (event_Inits_s1 y b P.init.length (P.init.length : Int) h1) = some (.exit 0, event_Inits_x1_1 y h1) := by
    rw [event_Inits_r1, if_neg (by simp)]
  have hr := hL _ (Lim_exit hfin)
  refine ⟨y, h1, R_intro hE.fn ?_, ?_, hk⟩
  · rw [event_Inits_eq, hB, hb.len, show (0 : Int) = ((0 : Nat) : Int) from rfl, hr, bind_ok, event_Inits_e1_1]
  · rw [List.take_of_length_le (by rw [initsE_len]; exact Nat.le_refl _)] at hy; exact hy

theorem refInits_R (hE : jacquardref6_Inits_In E) {cs : List Cell} {P : PProg} {h : AHeap} (p : ProgAt h cs P) (hl : P.init.length ≤ 1000) (hll : P.locs.length = P.init.length) :
    ∃ y h', R E 89 [.agg cs] h = some ([.c y], h') ∧ Own h.length h' y 6 (evsC (initsE P.init)) P.init.length ∧ Kp h.length h h' := by
  obtain ⟨b, hb, hbl, hB⟩ := p.initG
  obtain ⟨a, ha, hal, hA⟩ := p.locsG
  have hm : maxBytes ≥ 1001 * 48 := by unfold maxBytes; omega
  obtain ⟨st, ⟨y, h1, rfl, hy, hk⟩, hL⟩ := Lim_inv (F := jacquardref6_Inits_F1 (R E) Lim E.glob) (fun i st => ∃ y h1, st = jacquardref6_Inits_s1 y (i : Int) cs h1 ∧ Own h.length h1 y 6 (evsC ((initsE P.init).take i)) i ∧ Kp h.length h h1) 0 P.init.length (by omega)
    (fun i st _ hi => by
      rintro ⟨y, h1, rfl, hy, hk⟩
      obtain ⟨y2, h2, hap, hy2, hk2, _⟩ := hy.app (bytes := 48) (xs := (Evt.mk (-1) i 2 i 0 (P.init.getD i 0)).cs) hk.1 rfl (by omega) (by omega) (by omega)
      refine ⟨_, ?_, y2, h2, rfl, ?_, hk.trans hk2⟩
      · rw [jacquardref6_Inits_r1, hA, ha.len, if_pos (by simp; omega), hB, (hb.keep hbl hk).get1 hi (intC_get (getDI hi)), asI_ok, ev_init, if_pos ⟨rfl, by simp⟩, ev_splice, if_pos (ev_len16 _), hap, g_succ (by omega)]
      · rw [takeI_succ (initsE_get hi), evsC_snoc]; exact hy2) (st := jacquardref6_Inits_s1 .nils ((0 : Nat) : Int) cs h) ⟨.nils, h, rfl, by rw [List.take_zero]; exact Own.nil _ _ _, Kp.refl _ _⟩
  have hfin : jacquardref6_Inits_F1 (R E) Lim E.glob (jacquardref6_Inits_s1 y (P.init.length : Int) cs h1) = some (.exit 0, jacquardref6_Inits_x1_1 y h1) := by
    rw [jacquardref6_Inits_r1, hA, ha.len, if_neg (by simp; omega)]
  have hr := hL _ (Lim_exit hfin)
  refine ⟨y, h1, R_intro hE.fn ?_, ?_, hk⟩
  · rw [jacquardref6_Inits_eq, show (0 : Int) = ((0 : Nat) : Int) from rfl, hr, bind_ok, jacquardref6_Inits_e1_1]
  · rw [List.take_of_length_le (by rw [initsE_len]; exact Nat.le_refl _)] at hy; exact hy

theorem alike_ev (e : Evt) : alike e.cs [Cell.int .i64 0, Cell.int .i64 0, Cell.int .i64 0, Cell.int .i64 0, Cell.int .i64 0, Cell.int .i64 0] = true := rfl

theorem rdE_eq {k : Int} {e : Evt} (h : e.kind = k) {α : Type} {f : Cell → Option α} : atK e.cs 2 f = f (.int .i64 k) := by subst h; rfl

def evRd (e : Evt) : Bool := e.kind == 1 || e.kind == 4 || e.kind == 5
def evWr (e : Evt) : Bool := e.kind == 2 || e.kind == 4
def evFn (e : Evt) : Bool := e.kind == 3 || e.kind == 4 || e.kind == 5

theorem evReads_R (hE : event_Reads_In E) (e : Evt) (h : AHeap) : R E 79 [.agg e.cs] h = some ([.c (.bool (evRd e))], h) := by
  refine R_intro hE.fn ?_
  rw [event_Reads_eq]
  simp only [rdE_eq (e := e) rfl, asI_ok, scK_or]; rfl
theorem evWrites_R (hE : event_Writes_In E) (e : Evt) (h : AHeap) : R E 80 [.agg e.cs] h = some ([.c (.bool (evWr e))], h) := by
  refine R_intro hE.fn ?_
  rw [event_Writes_eq]
  simp only [rdE_eq (e := e) rfl, asI_ok, scK_or]; rfl
theorem evFences_R (hE : event_Fences_In E) (e : Evt) (h : AHeap) : R E 82 [.agg e.cs] h = some ([.c (.bool (evFn e))], h) := by
  refine R_intro hE.fn ?_
  rw [event_Fences_eq]
  simp only [rdE_eq (e := e) rfl, asI_ok, scK_or]; rfl
theorem refReads_R (hE : jacquardref6_Reads_In E) (e : Evt) (h : AHeap) : R E 85 [.agg e.cs] h = some ([.c (.bool (evRd e))], h) := by
  refine R_intro hE.fn ?_
  rw [jacquardref6_Reads_eq]
  simp only [rdE_eq (e := e) rfl, asI_ok, scK_or]; rfl
theorem refWritesE_R (hE : jacquardref6_Writes_In E) (e : Evt) (h : AHeap) : R E 86 [.agg e.cs] h = some ([.c (.bool (evWr e))], h) := by
  refine R_intro hE.fn ?_
  rw [jacquardref6_Writes_eq]
  simp only [rdE_eq (e := e) rfl, asI_ok, scK_or]; rfl
theorem refFences_R (hE : jacquardref6_Fences_In E) (e : Evt) (h : AHeap) : R E 87 [.agg e.cs] h = some ([.c (.bool (evFn e))], h) := by
  refine R_intro hE.fn ?_
  rw [jacquardref6_Fences_eq]
  simp only [rdE_eq (e := e) rfl, asI_ok, scK_or]; rfl

theorem ev_inj {a b : Evt} : a.cs = b.cs ↔ a = b := by
  constructor
  · intro h
    simp only [Evt.cs, List.cons.injEq, Cell.int.injEq, true_and, and_true] at h
    obtain ⟨t, i, k, l, r, w⟩ := a
    obtain ⟨t', i', k', l', r', w'⟩ := b
    simp only at h
    obtain ⟨rfl, rfl, rfl, rfl, rfl, rfl⟩ := h
    rfl
  · rintro rfl; rfl

/-- The same rows are told to be. -/
theorem EqualEv_R (hE : slices_Equal_sEv_Ev_In E) {x y : Cell} {l : List Evt} {h : AHeap} (hx : SlAt h x 6 (evsC l) l.length) (hy : SlAt h y 6 (evsC l) l.length) (hl : l.length < 9223372036854775807) :
    R E 112 [.c x, .c y] h = some ([.c (.bool true)], h) := by
  refine R_intro hE.fn ?_
  have loop : Lim (slices_Equal_sEv_Ev_F1 (R E) Lim E.glob) (slices_Equal_sEv_Ev_s1 x y l.length ((0 : Nat) : Int) h) = some (.exit 0, slices_Equal_sEv_Ev_x1_1 h) := by
    refine Lim_count (fun i => slices_Equal_sEv_Ev_s1 x y l.length (i : Int) h) 0 l.length (by omega) (fun i _ hi => ?_) (Lim_exit ?_)
    · have hq : l[i]? = some l[i] := List.getElem?_eq_getElem hi
      generalize l[i] = e at hq
      obtain ⟨o1, c1, g1, h1, e1⟩ := hx.evG hq
      obtain ⟨o2, c2, g2, h2, e2⟩ := hy.evG hq
      rw [slices_Equal_sEv_Ev_r1, if_pos (by simp; omega), g1, if_pos h1, g2, if_pos h2, e1, e2, if_pos ⟨alike_ev e, alike_ev e⟩, show (!(decide (e.cs = e.cs))) = false by simp, if_neg (by simp), g_succ (by omega)]
    · rw [slices_Equal_sEv_Ev_r1, if_neg (by simp)]
  rw [show ((0 : Nat) : Int) = 0 from rfl] at loop
  rw [slices_Equal_sEv_Ev_eq, hx.len, hy.len, bne_self_eq_false, if_neg (by simp), hx.len, loop, bind_ok, slices_Equal_sEv_Ev_e1_1]

theorem SameEv_R (hE : event_Same_In E) {x y : Cell} {l : List Evt} {h : AHeap} (hx : SlAt h x 6 (evsC l) l.length) (hy : SlAt h y 6 (evsC l) l.length) (hl : l.length < 9223372036854775807) :
    R E 84 [.c x, .c y] h = some ([.c (.bool true)], h) := by
  refine R_intro hE.fn ?_
  rw [event_Same_eq, EqualEv_R hE.c112 hx hy hl, c1_ok, asB_ok]

/-- Is one ahead of another by their threads? -/
def poB (a b : Evt) : Bool := (decide (a.t < 0) && decide (b.t ≥ 0)) || (decide (a.t ≥ 0) && a.t == b.t && decide (a.i < b.i))
def poL (l : List Evt) (a b : Nat) : Bool := poB (l.getD a ⟨0, 0, 0, 0, 0, 0⟩) (l.getD b ⟨0, 0, 0, 0, 0, 0⟩)

theorem ev_t {α : Type} {e : Evt} {f : Cell → Option α} : atK e.cs 0 f = f (.int .i64 e.t) := rfl
theorem ev_i {α : Type} {e : Evt} {f : Cell → Option α} : atK e.cs 1 f = f (.int .i64 e.i) := rfl
theorem getDE {l : List Evt} {i : Nat} (hi : i < l.length) : l[i]? = some (l.getD i ⟨0, 0, 0, 0, 0, 0⟩) := by
  rw [List.getD_eq_getElem?_getD, List.getElem?_eq_getElem hi]; rfl

end
end Jq

/- Laws of events: kinds, orders. -/
namespace Jq
open Go

theorem poL_at {l : List Evt} {i k : Nat} {q e : Evt} (hq : l[i]? = some q) (he : l[k]? = some e) : poL l i k = poB q e := by
  unfold poL
  rw [List.getD_eq_getElem?_getD, List.getD_eq_getElem?_getD, hq, he]; rfl

theorem upto_succ (i k a b : Nat) : upto i (k + 1) a b = (upto i k a b || (decide (a = i) && decide (b = k))) := by
  unfold upto; rw [Bool.eq_iff_iff]; simp; omega

theorem acc_yes {l : List Evt} (hl : l.length ≤ 64) {i k : Nat} (hi : i < l.length) (hk : k < l.length) (hp : poL l i k = true) :
    relL l.length (addR l.length (ACC l.length fun a b => upto i k a b && poL l a b) (i : Int) (k : Int)) = relL l.length (ACC l.length fun a b => upto i (k + 1) a b && poL l a b) := by
  refine ACC_add hl hi hk fun a b _ _ => ?_
  rw [upto_succ]
  by_cases hab : a = i ∧ b = k
  · obtain ⟨rfl, rfl⟩ := hab
    simp [hp]
  · have : (decide (a = i) && decide (b = k)) = false := by rw [Bool.and_eq_false_iff]; simp; omega
    rw [this]; simp

theorem acc_no {l : List Evt} (hl : l.length ≤ 64) {i k : Nat} (hp : poL l i k = false) :
    relL l.length (ACC l.length fun a b => upto i k a b && poL l a b) = relL l.length (ACC l.length fun a b => upto i (k + 1) a b && poL l a b) := by
  refine ACC_eq hl fun a b _ _ => ?_
  rw [upto_succ]
  by_cases hab : a = i ∧ b = k
  · obtain ⟨rfl, rfl⟩ := hab
    simp [hp]
  · have : (decide (a = i) && decide (b = k)) = false := by rw [Bool.and_eq_false_iff]; simp; omega
    rw [this]; simp

theorem acc_row {l : List Evt} (hl : l.length ≤ 64) (i : Nat) :
    relL l.length (ACC l.length fun a b => upto i l.length a b && poL l a b) = relL l.length (ACC l.length fun a b => upto (i + 1) 0 a b && poL l a b) := by
  refine ACC_eq hl fun a b _ hb => ?_
  have : upto i l.length a b = upto (i + 1) 0 a b := by unfold upto; rw [Bool.eq_iff_iff]; simp; omega
  rw [this]

theorem acc_all {l : List Evt} (hl : l.length ≤ 64) : relL l.length (ACC l.length fun a b => upto l.length 0 a b && poL l a b) = relL l.length (ACC l.length (poL l)) := by
  refine ACC_eq hl fun a b ha _ => ?_
  have : upto l.length 0 a b = true := by unfold upto; simp; omega
  rw [this, Bool.true_and]

theorem acc_nought {l : List Evt} (hl : l.length ≤ 64) : relL l.length (ACC l.length fun a b => upto 0 0 a b && poL l a b) = relL l.length fun _ => 0 := by
  refine ACC_none hl fun a b _ _ => ?_
  have : upto 0 0 a b = false := by unfold upto; simp
  rw [this]; rfl

section
variable {E : Env}

theorem splice_ev2 {k : Int} : splice [Cell.int .i64 0, Cell.int .i64 0, Cell.int .i64 0, Cell.int .i64 0, Cell.int .i64 0, Cell.int .i64 0] 2 ([(.int .i64 k)] : List Cell) = (Evt.mk 0 0 k 0 0 0).cs := rfl

theorem PO_R (hE : event_PO_In E) {x : Cell} {l : List Evt} {h : AHeap} (hx : SlAt h x 6 (evsC l) l.length) (hl : l.length ≤ 64) :
    R E 90 [.c x] h = some ([.agg (relL l.length (ACC l.length (poL l)))], h) := by
  refine R_intro hE.fn ?_
  have inner : ∀ (i : Nat) (z : List Cell) (q : Evt), l[i]? = some q → Lim (event_PO_F1 (R E) Lim E.glob) (event_PO_s1 x (i : Int) x l.length (i : Int) x l.length ((0 : Nat) : Int) z (relL l.length (ACC l.length fun a b => upto i 0 a b && poL l a b)) q.cs h) = some (.exit 2, event_PO_x1_3 x x l.length (i : Int) z (relL l.length (ACC l.length fun a b => upto i l.length a b && poL l a b)) h) := by
    intro i z q hq
    have hi := getI_lt hq
    refine Lim_count (fun k => event_PO_s1 x (i : Int) x l.length (i : Int) x l.length (k : Int) z (relL l.length (ACC l.length fun a b => upto i k a b && poL l a b)) q.cs h) 0 l.length (by omega) (fun k _ hk => ?_) (Lim_exit ?_)
    · have hq2 : l[k]? = some l[k] := List.getElem?_eq_getElem hk
      generalize l[k] = e at hq2
      obtain ⟨o1, c1', g1, h1, e1⟩ := hx.evG hq2
      have hpo := poL_at hq hq2
      rw [event_PO_r1, if_pos (by simp; omega), g1, if_pos h1, e1, if_pos ⟨rfl, rfl, rfl⟩]
      simp only [ev_t, ev_i, asI_ok, scK_and, scK_or]
      cases hb : poB q e with
      | true =>
        refine (if_pos hb).trans ?_
        rw [if_pos ⟨trivial, relL_len _ _⟩, Add_R hE.c10 hl (w_ACC _ _), c1_ok, asA_ok, if_pos ⟨trivial, relL_len _ _, relL_len _ _⟩, g_succ (by omega), acc_yes hl hi hk (by rw [hpo, hb])]
      | false =>
        refine (if_neg (fun q => by have := hb.symm.trans q; cases this)).trans ?_
        rw [g_succ (by omega), acc_no hl (by rw [hpo, hb])]
    · rw [event_PO_r1, if_neg (by simp)]
  have outer : ∀ z : List Cell, Lim (event_PO_F2 (R E) Lim E.glob) (event_PO_s2 x x l.length ((0 : Nat) : Int) z (relL l.length (ACC l.length fun a b => upto 0 0 a b && poL l a b)) h) = some (.exit 0, event_PO_x2_1 z (relL l.length (ACC l.length fun a b => upto l.length 0 a b && poL l a b)) h) := by
    intro z
    refine Lim_count (fun i => event_PO_s2 x x l.length (i : Int) z (relL l.length (ACC l.length fun a b => upto i 0 a b && poL l a b)) h) 0 l.length (by omega) (fun i _ hi => ?_) (Lim_exit ?_)
    · have hq : l[i]? = some l[i] := List.getElem?_eq_getElem hi
      generalize l[i] = q at hq
      obtain ⟨o1, c1', g1, h1, e1⟩ := hx.evG hq
      have hin := inner i z q hq
      rw [show ((0 : Nat) : Int) = 0 from rfl] at hin
      rw [event_PO_r2, if_pos (by simp; omega), g1, if_pos h1, e1, if_pos ⟨rfl, rfl, rfl⟩, hx.len, hin, bind_ok, event_PO_e1_3, g_succ (by omega), acc_row hl]
    · rw [event_PO_r2, if_neg (by simp)]
  have hout := outer zeroL
  rw [show ((0 : Nat) : Int) = 0 from rfl, acc_nought hl, acc_all hl] at hout
  rw [event_PO_eq, hx.len, if_neg (by simp; omega), hx.len, New_R hE.c9, clamp_nat hl, c1_ok, asA_ok, if_pos ⟨rfl, zero_len, relL_len _ _⟩, hx.len]
  rw [show ([Cell.int .i64 0] ++ List.replicate 64 (Cell.int .u64 0)) = zeroL from rfl, hout, bind_ok, event_PO_e2_1, if_pos ⟨rfl, relL_len _ _⟩, if_pos ⟨rfl, rfl, relL_len _ _⟩, if_pos ⟨rfl, relL_len _ _⟩]

theorem PO_big (hE : event_PO_In E) {x : Cell} {l : List Evt} {h : AHeap} (hx : SlAt h x 6 (evsC l) l.length) (hl : 64 < l.length) :
    R E 90 [.c x] h = some ([.agg (relL 0 fun _ => 0)], h) := by
  refine R_intro hE.fn ?_
  rw [event_PO_eq, hx.len, if_pos (by simp; omega), New_R hE.c9, show clamp 0 = 0 from rfl, c1_ok, asA_ok, if_pos ⟨rfl, zero_len, relL_len _ _⟩, if_pos ⟨rfl, relL_len _ _⟩]

theorem relL_set0 {n m : Nat} {f : Nat → Nat} : (relL m f).set 0 (.int .i64 n) = relL n f := rfl

theorem refPO_R (hE : jacquardref6_PO_In E) {x : Cell} {l : List Evt} {h : AHeap} (hx : SlAt h x 6 (evsC l) l.length) (hlow : Low h.length x) (hl : l.length ≤ 64) :
    R E 91 [.c x] h = some ([.agg (relL l.length (ACC l.length (poL l)))], h) := by
  refine R_intro hE.fn ?_
  have hx' : ∀ b, SlAt (h ++ [some b]) x 6 (evsC l) l.length := fun b => hx.keep hlow (Kp.app _ (Nat.le_refl _))
  have hb : ∀ f : Nat → Nat, blk? (h ++ [some ⟨true, 0, relL l.length f⟩]) h.length = some ⟨true, 0, relL l.length f⟩ := fun f => blk_new _ _
  have inner : ∀ (i : Nat) (z : List Cell), i < l.length → Lim (jacquardref6_PO_F1 (R E) Lim E.glob) (jacquardref6_PO_s1 x h.length 65 0 (i : Int) ((0 : Nat) : Int) z (h ++ [some ⟨true, 0, relL l.length (ACC l.length fun a b => upto i 0 a b && poL l a b)⟩])) = some (.exit 2, jacquardref6_PO_x1_3 x h.length 65 0 (i : Int) z (h ++ [some ⟨true, 0, relL l.length (ACC l.length fun a b => upto i l.length a b && poL l a b)⟩])) := by
    intro i z hi
    have hq : l[i]? = some l[i] := List.getElem?_eq_getElem hi
    generalize l[i] = q at hq
    refine Lim_count (fun k => jacquardref6_PO_s1 x h.length 65 0 (i : Int) (k : Int) z (h ++ [some ⟨true, 0, relL l.length (ACC l.length fun a b => upto i k a b && poL l a b)⟩])) 0 l.length (by omega) (fun k _ hk => ?_) (Lim_exit ?_)
    · have hq2 : l[k]? = some l[k] := List.getElem?_eq_getElem hk
      generalize l[k] = e at hq2
      have hpo := poL_at hq hq2
      have H := hx' ⟨true, 0, relL l.length (ACC l.length fun a b => upto i k a b && poL l a b)⟩
      rw [jacquardref6_PO_r1, H.len, if_pos (by simp; omega)]
      simp only [H.evF (j := 0) hq (by omega) (c := .int .i64 q.t) rfl, H.evF (j := 0) hq2 (by omega) (c := .int .i64 e.t) rfl, H.evF (j := 1) hq (by omega) (c := .int .i64 q.i) rfl, H.evF (j := 1) hq2 (by omega) (c := .int .i64 e.i) rfl, asI_ok, scK_and, scK_or]
      cases hbb : poB q e with
      | true =>
        refine (if_pos hbb).trans ?_
        rw [refAdd_R hE.c13 hl (w_ACC _ _) (by rw [inR_nat]; simpa using hi) (by rw [inR_nat]; simpa using hk) (hb _), c0_ok, setBlk_last, g_succ (by omega), acc_yes hl hi hk (by rw [hpo, hbb])]
      | false =>
        refine (if_neg (fun q => by have := hbb.symm.trans q; cases this)).trans ?_
        rw [g_succ (by omega), acc_no hl (by rw [hpo, hbb])]
    · rw [jacquardref6_PO_r1, hx.len, if_neg (by simp)]
  have outer : ∀ z : List Cell, Lim (jacquardref6_PO_F2 (R E) Lim E.glob) (jacquardref6_PO_s2 x h.length 65 0 ((0 : Nat) : Int) z (h ++ [some ⟨true, 0, relL l.length (ACC l.length fun a b => upto 0 0 a b && poL l a b)⟩])) = some (.exit 0, jacquardref6_PO_x2_1 h.length 65 0 z (h ++ [some ⟨true, 0, relL l.length (ACC l.length fun a b => upto l.length 0 a b && poL l a b)⟩])) := by
    intro z
    refine Lim_count (fun i => jacquardref6_PO_s2 x h.length 65 0 (i : Int) z (h ++ [some ⟨true, 0, relL l.length (ACC l.length fun a b => upto i 0 a b && poL l a b)⟩])) 0 l.length (by omega) (fun i _ hi => ?_) (Lim_exit ?_)
    · have hin := inner i z hi
      rw [show ((0 : Nat) : Int) = 0 from rfl] at hin
      rw [jacquardref6_PO_r2, hx.len, if_pos (by simp; omega), hin, bind_ok, jacquardref6_PO_e1_3, g_succ (by omega), acc_row hl]
    · rw [jacquardref6_PO_r2, hx.len, if_neg (by simp)]
  have hout := outer zeroL
  rw [show ((0 : Nat) : Int) = 0 from rfl, acc_nought hl, acc_all hl] at hout
  have hz : zeroL = relL 0 fun _ => 0 := zero_rel
  rw [jacquardref6_PO_eq, show ([Cell.int .i64 0] ++ List.replicate 64 (Cell.int .u64 0)) = zeroL from rfl, rdH_ok (blk_new h ⟨true, 0, zeroL⟩) rfl]
  dsimp only
  rw [if_pos ⟨rfl, by rw [hz, relL_len], by rw [hz, relL_len]⟩, putH_ok (blk_new h _) rfl, setBlk_last, hx.len, if_neg (by simp; omega), hx.len, rdH_ok (blk_new h ⟨true, 0, zeroL⟩) rfl]
  dsimp only
  rw [if_pos (by rw [hz, relL_len]; omega), putH_ok (blk_new h _) rfl, setBlk_last]
  have hzl : zeroL.length = 65 := by rw [hz, relL_len]
  have hzs : zeroL.set 0 (.int .i64 (l.length : Int)) = relL l.length fun _ => 0 := by rw [hz, relL_set0]
  rw [hzl]
  dsimp only
  rw [hzs, hout, bind_ok, jacquardref6_PO_e2_1, rdH_ok (hb _) (relL_len _ _)]
  dsimp only
  rw [if_pos ⟨rfl, relL_len _ _⟩, if_pos ⟨rfl, hzl, relL_len _ _⟩, if_pos ⟨rfl, relL_len _ _⟩]
  exact finish_gc (Kp.app _ (Nat.le_refl _)) (by simp [avOk_rel])

end
end Jq

/- Laws of events: kinds, orders. -/
namespace Jq
open Go

section
variable {E : Env}

/-- A row of a block of its own. -/
theorem SlAt.whole {h : AHeap} {k len esz : Nat} {cs : List Cell} {o : Bool} {e : Nat} (hb : blk? h k = some ⟨o, e, cs⟩) (hl : cs.length = len * esz) : SlAt h (.sl k cs.length 0 len) esz cs len :=
  ⟨hl, .inr ⟨k, _, 0, rfl, .inr ⟨_, hb, rfl, by omega, fun j _ => by simp⟩⟩⟩

theorem awake10_R (hE : jacquardlaw10_awake_In E) (h : AHeap) : R E 77 [] h = some ([.c (.bool true)], h) := by
  refine R_intro hE.fn ?_
  have e1 : splice [Cell.int .u8 0] 0 ([(.int .u8 120)] : List Cell) = intC .u8 [120] := rfl
  have e2 : splice [Cell.int .i64 0] 0 ([(.int .i64 4)] : List Cell) = intC .i64 [4] := rfl
  have e3 : splice (splice (List.replicate 9 (Cell.int .i64 0)) 0 ([(.int .i64 2)] : List Cell)) 1 ([(.int .i64 1)] : List Cell) = (Ins.mk 2 1 0 ⟨0, 0⟩ 0 ⟨0, 0⟩ 0).cs := rfl
  have e4 : splice (List.replicate 9 (Cell.int .i64 0)) 0 (Ins.mk 2 1 0 ⟨0, 0⟩ 0 ⟨0, 0⟩ 0).cs = codeC [Ins.mk 2 1 0 ⟨0, 0⟩ 0 ⟨0, 0⟩ 0] := rfl
  have e5 : ∀ c : Cell, splice [Cell.nils] 0 ([c] : List Cell) = [c] := fun _ => rfl
  have e6 : ∀ a b c : Cell, splice (splice (splice [Cell.nils, Cell.nils, Cell.nils] 0 ([a] : List Cell)) 1 ([b] : List Cell)) 2 ([c] : List Cell) = [a, b, c] := fun _ _ _ => rfl
  have e7 : splice [Cell.int .i64 0] 0 ([(.int .i64 5)] : List Cell) = intC .i64 [5] := rfl
  have l1 : (intC .u8 [120]).length = 1 := rfl
  have l2 : (intC .i64 [4]).length = 1 := rfl
  have l3 : (codeC [Ins.mk 2 1 0 ⟨0, 0⟩ 0 ⟨0, 0⟩ 0]).length = 9 := rfl
  have l5 : (intC .i64 [5]).length = 1 := rfl
  rw [jacquardlaw10_awake_eq]
  simp only [e1, e2, e3, e4, e5, e6, e7]
  rw [if_pos (show (intC .u8 [120]).length = 1 * 1 from rfl)]
  have hmark : ∀ {α : Type} (f : Cell → AHeap → Option α), markK (.sl h.length (intC .u8 [120]).length 0 1) (h ++ [some ⟨true, 1, intC .u8 [120]⟩]) f = f (.sl h.length 1 0 1) (h ++ [some ⟨false, 1, intC .u8 [120]⟩]) := by
    intro α f
    unfold markK
    simp only
    rw [blk_new, Option.bind_some]
    dsimp only
    rw [if_pos ⟨rfl, rfl⟩, setBlk_last]; rfl
  rw [hmark]
  have b1 : blk? (h ++ [some ⟨false, 1, intC .u8 [120]⟩]) h.length = some ⟨false, 1, intC .u8 [120]⟩ := blk_new _ _
  have n1 : (h ++ [some (Blk.mk false 1 (intC .u8 [120]))]).length = h.length + 1 := by simp
  have k1 : Kp h.length h (h ++ [some ⟨false, 1, intC .u8 [120]⟩]) := Kp.app _ (Nat.le_refl _)
  generalize h ++ [some (Blk.mk false 1 (intC .u8 [120]))] = H1 at *
  have b2 : blk? (H1 ++ [some ⟨true, 1, intC .i64 [4]⟩]) H1.length = some ⟨true, 1, intC .i64 [4]⟩ := blk_new _ _
  have b1' : blk? (H1 ++ [some ⟨true, 1, intC .i64 [4]⟩]) h.length = some ⟨false, 1, intC .u8 [120]⟩ := blk_old b1 _
  have k2 : Kp h.length h (H1 ++ [some ⟨true, 1, intC .i64 [4]⟩]) := k1.trans (Kp.app _ k1.1)
  have n2 : (H1 ++ [some (Blk.mk true 1 (intC .i64 [4]))]).length = H1.length + 1 := by simp
  rw [if_pos (show (intC .i64 [4]).length = 1 * 1 from rfl)]
  generalize H1 ++ [some (Blk.mk true 1 (intC .i64 [4]))] = H2 at *
  have b3 : blk? (H2 ++ [some ⟨true, 9, codeC [Ins.mk 2 1 0 ⟨0, 0⟩ 0 ⟨0, 0⟩ 0]⟩]) H2.length = some ⟨true, 9, codeC [Ins.mk 2 1 0 ⟨0, 0⟩ 0 ⟨0, 0⟩ 0]⟩ := blk_new _ _
  have b2' : blk? (H2 ++ [some ⟨true, 9, codeC [Ins.mk 2 1 0 ⟨0, 0⟩ 0 ⟨0, 0⟩ 0]⟩]) H1.length = some ⟨true, 1, intC .i64 [4]⟩ := blk_old b2 _
  have b1'' : blk? (H2 ++ [some ⟨true, 9, codeC [Ins.mk 2 1 0 ⟨0, 0⟩ 0 ⟨0, 0⟩ 0]⟩]) h.length = some ⟨false, 1, intC .u8 [120]⟩ := blk_old b1' _
  have k3 : Kp h.length h (H2 ++ [some ⟨true, 9, codeC [Ins.mk 2 1 0 ⟨0, 0⟩ 0 ⟨0, 0⟩ 0]⟩]) := k2.trans (Kp.app _ k2.1)
  have n3 : (H2 ++ [some (Blk.mk true 9 (codeC [Ins.mk 2 1 0 ⟨0, 0⟩ 0 ⟨0, 0⟩ 0]))]).length = H2.length + 1 := by simp
  rw [if_pos ⟨rfl, by simp⟩, if_pos (show (codeC [Ins.mk 2 1 0 ⟨0, 0⟩ 0 ⟨0, 0⟩ 0]).length = 1 * 9 from rfl)]
  generalize H2 ++ [some (Blk.mk true 9 (codeC [Ins.mk 2 1 0 ⟨0, 0⟩ 0 ⟨0, 0⟩ 0]))] = H3 at *
  rw [l2, l3]
  have b4 : blk? (H3 ++ [some ⟨true, 1, [Cell.sl H2.length 9 0 1]⟩]) H3.length = some ⟨true, 1, [Cell.sl H2.length 9 0 1]⟩ := blk_new _ _
  have b3' : blk? (H3 ++ [some ⟨true, 1, [Cell.sl H2.length 9 0 1]⟩]) H2.length = some ⟨true, 9, codeC [Ins.mk 2 1 0 ⟨0, 0⟩ 0 ⟨0, 0⟩ 0]⟩ := blk_old b3 _
  have b2'' : blk? (H3 ++ [some ⟨true, 1, [Cell.sl H2.length 9 0 1]⟩]) H1.length = some ⟨true, 1, intC .i64 [4]⟩ := blk_old b2' _
  have b1''' : blk? (H3 ++ [some ⟨true, 1, [Cell.sl H2.length 9 0 1]⟩]) h.length = some ⟨false, 1, intC .u8 [120]⟩ := blk_old b1'' _
  have k4 : Kp h.length h (H3 ++ [some ⟨true, 1, [Cell.sl H2.length 9 0 1]⟩]) := k3.trans (Kp.app _ k3.1)
  have n4 : (H3 ++ [some (Blk.mk true 1 [Cell.sl H2.length 9 0 1])]).length = H3.length + 1 := by simp
  rw [if_pos (show ([Cell.sl H2.length 9 0 1] : List Cell).length = 1 * 1 from rfl)]
  have l4 : ([Cell.sl H2.length 9 0 1] : List Cell).length = 1 := rfl
  rw [l4]
  generalize hH4 : H3 ++ [some (Blk.mk true 1 [Cell.sl H2.length 9 0 1])] = H4 at *
  have b5 : blk? (H4 ++ [some ⟨true, 1, intC .i64 [5]⟩]) H4.length = some ⟨true, 1, intC .i64 [5]⟩ := blk_new _ _
  have p0 : ProgAt H4 [.sl h.length 1 0 1, .sl H1.length 1 0 1, .sl H3.length 1 0 1] ⟨[120], [4], [[Ins.mk 2 1 0 ⟨0, 0⟩ 0 ⟨0, 0⟩ 0]]⟩ := by
    refine ⟨_, _, _, [Cell.sl H2.length 9 0 1], rfl, ⟨SlAt.whole b1''' rfl, .inr (by omega)⟩, ⟨SlAt.whole b2'' rfl, .inr (by omega)⟩, ⟨SlAt.whole b4 rfl, .inr (by omega)⟩, fun t code ht => ?_⟩
    cases t with
    | zero =>
      cases ht
      exact ⟨_, rfl, SlAt.whole b3' rfl, .inr (by omega)⟩
    | succ t => simp at ht
  have k5 : Kp H4.length H4 (H4 ++ [some ⟨true, 1, intC .i64 [5]⟩]) := Kp.app _ (Nat.le_refl _)
  have k5' : Kp h.length h (H4 ++ [some ⟨true, 1, intC .i64 [5]⟩]) := k4.trans (k5.mono k4.1)
  have p5 := p0.keep k5
  have hx : SlAt (H4 ++ [some ⟨true, 1, intC .i64 [5]⟩]) (.sl H4.length 1 0 1) 1 (intC .i64 [5]) [(5 : Int)].length := SlAt.whole b5 rfl
  have hown : Own 0 (H4 ++ [some ⟨true, 1, intC .i64 [5]⟩]) (.sl H4.length 1 0 1) 1 (intC .i64 [5]) 1 := ⟨rfl, .inr ⟨_, rfl, by omega, b5⟩⟩
  have hlow : Low (H4 ++ [some (Blk.mk true 1 (intC .i64 [5]))]).length (.sl H4.length 1 0 1) := .inr (by simp)
  rw [if_pos ⟨trivial, rfl, rfl⟩, if_pos ⟨trivial, rfl⟩, if_pos (show (intC .i64 [5]).length = 1 * 1 from rfl), l5]
  generalize H4 ++ [some (Blk.mk true 1 (intC .i64 [5]))] = H5 at *
  have hsm : PProg.small ⟨[120], [4], [[Ins.mk 2 1 0 ⟨0, 0⟩ 0 ⟨0, 0⟩ 0]]⟩ := ⟨by simp, fun c hc => by simp at hc; subst hc; simp⟩
  obtain ⟨y, H6, hu, hy, ku⟩ := Unfold_R hE.c78 hsm p5 0 hx hlow hown.okE
  have hunf : unf (PProg.code ⟨[120], [4], [[Ins.mk 2 1 0 ⟨0, 0⟩ 0 ⟨0, 0⟩ 0]]⟩ 0) 0 1001 (startL ⟨[120], [4], [[Ins.mk 2 1 0 ⟨0, 0⟩ 0 ⟨0, 0⟩ 0]]⟩ 0) [5] [] = ([⟨0, 0, 1, 0, 5, 0⟩], ⟨1, 0, 5, 0, 0⟩, false) := by decide +kernel
  rw [hunf] at hu hy
  dsimp only at hu hy
  have p6 := p5.keep ku
  obtain ⟨y2, H7, hi, hy2, ki⟩ := Inits_R hE.c88 p6 (by simp)
  have hin : initsE [4] = [⟨-1, 0, 2, 0, 0, 4⟩] := rfl
  rw [hin] at hy2
  have hya := (hy.at.keep hy.low ki)
  obtain ⟨o1, c1', g1, q1, d1⟩ := SlAt.evG (l := [⟨0, 0, 1, 0, 5, 0⟩]) hya (i := 0) rfl
  obtain ⟨o2, c2', g2, q2, d2⟩ := SlAt.evG (l := [⟨-1, 0, 2, 0, 0, 4⟩]) hy2.at (i := 0) rfl
  have g1' : ∀ {α : Type} (G : Nat → List Cell → Option α), (idxSK 6 y (0 : Int) fun k N o => rdH H7 k N fun l => G o l) = G o1 c1' := fun G => g1 G
  have g2' : ∀ {α : Type} (G : Nat → List Cell → Option α), (idxSK 6 y2 (0 : Int) fun k N o => rdH H7 k N fun l => G o l) = G o2 c2' := fun G => g2 G
  have s1 : splice (splice [Cell.int .i64 0, Cell.int .i64 0, Cell.int .i64 0, Cell.int .i64 0, Cell.int .i64 0, Cell.int .i64 0] 2 ([(.int .i64 1)] : List Cell)) 4 ([(.int .i64 5)] : List Cell) = (Evt.mk 0 0 1 0 5 0).cs := rfl
  have s2 : splice (splice (splice [Cell.int .i64 0, Cell.int .i64 0, Cell.int .i64 0, Cell.int .i64 0, Cell.int .i64 0, Cell.int .i64 0] 0 ([(.int .i64 (-1))] : List Cell)) 2 ([(.int .i64 2)] : List Cell)) 5 ([(.int .i64 4)] : List Cell) = (Evt.mk (-1) 0 2 0 0 4).cs := rfl
  rw [hu, c3_ok, asC_ok, asA_ok, asB_ok, if_pos ⟨trivial, rfl, rfl⟩, if_pos ⟨trivial, rfl⟩, hi, c1_ok, asC_ok, hya.len, s1, s2]
  rw [show ((([⟨0, 0, 1, 0, 5, 0⟩] : List Evt).length : Int) == 1) = true from rfl, scK_ok, g1', if_pos q1, d1, if_pos ⟨alike_ev _, alike_ev _⟩, show decide ((Evt.mk 0 0 1 0 5 0).cs = (Evt.mk 0 0 1 0 5 0).cs) = true by simp, bind_ok]
  dsimp only
  rw [scK_ok, show ∀ {α : Type} (f : Cell → Option α), atK (Lcl.mk 1 0 5 0 0).cs 2 f = f (.int .i64 5) from fun _ => rfl, asI_ok, bind_ok]
  dsimp only
  rw [show ((5 : Int) == 5) = true from rfl, scK_ok, bind_ok]
  dsimp only
  rw [show (!false) = true from rfl, scK_ok, hy2.at.len, bind_ok]
  dsimp only
  rw [show ((([4] : List Int).length : Int) == 1) = true from rfl, scK_ok, g2', if_pos q2, d2, if_pos ⟨alike_ev _, alike_ev _⟩, show decide ((Evt.mk (-1) 0 2 0 0 4).cs = (Evt.mk (-1) 0 2 0 0 4).cs) = true by simp, bind_ok]
  exact finish_gc (k5'.trans ((ku.mono k5'.1).trans (ki.mono (Nat.le_trans k5'.1 ku.1)))) (by simp [avOk, AV.cells, idOk])

theorem EventKinds_law (hE : jacquardlaw10_EventKinds_In E) {h : AHeap} {c0 : List Cell} (o0 : okC h (.i .i64) c0) : ∃ h', R E 212 [av1 (.i .i64) c0] h = some ([.c (.bool true)], h') := by
  obtain ⟨a, e0, _⟩ := arg_int o0
  rw [e0]
  refine ⟨h, R_intro hE.fn ?_⟩
  rw [jacquardlaw10_EventKinds_eq, splice_ev2, if_pos ⟨rfl, rfl, rfl⟩, if_pos ⟨rfl, rfl⟩, evReads_R hE.c79, qh_ok, c1_ok, asB_ok, if_pos ⟨rfl, rfl⟩, evWrites_R hE.c80, qh_ok, c1_ok, asB_ok, if_pos ⟨rfl, rfl⟩, evFences_R hE.c82, qh_ok, c1_ok, asB_ok]
  simp only [scK_or, scK_and, scK_ok, awake10_R hE.c77, c1_ok, asB_ok]
  have k1 : (evRd ⟨0, 0, a, 0, 0, 0⟩ == (a == 1 || a == 4 || a == 5)) = true := beq_self_eq_true _
  have k2 : (evWr ⟨0, 0, a, 0, 0, 0⟩ == (a == 2 || a == 4)) = true := beq_self_eq_true _
  have k3 : (evFn ⟨0, 0, a, 0, 0, 0⟩ == (a == 3 || a == 4 || a == 5)) = true := beq_self_eq_true _
  simp only [k1, k2, k3, Bool.and_self, scK_ok, bind_ok]

theorem EventOrders_law (hE : jacquardlaw10_EventOrders_In E) {h : AHeap} {c0 : List Cell} (o0 : okC h (.sl shEv) c0) : ∃ h', R E 214 [av1 (.sl shEv) c0] h = some ([.c (.bool true)], h') := by
  obtain ⟨x, l, e0, hx, hlow, hm⟩ := arg_evs o0
  rw [e0]
  suffices hh : ∃ h', jacquardlaw10_EventOrders.body (R E) Lim E.glob [.c x] h = some ([.c (.bool true)], h') by
    obtain ⟨h', hh⟩ := hh; exact ⟨h', R_intro hE.fn hh⟩
  rw [jacquardlaw10_EventOrders_eq, hx.len]
  by_cases hb : l.length > 80
  · rw [if_pos (by simp; omega), awake10_R hE.c77, c1_ok, asB_ok]; exact ⟨_, rfl⟩
  · rw [if_neg (by simp; omega), hx.len]
    by_cases h64 : l.length > 64
    · rw [if_pos (by simp; omega), PO_big hE.c90 hx h64, c1_ok, asA_ok, show (0 : Nat) = 0 from rfl, N_R hE.c14, c1_ok, asI_ok, show (((0 : Nat) : Int) == 0) = true from rfl, scK_ok, awake10_R hE.c77, c1_ok, asB_ok, bind_ok]
      exact ⟨_, rfl⟩
    · have hl : l.length ≤ 64 := by omega
      have hsame : R E 69 [.agg (relL l.length (ACC l.length (poL l))), .agg (relL l.length (ACC l.length (poL l)))] h = some ([.c (.bool true)], h) :=
        Same_S hE.c69 hl (w_ACC _ _) (w_ACC _ _) (fun i j => ⟨fun q => q.1, fun q => ⟨q, (ACC_fit hl _ i j q).1⟩⟩) h
      rw [if_neg (by simp; omega), PO_R hE.c90 hx hl, c1_ok, asA_ok, refPO_R hE.c91 hx hlow hl, c1_ok, asA_ok, hsame, c1_ok, asB_ok, scK_ok, SameEv_R hE.c84 hx hx (by omega), c1_ok, asB_ok, bind_ok]
      dsimp only
      rw [scK_ok, awake10_R hE.c77, c1_ok, asB_ok, bind_ok]
      exact ⟨_, rfl⟩

end
end Jq

/- EventKinds: whatever the input the call says true, and each argument reads behind it as before. No conditions. -/
namespace Go.Proofs.Ytldfafaiappibaa.LEventKinds
open Go Jq Go.ChangeShapes Go.WideShapes Go.ChangeAt Go.RowKit
set_option linter.unusedVariables false

theorem own : ownKnob Try.prog.godebug = none := by kernel_rfl
theorem laidOut : laidOutB Try.prog = true := by kernel_rfl

set_option maxRecDepth 100000 in
theorem lifted (os : Os) (started : os.Started) (H : Type) (enc : TypeId × Value → H) :
    ReturnsInHanded {} Try.checked os 5 .any (Rows.eventKindsSpec.pre6 enc Try.prog Try.f5 Rows.eventKindsRow.domain false) (Rows.eventKindsSpec.post enc Try.prog Try.f5 false true false false) := by
  refine returnsInHanded_of_change (C := Try.checked) own started (by kernel_rfl) Try.func5
    (ChangeSpec.witness6 (enc := enc) (C := Try.checked) false ⟨#[], #[.int .i64 0], []⟩ 8 (by kernel_rfl) (by kernel_rfl) (by kernel_rfl) (by kernel_rfl)) ?_
  intro W base args ds gs before hval0 hW hcnd _
  have hval : ∀ (j : Nat) t v, Try.f5.params[j]? = some t → args[j]? = some v → Value.okWide Try.prog W .any base t v := hval0
  have hW' := hW
  obtain ⟨p, q, hA0, hV, rfl, hfz, hnd⟩ := hW
  have hA : DataW.TrodAll enc Try.prog W 0 (fun _ => true) true Try.f5.params.toList args.toList ds p := hA0
  rw [Try.params5] at hA hval
  obtain ⟨v0, vs0, d0, ds0, p0, q0, hargs, rfl, rfl, h0, r0⟩ := trodAll_cons hA
  obtain ⟨rfl, rfl, rfl⟩ := trodAll_nil r0
  obtain rfl : args = #[v0] := by cases args; simp_all
  obtain ⟨rfl, rfl⟩ := trodVars_none hV
  have lt0 : ∀ x ∈ p0, x.block < W.heap.size := by obtain ⟨m, hm⟩ := h0; exact DataW.trod_lt m _ _ _ hm
  have c := Come.nil (S := seat) (W := W) (fun _ => rfl)
  have k0 : ((.i .i64) : Sh).chk seat.P 3 = true := by kernel_rfl
  obtain ⟨b0, ρ0, cs0, c0, e0, x0, a0, o0⟩ := opens_arg (S := seat) (W := W) (sh := (.i .i64)) k0 h0 (wide_of k0 (hval 0 3 v0 rfl rfl)) ⟨nofun, nofun⟩ c
  obtain ⟨h', hR⟩ := EventKinds_law (E := env) in_212 o0
  refine (law_call (S := seat) (R_sound (S := seat) (E := env) rfl allOk) c0 (vals := #[v0]) (L2.cons a0 L2.nil) hR).mono fun e W' ⟨he, bel⟩ => ?_
  subst he
  exact ⟨_, rfl, _, _, _, [], _, [], hW', trodAll_mk1 (shut_bool Try.underlying4 _), (trodAll_cons_mk (Below.trod laidOut (by kernel_rfl) (of_decide_eq_true (by kernel_rfl)) h0 bel lt0) trodAll_mk0), rfl, bel.frame _, fun h => by cases h⟩

theorem over : Rows.eventKindsRow.holds Try.pinned (OpenSpec.ofChange Rows.eventKindsSpec) :=
  OpenClaim.holds_of_wide 5 Try.f5 rfl rfl rfl rfl rfl rfl rfl ⟨rfl, rfl, rfl, rfl, rfl⟩ rfl rfl rfl rfl rfl (by kernel_rfl) Try.func5 (by kernel_rfl)
    (of_decide_eq_true (by kernel_rfl)) (by unfold Func.isWrapper; first | (rw [if_pos (by decide +kernel)]; kernel_rfl) | (rw [if_neg (by decide +kernel)]; exact ⟨rfl, rfl⟩))
    (fun os started H enc _ => lifted os started H enc)

theorem proved : Rows.EventKindsSaid := over
#print axioms proved

end Go.Proofs.Ytldfafaiappibaa.LEventKinds

