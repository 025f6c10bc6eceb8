/- YtlfhmbifgdhckaaDoorPlayTextsB: a part of the proof; no conditions of its own. -/
import Derived.KernelRfl
import Derived.Test.YtlfhmbifgdhckaaDoorPlayTextsA
set_option linter.unusedVariables false
set_option linter.unusedSimpArgs false

namespace Jq
open Go

/- jacquard/print.IsLoc: 158 -/
set_option maxRecDepth 100000 in
theorem print_IsLoc_eq (C : CallF) (L : LoopF) (G : Glo) (a0 : Int) (h0 : AHeap) :
    print_IsLoc.body C L G [(.c (.int .i64 a0))] h0 =
    scK (decide (a0 ≥ 97)) true (some ((decide (a0 ≤ 122)), h0)) false h0 fun b_1 h_2 => some ([(.c (.bool b_1))], h_2) := by kernel_rfl

/- jacquard/print.Fields: 159 -/
set_option maxRecDepth 100000 in
theorem print_Fields_eq (C : CallF) (L : LoopF) (G : Glo) (l0 : List Cell) (x1 : Cell) (h0 : AHeap) :
    print_Fields.body C L G [(.agg l0), (.c x1)] h0 =
    atK l0 0 fun q_1 => asI .i64 (.c q_1) fun n_2 => if 0 = 0 ∧ (List.replicate 9 (Cell.int .i64 0)).length = 9 ∧ (splice (List.replicate 9 (Cell.int .i64 0)) 0 ([(.int .i64 n_2)] : List Cell)).length = 9 then atK l0 0 fun q_3 => asI .i64 (.c q_3) fun n_4 => if (n_4 == 1) = true then atK l0 2 fun q_5 => asI .i64 (.c q_5) fun n_6 => if 3 + 2 ≤ l0.length then if 2 < (splice (List.replicate 9 (Cell.int .i64 0)) 0 ([(.int .i64 n_2)] : List Cell)).length then if 3 + 2 ≤ ((splice (List.replicate 9 (Cell.int .i64 0)) 0 ([(.int .i64 n_2)] : List Cell)).set 2 (.int .i64 n_6)).length ∧ ((l0.drop 3).take 2).length = 2 then atK l0 2 fun q_7 => asI .i64 (.c q_7) fun n_8 => fnK x1 fun g_9 l_10 => c1 (C g_9 ([(.c (.int .i64 n_8))] ++ l_10) h0) fun y_12 h_11 => asB y_12 fun b_13 => scK b_13 true (if 3 + 2 ≤ l0.length then c1 (C 163 [(.agg ((l0.drop 3).take 2))] h_11) fun y_15 h_14 => asB y_15 fun b_16 => some (b_16, h_14) else none) false h_11 fun b_17 h_18 => scK b_17 true (if 0 = 0 ∧ l0.length = 9 then if 0 = 0 ∧ (splice ((splice (List.replicate 9 (Cell.int .i64 0)) 0 ([(.int .i64 n_2)] : List Cell)).set 2 (.int .i64 n_6)) 3 ((l0.drop 3).take 2)).length = 9 then if alike l0 (List.replicate 9 (Cell.int .i64 0)) = true ∧ alike (splice ((splice (List.replicate 9 (Cell.int .i64 0)) 0 ([(.int .i64 n_2)] : List Cell)).set 2 (.int .i64 n_6)) 3 ((l0.drop 3).take 2)) (List.replicate 9 (Cell.int .i64 0)) = true then some ((decide (l0 = (splice ((splice (List.replicate 9 (Cell.int .i64 0)) 0 ([(.int .i64 n_2)] : List Cell)).set 2 (.int .i64 n_6)) 3 ((l0.drop 3).take 2)))), h_18) else none else none else none) false h_18 fun b_19 h_20 => some ([(.c (.bool b_19))], h_20) else none else none else none else if (n_4 == 2) = true then atK l0 1 fun q_21 => asI .i64 (.c q_21) fun n_22 => atK l0 2 fun q_23 => asI .i64 (.c q_23) fun n_24 => if 1 < (splice (List.replicate 9 (Cell.int .i64 0)) 0 ([(.int .i64 n_2)] : List Cell)).length then if 2 < ((splice (List.replicate 9 (Cell.int .i64 0)) 0 ([(.int .i64 n_2)] : List Cell)).set 1 (.int .i64 n_22)).length then atK l0 2 fun q_25 => asI .i64 (.c q_25) fun n_26 => fnK x1 fun g_27 l_28 => c1 (C g_27 ([(.c (.int .i64 n_26))] ++ l_28) h0) fun y_30 h_29 => asB y_30 fun b_31 => scK b_31 true (atK l0 1 fun q_32 => asI .i64 (.c q_32) fun n_33 => c1 (C 164 [(.c (.int .i64 n_33))] h_29) fun y_35 h_34 => asB y_35 fun b_36 => some (b_36, h_34)) false h_29 fun b_37 h_38 => scK b_37 true (if 0 = 0 ∧ l0.length = 9 then if 0 = 0 ∧ (((splice (List.replicate 9 (Cell.int .i64 0)) 0 ([(.int .i64 n_2)] : List Cell)).set 1 (.int .i64 n_22)).set 2 (.int .i64 n_24)).length = 9 then if alike l0 (List.replicate 9 (Cell.int .i64 0)) = true ∧ alike (((splice (List.replicate 9 (Cell.int .i64 0)) 0 ([(.int .i64 n_2)] : List Cell)).set 1 (.int .i64 n_22)).set 2 (.int .i64 n_24)) (List.replicate 9 (Cell.int .i64 0)) = true then some ((decide (l0 = (((splice (List.replicate 9 (Cell.int .i64 0)) 0 ([(.int .i64 n_2)] : List Cell)).set 1 (.int .i64 n_22)).set 2 (.int .i64 n_24)))), h_38) else none else none else none) false h_38 fun b_39 h_40 => some ([(.c (.bool b_39))], h_40) else none else none else if (n_4 == 3) = true then scK true true (if 0 = 0 ∧ l0.length = 9 then if 0 = 0 ∧ (splice (List.replicate 9 (Cell.int .i64 0)) 0 ([(.int .i64 n_2)] : List Cell)).length = 9 then if alike l0 (List.replicate 9 (Cell.int .i64 0)) = true ∧ alike (splice (List.replicate 9 (Cell.int .i64 0)) 0 ([(.int .i64 n_2)] : List Cell)) (List.replicate 9 (Cell.int .i64 0)) = true then some ((decide (l0 = (splice (List.replicate 9 (Cell.int .i64 0)) 0 ([(.int .i64 n_2)] : List Cell)))), h0) else none else none else none) false h0 fun b_41 h_42 => some ([(.c (.bool b_41))], h_42) else if (n_4 == 4) = true then atK l0 1 fun q_43 => asI .i64 (.c q_43) fun n_44 => atK l0 2 fun q_45 => asI .i64 (.c q_45) fun n_46 => if 3 + 2 ≤ l0.length then if 6 + 2 ≤ l0.length then if 1 < (splice (List.replicate 9 (Cell.int .i64 0)) 0 ([(.int .i64 n_2)] : List Cell)).length then if 2 < ((splice (List.replicate 9 (Cell.int .i64 0)) 0 ([(.int .i64 n_2)] : List Cell)).set 1 (.int .i64 n_44)).length then if 3 + 2 ≤ (((splice (List.replicate 9 (Cell.int .i64 0)) 0 ([(.int .i64 n_2)] : List Cell)).set 1 (.int .i64 n_44)).set 2 (.int .i64 n_46)).length ∧ ((l0.drop 3).take 2).length = 2 then if 6 + 2 ≤ (splice (((splice (List.replicate 9 (Cell.int .i64 0)) 0 ([(.int .i64 n_2)] : List Cell)).set 1 (.int .i64 n_44)).set 2 (.int .i64 n_46)) 3 ((l0.drop 3).take 2)).length ∧ ((l0.drop 6).take 2).length = 2 then atK l0 2 fun q_47 => asI .i64 (.c q_47) fun n_48 => fnK x1 fun g_49 l_50 => c1 (C g_49 ([(.c (.int .i64 n_48))] ++ l_50) h0) fun y_52 h_51 => asB y_52 fun b_53 => scK b_53 true (atK l0 1 fun q_54 => asI .i64 (.c q_54) fun n_55 => c1 (C 164 [(.c (.int .i64 n_55))] h_51) fun y_57 h_56 => asB y_57 fun b_58 => some (b_58, h_56)) false h_51 fun b_59 h_60 => scK b_59 true (if 3 + 2 ≤ l0.length then c1 (C 163 [(.agg ((l0.drop 3).take 2))] h_60) fun y_62 h_61 => asB y_62 fun b_63 => some (b_63, h_61) else none) false h_60 fun b_64 h_65 => scK b_64 true (if 6 + 2 ≤ l0.length then c1 (C 163 [(.agg ((l0.drop 6).take 2))] h_65) fun y_67 h_66 => asB y_67 fun b_68 => some (b_68, h_66) else none) false h_65 fun b_69 h_70 => scK b_69 true (if 0 = 0 ∧ l0.length = 9 then if 0 = 0 ∧ (splice (splice (((splice (List.replicate 9 (Cell.int .i64 0)) 0 ([(.int .i64 n_2)] : List Cell)).set 1 (.int .i64 n_44)).set 2 (.int .i64 n_46)) 3 ((l0.drop 3).take 2)) 6 ((l0.drop 6).take 2)).length = 9 then if alike l0 (List.replicate 9 (Cell.int .i64 0)) = true ∧ alike (splice (splice (((splice (List.replicate 9 (Cell.int .i64 0)) 0 ([(.int .i64 n_2)] : List Cell)).set 1 (.int .i64 n_44)).set 2 (.int .i64 n_46)) 3 ((l0.drop 3).take 2)) 6 ((l0.drop 6).take 2)) (List.replicate 9 (Cell.int .i64 0)) = true then some ((decide (l0 = (splice (splice (((splice (List.replicate 9 (Cell.int .i64 0)) 0 ([(.int .i64 n_2)] : List Cell)).set 1 (.int .i64 n_44)).set 2 (.int .i64 n_46)) 3 ((l0.drop 3).take 2)) 6 ((l0.drop 6).take 2)))), h_70) else none else none else none) false h_70 fun b_71 h_72 => some ([(.c (.bool b_71))], h_72) else none else none else none else none else none else none else if (n_4 == 5) = true then atK l0 1 fun q_73 => asI .i64 (.c q_73) fun n_74 => if 3 + 2 ≤ l0.length then atK l0 5 fun q_75 => asI .i64 (.c q_75) fun n_76 => if 6 + 2 ≤ l0.length then if 1 < (splice (List.replicate 9 (Cell.int .i64 0)) 0 ([(.int .i64 n_2)] : List Cell)).length then if 3 + 2 ≤ ((splice (List.replicate 9 (Cell.int .i64 0)) 0 ([(.int .i64 n_2)] : List Cell)).set 1 (.int .i64 n_74)).length ∧ ((l0.drop 3).take 2).length = 2 then if 5 < (splice ((splice (List.replicate 9 (Cell.int .i64 0)) 0 ([(.int .i64 n_2)] : List Cell)).set 1 (.int .i64 n_74)) 3 ((l0.drop 3).take 2)).length then if 6 + 2 ≤ ((splice ((splice (List.replicate 9 (Cell.int .i64 0)) 0 ([(.int .i64 n_2)] : List Cell)).set 1 (.int .i64 n_74)) 3 ((l0.drop 3).take 2)).set 5 (.int .i64 n_76)).length ∧ ((l0.drop 6).take 2).length = 2 then atK l0 1 fun q_77 => asI .i64 (.c q_77) fun n_78 => c1 (C 164 [(.c (.int .i64 n_78))] h0) fun y_80 h_79 => asB y_80 fun b_81 => scK b_81 true (if 3 + 2 ≤ l0.length then c1 (C 163 [(.agg ((l0.drop 3).take 2))] h_79) fun y_83 h_82 => asB y_83 fun b_84 => some (b_84, h_82) else none) false h_79 fun b_85 h_86 => scK b_85 true (if 6 + 2 ≤ l0.length then c1 (C 163 [(.agg ((l0.drop 6).take 2))] h_86) fun y_88 h_87 => asB y_88 fun b_89 => some (b_89, h_87) else none) false h_86 fun b_90 h_91 => scK b_90 true (atK l0 5 fun q_92 => asI .i64 (.c q_92) fun n_93 => some ((decide (n_93 ≥ 0)), h_91)) false h_91 fun b_94 h_95 => scK b_94 true (atK l0 5 fun q_96 => asI .i64 (.c q_96) fun n_97 => some ((decide (n_97 ≤ 11)), h_95)) false h_95 fun b_98 h_99 => scK b_98 true (atK l0 5 fun q_100 => asI .i64 (.c q_100) fun n_101 => scK (decide (n_101 > 0)) false (if 6 + 2 ≤ l0.length then if alike ((l0.drop 6).take 2) ([Cell.int .i64 0, Cell.int .i64 0]) = true ∧ alike (splice [Cell.int .i64 0, Cell.int .i64 0] 0 ([(.int .i64 (-1))] : List Cell)) ([Cell.int .i64 0, Cell.int .i64 0]) = true then some ((decide (((l0.drop 6).take 2) = (splice [Cell.int .i64 0, Cell.int .i64 0] 0 ([(.int .i64 (-1))] : List Cell)))), h_99) else none else none) true h_99 fun b_102 h_103 => some (b_102, h_103)) false h_99 fun b_104 h_105 => scK b_104 true (if 0 = 0 ∧ l0.length = 9 then if 0 = 0 ∧ (splice ((splice ((splice (List.replicate 9 (Cell.int .i64 0)) 0 ([(.int .i64 n_2)] : List Cell)).set 1 (.int .i64 n_74)) 3 ((l0.drop 3).take 2)).set 5 (.int .i64 n_76)) 6 ((l0.drop 6).take 2)).length = 9 then if alike l0 (List.replicate 9 (Cell.int .i64 0)) = true ∧ alike (splice ((splice ((splice (List.replicate 9 (Cell.int .i64 0)) 0 ([(.int .i64 n_2)] : List Cell)).set 1 (.int .i64 n_74)) 3 ((l0.drop 3).take 2)).set 5 (.int .i64 n_76)) 6 ((l0.drop 6).take 2)) (List.replicate 9 (Cell.int .i64 0)) = true then some ((decide (l0 = (splice ((splice ((splice (List.replicate 9 (Cell.int .i64 0)) 0 ([(.int .i64 n_2)] : List Cell)).set 1 (.int .i64 n_74)) 3 ((l0.drop 3).take 2)).set 5 (.int .i64 n_76)) 6 ((l0.drop 6).take 2)))), h_105) else none else none else none) false h_105 fun b_106 h_107 => some ([(.c (.bool b_106))], h_107) else none else none else none else none else none else none else if (n_4 == 6) = true then atK l0 8 fun q_108 => asI .i64 (.c q_108) fun n_109 => if 3 + 2 ≤ l0.length then if 6 + 2 ≤ l0.length then if 8 < (splice (List.replicate 9 (Cell.int .i64 0)) 0 ([(.int .i64 n_2)] : List Cell)).length then if 3 + 2 ≤ ((splice (List.replicate 9 (Cell.int .i64 0)) 0 ([(.int .i64 n_2)] : List Cell)).set 8 (.int .i64 n_109)).length ∧ ((l0.drop 3).take 2).length = 2 then if 6 + 2 ≤ (splice ((splice (List.replicate 9 (Cell.int .i64 0)) 0 ([(.int .i64 n_2)] : List Cell)).set 8 (.int .i64 n_109)) 3 ((l0.drop 3).take 2)).length ∧ ((l0.drop 6).take 2).length = 2 then atK l0 8 fun q_110 => asI .i64 (.c q_110) fun n_111 => scK (decide (n_111 ≥ 0)) true (if 3 + 2 ≤ l0.length then c1 (C 163 [(.agg ((l0.drop 3).take 2))] h0) fun y_113 h_112 => asB y_113 fun b_114 => some (b_114, h_112) else none) false h0 fun b_115 h_116 => scK b_115 true (if 6 + 2 ≤ l0.length then c1 (C 163 [(.agg ((l0.drop 6).take 2))] h_116) fun y_118 h_117 => asB y_118 fun b_119 => some (b_119, h_117) else none) false h_116 fun b_120 h_121 => scK b_120 true (if 0 = 0 ∧ l0.length = 9 then if 0 = 0 ∧ (splice (splice ((splice (List.replicate 9 (Cell.int .i64 0)) 0 ([(.int .i64 n_2)] : List Cell)).set 8 (.int .i64 n_109)) 3 ((l0.drop 3).take 2)) 6 ((l0.drop 6).take 2)).length = 9 then if alike l0 (List.replicate 9 (Cell.int .i64 0)) = true ∧ alike (splice (splice ((splice (List.replicate 9 (Cell.int .i64 0)) 0 ([(.int .i64 n_2)] : List Cell)).set 8 (.int .i64 n_109)) 3 ((l0.drop 3).take 2)) 6 ((l0.drop 6).take 2)) (List.replicate 9 (Cell.int .i64 0)) = true then some ((decide (l0 = (splice (splice ((splice (List.replicate 9 (Cell.int .i64 0)) 0 ([(.int .i64 n_2)] : List Cell)).set 8 (.int .i64 n_109)) 3 ((l0.drop 3).take 2)) 6 ((l0.drop 6).take 2)))), h_121) else none else none else none) false h_121 fun b_122 h_123 => some ([(.c (.bool b_122))], h_123) else none else none else none else none else none else some ([(.c (.bool false))], h0) else none := by kernel_rfl

/- jacquard/print.isOperand: 163 -/
set_option maxRecDepth 100000 in
theorem print_isOperand_eq (C : CallF) (L : LoopF) (G : Glo) (l0 : List Cell) (h0 : AHeap) :
    print_isOperand.body C L G [(.agg l0)] h0 =
    atK l0 0 fun q_1 => asI .i64 (.c q_1) fun n_2 => scK (n_2 == (-1)) false (atK l0 0 fun q_3 => asI .i64 (.c q_3) fun n_4 => c1 (C 164 [(.c (.int .i64 n_4))] h0) fun y_6 h_5 => asB y_6 fun b_7 => scK b_7 true (atK l0 1 fun q_8 => asI .i64 (.c q_8) fun n_9 => some ((n_9 == 0), h_5)) false h_5 fun b_10 h_11 => some (b_10, h_11)) true h0 fun b_12 h_13 => some ([(.c (.bool b_12))], h_13) := by kernel_rfl

/- jacquard/print.isReg: 164 -/
set_option maxRecDepth 100000 in
theorem print_isReg_eq (C : CallF) (L : LoopF) (G : Glo) (a0 : Int) (h0 : AHeap) :
    print_isReg.body C L G [(.c (.int .i64 a0))] h0 =
    scK (decide (a0 ≥ 0)) true (some ((decide (a0 < 4)), h0)) false h0 fun b_1 h_2 => some ([(.c (.bool b_1))], h_2) := by kernel_rfl


end Jq

/- Is a test one that could be in a tree? -/
namespace Jq
open Go

def locB (n : Int) : Bool := decide (n ≥ 97) && decide (n ≤ 122)
def regB (n : Int) : Bool := decide (n ≥ 0) && decide (n < 4)
def opB (o : Opd) : Bool := o.reg == -1 || (regB o.reg && o.val == 0)
def fldB (has : Int → Bool) (i : Ins) : Bool :=
  if i.kind = 1 then has i.loc && opB i.a && decide (i.cs = (⟨i.kind, 0, i.loc, i.a, 0, ⟨0, 0⟩, 0⟩ : Ins).cs)
  else if i.kind = 2 then has i.loc && regB i.reg && decide (i.cs = (⟨i.kind, i.reg, i.loc, ⟨0, 0⟩, 0, ⟨0, 0⟩, 0⟩ : Ins).cs)
  else if i.kind = 3 then decide (i.cs = (⟨i.kind, 0, 0, ⟨0, 0⟩, 0, ⟨0, 0⟩, 0⟩ : Ins).cs)
  else if i.kind = 4 then has i.loc && regB i.reg && opB i.a && opB i.b && decide (i.cs = (⟨i.kind, i.reg, i.loc, i.a, 0, i.b, 0⟩ : Ins).cs)
  else if i.kind = 5 then regB i.reg && opB i.a && opB i.b && decide (i.op ≥ 0) && decide (i.op ≤ 11) && (decide (i.op > 0) || decide (i.b.cs = (⟨-1, 0⟩ : Opd).cs)) && decide (i.cs = (⟨i.kind, i.reg, 0, i.a, i.op, i.b, 0⟩ : Ins).cs)
  else if i.kind = 6 then decide (i.n ≥ 0) && opB i.a && opB i.b && decide (i.cs = (⟨i.kind, 0, 0, i.a, 0, i.b, i.n⟩ : Ins).cs)
  else false

section
variable {E : Env}

theorem IsLoc_R (hE : print_IsLoc_In E) (n : Int) (h : AHeap) : R E 158 [.c (.int .i64 n)] h = some ([.c (.bool (locB n))], h) := by
  refine R_intro hE.fn ?_
  rw [print_IsLoc_eq, scK_and]; rfl
theorem isReg_R (hE : print_isReg_In E) (n : Int) (h : AHeap) : R E 164 [.c (.int .i64 n)] h = some ([.c (.bool (regB n))], h) := by
  refine R_intro hE.fn ?_
  rw [print_isReg_eq, scK_and]; rfl
theorem isOperand_R (hE : print_isOperand_In E) (o : Opd) (h : AHeap) : R E 163 [.agg o.cs] h = some ([.c (.bool (opB o))], h) := by
  refine R_intro hE.fn ?_
  have a0 : ∀ {α : Type} (f : Cell → Option α), atK o.cs 0 f = f (.int .i64 o.reg) := fun _ => rfl
  have a1 : ∀ {α : Type} (f : Cell → Option α), atK o.cs 1 f = f (.int .i64 o.val) := fun _ => rfl
  rw [print_isOperand_eq]
  simp only [a0, a1, asI_ok, isReg_R hE.c164, c1_ok, asB_ok, scK_and, scK_or]
  rfl

/-- A function value that answers as said. -/
def Says (E : Env) (h : AHeap) (f : Cell) (has : Int → Bool) : Prop := ∀ (n : Int) {α : Type} (F : AV → AHeap → Option α), (fnK f fun g cs => c1 (R E g ([.c (.int .i64 n)] ++ cs) h) F) = F (.c (.bool (has n))) h

theorem Fields_R (hE : print_Fields_In E) (i : Ins) {f : Cell} {has : Int → Bool} {h : AHeap} (hf : Says E h f has) : R E 159 [.agg i.cs, .c f] h = some ([.c (.bool (fldB has i))], h) := by
  refine R_intro hE.fn ?_
  rw [print_Fields_eq, ins_kind, asI_ok, if_pos ⟨rfl, rfl, rfl⟩, ins_kind, asI_ok]
  by_cases h1 : i.kind = 1
  · rw [if_pos (by simpa using h1), ins_loc, asI_ok, if_pos (by exact Nat.le_of_ble_eq_true rfl), if_pos (by exact Nat.le_of_ble_eq_true rfl), if_pos (by exact ⟨Nat.le_of_ble_eq_true rfl, rfl⟩), ins_loc, asI_ok, hf, asB_ok, if_pos (by exact Nat.le_of_ble_eq_true rfl), ins_a, isOperand_R hE.c163, c1_ok, asB_ok, scK_and, if_pos ⟨rfl, rfl⟩, if_pos ⟨rfl, rfl⟩, if_pos ⟨rfl, rfl⟩, scK_and, fldB, if_pos h1]
    rfl
  rw [if_neg (by simpa using h1)]
  by_cases h2 : i.kind = 2
  · rw [if_pos (by simpa using h2), ins_reg, asI_ok, ins_loc, asI_ok, if_pos (by exact Nat.le_of_ble_eq_true rfl), if_pos (by exact Nat.le_of_ble_eq_true rfl), ins_loc, asI_ok, hf, asB_ok, ins_reg, asI_ok, isReg_R hE.c164, c1_ok, asB_ok, scK_and, if_pos ⟨rfl, rfl⟩, if_pos ⟨rfl, rfl⟩, if_pos ⟨rfl, rfl⟩, scK_and, fldB, if_neg h1, if_pos h2]
    rfl
  rw [if_neg (by simpa using h2)]
  by_cases h3 : i.kind = 3
  · rw [if_pos (by simpa using h3), if_pos ⟨rfl, rfl⟩, if_pos ⟨rfl, rfl⟩, if_pos ⟨rfl, rfl⟩, scK_and, fldB, if_neg h1, if_neg h2, if_pos h3]
    rfl
  rw [if_neg (by simpa using h3)]
  by_cases h4 : i.kind = 4
  · rw [if_pos (by simpa using h4), ins_reg, asI_ok, ins_loc, asI_ok, if_pos (by exact Nat.le_of_ble_eq_true rfl), if_pos (by exact Nat.le_of_ble_eq_true rfl), if_pos (by exact Nat.le_of_ble_eq_true rfl), if_pos (by exact Nat.le_of_ble_eq_true rfl), if_pos (by exact ⟨Nat.le_of_ble_eq_true rfl, rfl⟩), if_pos (by exact ⟨Nat.le_of_ble_eq_true rfl, rfl⟩), ins_loc, asI_ok, hf, asB_ok, ins_reg, asI_ok, isReg_R hE.c164, c1_ok, asB_ok, scK_and, if_pos (by exact Nat.le_of_ble_eq_true rfl), ins_a, isOperand_R hE.c163, c1_ok, asB_ok, scK_and, if_pos (by exact Nat.le_of_ble_eq_true rfl), ins_b, isOperand_R hE.c163, c1_ok, asB_ok, scK_and, if_pos ⟨rfl, rfl⟩, if_pos ⟨rfl, rfl⟩, if_pos ⟨rfl, rfl⟩, scK_and, fldB, if_neg h1, if_neg h2, if_neg h3, if_pos h4]
    rfl
  rw [if_neg (by simpa using h4)]
  by_cases h5 : i.kind = 5
  · rw [if_pos (by simpa using h5), ins_reg, asI_ok, if_pos (by exact Nat.le_of_ble_eq_true rfl), ins_op, asI_ok, if_pos (by exact Nat.le_of_ble_eq_true rfl), if_pos (by exact Nat.le_of_ble_eq_true rfl), if_pos (by exact ⟨Nat.le_of_ble_eq_true rfl, rfl⟩), if_pos (by exact Nat.le_of_ble_eq_true rfl), if_pos (by exact ⟨Nat.le_of_ble_eq_true rfl, rfl⟩), ins_reg, asI_ok, isReg_R hE.c164, c1_ok, asB_ok, if_pos (by exact Nat.le_of_ble_eq_true rfl), ins_a, isOperand_R hE.c163, c1_ok, asB_ok, scK_and, if_pos (by exact Nat.le_of_ble_eq_true rfl), ins_b, isOperand_R hE.c163, c1_ok, asB_ok, scK_and, ins_op, asI_ok, scK_and, ins_op, asI_ok, scK_and, ins_op, asI_ok, if_pos (by exact Nat.le_of_ble_eq_true rfl), if_pos ⟨rfl, rfl⟩, scK_or, scK_and, if_pos ⟨rfl, rfl⟩, if_pos ⟨rfl, rfl⟩, if_pos ⟨rfl, rfl⟩, scK_and, fldB, if_neg h1, if_neg h2, if_neg h3, if_neg h4, if_pos h5]
    rfl
  rw [if_neg (by simpa using h5)]
  by_cases h6 : i.kind = 6
  · rw [if_pos (by simpa using h6), ins_n, asI_ok, if_pos (by exact Nat.le_of_ble_eq_true rfl), if_pos (by exact Nat.le_of_ble_eq_true rfl), if_pos (by exact Nat.le_of_ble_eq_true rfl), if_pos (by exact ⟨Nat.le_of_ble_eq_true rfl, rfl⟩), if_pos (by exact ⟨Nat.le_of_ble_eq_true rfl, rfl⟩), ins_n, asI_ok, if_pos (by exact Nat.le_of_ble_eq_true rfl), ins_a, isOperand_R hE.c163, c1_ok, asB_ok, scK_and, if_pos (by exact Nat.le_of_ble_eq_true rfl), ins_b, isOperand_R hE.c163, c1_ok, asB_ok, scK_and, if_pos ⟨rfl, rfl⟩, if_pos ⟨rfl, rfl⟩, if_pos ⟨rfl, rfl⟩, scK_and, fldB, if_neg h1, if_neg h2, if_neg h3, if_neg h4, if_neg h5, if_pos h6]
    rfl
  rw [if_neg (by simpa using h6), fldB, if_neg h1, if_neg h2, if_neg h3, if_neg h4, if_neg h5, if_neg h6]

/-- Is a name a word? -/
def chrB (b : UInt8) (first : Bool) : Bool := !((decide ((b.toNat : Int) < 97) || decide ((b.toNat : Int) > 122)) && ((first || decide ((b.toNat : Int) < 48)) || decide ((b.toNat : Int) > 57)))
def wordB (s : ByteArray) : Bool := (List.range s.size).all (fun i => match s[i]? with | some b => chrB b (i == 0) | none => true) && !(s.toList == (ByteArray.mk #[]).toList)

def atmB (a : Atm) : Bool := if a.thread = -1 then (a.reg == 0 && locB a.loc) else decide (a.thread ≥ 0) && decide (a.thread ≤ 9) && (a.loc == 0) && regB a.reg

def rowBad (r : List Atm) : Bool := r.length == 0 || r.any fun a => !atmB a
def condB (ck : Int) (any : List (List Atm)) : Bool := if ck = 0 then any.length == 0 else (ck == 1 || ck == 2) && decide ((any.length : Int) > 0) && !(any.any rowBad)

/-- The rows that came in are not too long. -/
structure PTest.fits (T : PTest) : Prop where
  name : T.name.size < 9223372036854775807
  inits : T.inits.length < 9223372036854775807
  thr : T.thr.length < 9223372036854775807
  code : ∀ c ∈ T.thr, c.length < 9223372036854775807
  any : T.any.length < 9223372036854775807
  row : ∀ c ∈ T.any, c.length < 9223372036854775807

def okT (T : PTest) : Bool := wordB T.name && !(T.inits.any fun p => !locB p.1) && !(T.thr.any fun c => c.any fun i => !fldB locB i) && condB T.ck T.any

end
end Jq

namespace Jq
open Go

/- jacquard/well.Jumps: 148 -/
def well_Jumps_k2 (C : CallF) (L : LoopF) (G : Glo) (h0 : AHeap) : Ex → St → Option (List AV × AHeap) :=
  kSeq (fun st => well_Jumps_p1.exec C L G st (well_Jumps.fin G h0)) (well_Jumps.fin G h0)
def well_Jumps_k3 (C : CallF) (L : LoopF) (G : Glo) (h0 : AHeap) : Ex → St → Option (List AV × AHeap) :=
  kBlk 0 (well_Jumps_k2 C L G h0)
def well_Jumps_s1 (x0 : Cell) (x5 : Cell) (a6 : Int) (a7 : Int) (h : AHeap) : St := ⟨[.v (.c x0), .top, .top, .top, .top, .v (.c x5), .v (.c (.int .i64 a6)), .v (.c (.int .i64 a7)), .top, .top, .top, .top, .top, .top, .top, .top, .top, .top, .top, .top, .top, .top, .top, .top, .top, .top, .top, .top, .top, .top, .top], [none], h⟩
def well_Jumps_F1 (C : CallF) (L : LoopF) (G : Glo) : St → Option (Ex × St) :=
  roundF (fun st f => well_Jumps_b1.exec C L G st f) [0, 5, 6, 7] [] [(0, [2], []), (1, [], [])]
def well_Jumps_x1_0 (b2 : Bool) (h : AHeap) : St := ⟨[.top, .top, .v (.c (.bool b2)), .top, .top, .top, .top, .top, .top, .top, .top, .top, .top, .top, .top, .top, .top, .top, .top, .top, .top, .top, .top, .top, .top, .top, .top, .top, .top, .top, .top], [none], h⟩
def well_Jumps_x1_1 (h : AHeap) : St := ⟨[.top, .top, .top, .top, .top, .top, .top, .top, .top, .top, .top, .top, .top, .top, .top, .top, .top, .top, .top, .top, .top, .top, .top, .top, .top, .top, .top, .top, .top, .top, .top], [none], h⟩
theorem well_Jumps_r1 (C : CallF) (L : LoopF) (G : Glo) (x0 : Cell) (x5 : Cell) (a6 : Int) (a7 : Int) (h : AHeap) :
    well_Jumps_F1 C L G (well_Jumps_s1 x0 x5 a6 a7 h) =
    if (decide (a7 < a6)) = true then idxSK 9 x5 a7 fun k_2 N_3 o_4 => rdH h k_2 N_3 fun l_5 => if o_4 + 9 ≤ l_5.length then if 0 = 0 ∧ (List.replicate 9 (Cell.int .i64 0)).length = 9 ∧ ((l_5.drop o_4).take 9).length = 9 then atK ((l_5.drop o_4).take 9) 0 fun q_6 => asI .i64 (.c q_6) fun n_7 => scK (n_7 == 6) true (atK ((l_5.drop o_4).take 9) 8 fun q_8 => asI .i64 (.c q_8) fun n_9 => scK (decide (n_9 < 1)) false (atK ((l_5.drop o_4).take 9) 8 fun q_10 => asI .i64 (.c q_10) fun n_11 => lenK x0 fun n_12 => let v_13 : Int := (G.wrap .i64 ((G.wrap .i64 (n_12 - a7)) - 1)); some ((decide (n_11 > v_13)), h)) true h fun b_14 h_15 => some (b_14, h_15)) false h fun b_16 h_17 => if b_16 = true then some (.ret, (well_Jumps_x1_0 false h_17)) else some (.normal, (well_Jumps_s1 x0 x5 a6 (G.wrap .i64 (a7 + 1)) h_17)) else none else none else some ((.exit 0), (well_Jumps_x1_1 h)) := by kernel_rfl
theorem well_Jumps_e1_0 (C : CallF) (L : LoopF) (G : Glo) (h0 : AHeap) (b2 : Bool) (h : AHeap) :
    (well_Jumps_k3 C L G h0) .ret (well_Jumps_x1_0 b2 h) =
    some ([(.c (.bool b2))], h) := by kernel_rfl
theorem well_Jumps_e1_1 (C : CallF) (L : LoopF) (G : Glo) (h0 : AHeap) (h : AHeap) :
    (well_Jumps_k3 C L G h0) (.exit 0) (well_Jumps_x1_1 h) =
    some ([(.c (.bool true))], h) := by kernel_rfl
set_option maxRecDepth 100000 in
theorem well_Jumps_eq (C : CallF) (L : LoopF) (G : Glo) (x0 : Cell) (h0 : AHeap) :
    well_Jumps.body C L G [(.c x0)] h0 =
    lenK x0 fun n_1 => (L (well_Jumps_F1 C L G) (well_Jumps_s1 x0 x0 n_1 0 h0)).bind fun p_18 => (well_Jumps_k3 C L G h0) p_18.1 p_18.2 := by kernel_rfl


end Jq

/- Is a test small enough? -/
namespace Jq
open Go

/-- Is a letter named, as it stands? -/
def thereW (T : PTest) (b : Nat) : Bool := (T.inits.any fun p => p.1 == (b : Int)) || (T.thr.any fun c => c.any fun i => i.loc == (b : Int)) || (T.any.any fun c => c.any fun a => a.loc == (b : Int))

def LtAt (h0 h : AHeap) (S : Nat → Bool) : Prop :=
  Kp h0.length h0 h ∧ ∃ m : Nat, m < 2 ^ 26 ∧ (∀ i, i < 26 → m.testBit i = S (97 + i)) ∧ blk? h h0.length = some ⟨true, 0, [.int .u64 (m : Int)]⟩

theorem LtAt.congr {h0 h : AHeap} {S S' : Nat → Bool} (v : LtAt h0 h S) (hs : ∀ b, 97 ≤ b → b ≤ 122 → S' b = S b) : LtAt h0 h S' := by
  obtain ⟨k, m, m1, m2, m3⟩ := v
  exact ⟨k, m, m1, fun i hi => by rw [m2 i hi, hs (97 + i) (by omega) (by omega)], m3⟩

section
variable {E : Env}

end
end Jq

/- A test's locations; is it too big; do its skips lead to where they may; the check. -/
namespace Jq
open Go

def locsW (T : PTest) : List Int := locsF (thereW T) 26
def jmpB (l : List Ins) : Bool := (List.range l.length).all fun k => match l[k]? with | some i => !(i.kind == 6 && (decide (i.n < 1) || decide (i.n > (l.length : Int) - k - 1))) | none => true
def sumL (l : List (List Ins)) : Int := ((l.map List.length).sum : Nat)
def bigB (T : PTest) : Bool := (T.thr.any fun c => decide ((c.length : Int) > 10)) || ((((((T.thr.length : Int) == 0 || decide ((T.thr.length : Int) > 4) || decide (sumL T.thr > 24)) || decide (((locsW T).length : Int) > 4)) || decide ((T.any.length : Int) > 8)) || (T.any.any fun r => decide ((r.length : Int) > 8))) || decide ((T.name.size : Int) > 20))
def twB (l : List (Int × Int)) : Bool := (List.range l.length).any fun k => match l[k]? with | some p => (l.take k).any (fun q => q.1 == p.1) | none => false
def outB (n : Nat) (a : Atm) : Bool := (a.thread != -1) && decide (a.thread ≥ (n : Int))
def checkT (T : PTest) : Int := if (!okT T) = true then 1 else if bigB T = true then 8 else if twB T.inits = true then 9 else if (T.thr.any fun c => !jmpB c) = true then 10 else if (T.any.any fun r => r.any (outB T.thr.length)) = true then 10 else 0

theorem PTest.small.fits {T : PTest} (s : T.small) (hn : T.name.size < 9223372036854775807) : T.fits :=
  ⟨hn, by have := s.inits; omega, by have := s.thr; omega, fun c hc => by have := s.code c hc; omega, by have := s.any; omega, fun c hc => by have := s.row c hc; omega⟩

section
variable {E : Env}

theorem Jumps_R (hE : well_Jumps_In E) {x : Cell} {l : List Ins} {h : AHeap} (hx : SlAt h x 9 (codeC l) l.length) (hl : l.length < 9223372036854775807) : R E 148 [.c x] h = some ([.c (.bool (jmpB l))], h) := by
  refine R_intro hE.fn ?_
  have loop : ∀ (n i : Nat), i + n = l.length → (Lim (well_Jumps_F1 (R E) Lim E.glob) (well_Jumps_s1 x x l.length (i : Int) h)).bind (fun q => well_Jumps_k3 (R E) Lim E.glob h q.1 q.2) =
      some ([.c (.bool ((List.range n).all fun k => match l[i + k]? with | some q => !(q.kind == 6 && (decide (q.n < 1) || decide (q.n > (l.length : Int) - ((i + k : Nat) : Int) - 1))) | none => true))], h) := by
    intro n
    induction n with
    | zero =>
      intro i hi
      have hr : well_Jumps_F1 (R E) Lim E.glob (well_Jumps_s1 x x l.length (i : Int) h) = some (.exit 0, well_Jumps_x1_1 h) := by rw [well_Jumps_r1, if_neg (by simp; omega)]
      rw [Lim_exit hr, bind_ok, well_Jumps_e1_1]; rfl
    | succ n ih =>
      intro i hi
      have hq : l[i]? = some l[i] := List.getElem?_eq_getElem (by omega)
      generalize l[i] = b at hq
      obtain ⟨off, cc, g1, g2, g3⟩ := hx.insG hq
      have hg : well_Jumps_F1 (R E) Lim E.glob (well_Jumps_s1 x x l.length (i : Int) h) = if (b.kind == 6 && (decide (b.n < 1) || decide (b.n > (l.length : Int) - (i : Int) - 1))) = true then some (.ret, well_Jumps_x1_0 false h) else some (.normal, well_Jumps_s1 x x l.length ((i + 1 : Nat) : Int) h) := by
        rw [well_Jumps_r1, if_pos (by simp; omega), g1, if_pos g2, g3, if_pos ⟨rfl, rfl, rfl⟩, ins_kind, asI_ok, ins_n, asI_ok, ins_n, asI_ok, hx.len]
        dsimp only
        rw [g_wrap_i64 (x := (l.length : Int) - (i : Int)) (by omega) (by omega), g_wrap_i64 (by omega) (by omega), scK_or, scK_and, g_succ (by omega)]
      rw [List.range_succ_eq_map, List.all_cons, List.all_map, Nat.add_zero, hq]
      dsimp only
      cases hb : (b.kind == 6 && (decide (b.n < 1) || decide (b.n > (l.length : Int) - (i : Int) - 1))) with
      | true =>
        rw [hb, if_pos rfl] at hg
        rw [Lim_ret hg, bind_ok, well_Jumps_e1_0]; rfl
      | false =>
        rw [hb, if_neg (by simp)] at hg
        have h1 := ih (i + 1) (by omega)
        rw [Bool.not_false, Bool.true_and]
        have he : ((List.range n).all ((fun k => match l[i + k]? with | some q => !(q.kind == 6 && (decide (q.n < 1) || decide (q.n > (l.length : Int) - ((i + k : Nat) : Int) - 1))) | none => true) ∘ Nat.succ)) = ((List.range n).all fun k => match l[i + 1 + k]? with | some q => !(q.kind == 6 && (decide (q.n < 1) || decide (q.n > (l.length : Int) - ((i + 1 + k : Nat) : Int) - 1))) | none => true) := by
          congr 1
          funext k
          show (match l[i + (k + 1)]? with | some q => !(q.kind == 6 && (decide (q.n < 1) || decide (q.n > (l.length : Int) - ((i + (k + 1) : Nat) : Int) - 1))) | none => true) = _
          rw [show i + (k + 1) = i + 1 + k by omega]
        rw [he]
        cases hL : Lim (well_Jumps_F1 (R E) Lim E.glob) (well_Jumps_s1 x x l.length ((i + 1 : Nat) : Int) h) with
        | none => rw [hL] at h1; cases h1
        | some w => rw [Lim_next hg hL]; rw [hL] at h1; exact h1
  have := loop l.length 0 (by omega)
  rw [well_Jumps_eq, hx.len]
  rw [show ((0 : Nat) : Int) = 0 from rfl] at this
  rw [this]
  unfold jmpB
  simp only [Nat.zero_add]

end
end Jq

/- Is a test too big; is a location begun twice; the check. -/
namespace Jq
open Go

section
variable {E : Env}

theorem sumT_le (l : List (List Ins)) (h : ∀ c ∈ l, c.length ≤ 1000) : (l.map List.length).sum ≤ 1000 * l.length := by
  induction l with
  | nil => simp
  | cons a l ih =>
    have h1 := h a (by simp)
    have h2 := ih fun c hc => h c (by simp [hc])
    rw [List.map_cons, List.sum_cons, List.length_cons]; omega

theorem sumL_snoc (l : List (List Ins)) (c : List Ins) : sumL (l ++ [c]) = sumL l + c.length := by
  unfold sumL; rw [List.map_append, List.sum_append]; simp

end
end Jq

namespace Jq
open Go

/- jacquard/jacquardlaw3.Small: 97 -/
def jacquardlaw3_Small_k2 (C : CallF) (L : LoopF) (G : Glo) (h0 : AHeap) : Ex → St → Option (List AV × AHeap) :=
  kSeq (fun st => jacquardlaw3_Small_p1.exec C L G st (jacquardlaw3_Small.fin G h0)) (jacquardlaw3_Small.fin G h0)
def jacquardlaw3_Small_c1 (a1 : Int) (x7 : Cell) (a8 : Int) (a9 : Int) (s0 : List Cell) (s1 : List Cell) (h : AHeap) : St := ⟨[.top, .v (.c (.int .i64 a1)), .top, .top, .loc 0 0, .loc 1 0, .top, .v (.c x7), .v (.c (.int .i64 a8)), .v (.c (.int .i64 a9)), .top, .top, .top, .top, .top, .top, .top, .top, .top, .top, .top, .top, .top, .top, .top, .top, .top, .top, .top, .top, .top, .top, .top, .top, .top, .top, .top, .top, .top, .top, .top, .top, .top, .top, .top, .top, .top, .top, .top, .top, .top, .top, .top, .top, .top, .top, .top, .top, .top, .top, .top, .top, .top, .top, .top, .top, .top, .top, .top, .top, .top, .top, .top, .top, .top, .top, .top, .top, .top, .top, .top, .top, .top, .top, .top, .top, .top, .top, .top, .top, .top, .top, .top, .top, .top, .top, .top, .top, .top, .top, .top, .top, .top, .top, .top, .top, .top, .top, .top, .top, .top, .top, .top, .top, .top, .top, .top, .top, .top, .top, .top, .top, .top, .top, .top, .top, .top, .top, .top, .top, .top, .top, .top, .top, .top, .top, .top, .top, .top, .top, .top, .top, .top, .top, .top, .top, .top, .top, .top, .top, .top, .top, .top, .top, .top, .top, .top, .top, .top, .top, .top, .top, .top, .top, .top, .top, .top, .top, .top, .top, .top, .top, .top, .top, .top, .top, .top, .top, .top, .top, .top, .top, .top, .top], [some s0, some s1, none], h⟩
def jacquardlaw3_Small_k3 (C : CallF) (L : LoopF) (G : Glo) (h0 : AHeap) : Ex → St → Option (List AV × AHeap) :=
  kSeq (fun st => jacquardlaw3_Small_p2.exec C L G st (jacquardlaw3_Small.fin G h0)) (jacquardlaw3_Small.fin G h0)
def jacquardlaw3_Small_k4 (C : CallF) (L : LoopF) (G : Glo) (h0 : AHeap) : Ex → St → Option (List AV × AHeap) :=
  kBlk 0 (jacquardlaw3_Small_k3 C L G h0)
def jacquardlaw3_Small_s2 (a1 : Int) (x7 : Cell) (a8 : Int) (a9 : Int) (a10 : Int) (a11 : Int) (s0 : List Cell) (s1 : List Cell) (h : AHeap) : St := ⟨[.top, .v (.c (.int .i64 a1)), .top, .top, .loc 0 0, .loc 1 0, .top, .v (.c x7), .v (.c (.int .i64 a8)), .v (.c (.int .i64 a9)), .v (.c (.int .i64 a10)), .v (.c (.int .i64 a11)), .top, .top, .top, .top, .top, .top, .top, .top, .top, .top, .top, .top, .top, .top, .top, .top, .top, .top, .top, .top, .top, .top, .top, .top, .top, .top, .top, .top, .top, .top, .top, .top, .top, .top, .top, .top, .top, .top, .top, .top, .top, .top, .top, .top, .top, .top, .top, .top, .top, .top, .top, .top, .top, .top, .top, .top, .top, .top, .top, .top, .top, .top, .top, .top, .top, .top, .top, .top, .top, .top, .top, .top, .top, .top, .top, .top, .top, .top, .top, .top, .top, .top, .top, .top, .top, .top, .top, .top, .top, .top, .top, .top, .top, .top, .top, .top, .top, .top, .top, .top, .top, .top, .top, .top, .top, .top, .top, .top, .top, .top, .top, .top, .top, .top, .top, .top, .top, .top, .top, .top, .top, .top, .top, .top, .top, .top, .top, .top, .top, .top, .top, .top, .top, .top, .top, .top, .top, .top, .top, .top, .top, .top, .top, .top, .top, .top, .top, .top, .top, .top, .top, .top, .top, .top, .top, .top, .top, .top, .top, .top, .top, .top, .top, .top, .top, .top, .top, .top, .top, .top, .top, .top], [some s0, some s1, none], h⟩
def jacquardlaw3_Small_F2 (C : CallF) (L : LoopF) (G : Glo) : St → Option (Ex × St) :=
  roundF (fun st f => jacquardlaw3_Small_b2.exec C L G st f) [1, 4, 5, 7, 8, 9, 10, 11] [0, 1] [(1, [4, 5, 7], [0, 1])]
def jacquardlaw3_Small_k5 (C : CallF) (L : LoopF) (G : Glo) : Ex → St → Option (Ex × St) :=
  kSeq (fun st => jacquardlaw3_Small_p3.exec C L G st (kLoop [1, 4, 5, 7, 8, 9, 10, 11] [0, 1] [(1, [4, 5, 7], [0, 1])])) (kLoop [1, 4, 5, 7, 8, 9, 10, 11] [0, 1] [(1, [4, 5, 7], [0, 1])])
def jacquardlaw3_Small_k6 (C : CallF) (L : LoopF) (G : Glo) : Ex → St → Option (Ex × St) :=
  kBlk 1 (jacquardlaw3_Small_k5 C L G)
def jacquardlaw3_Small_k7 (C : CallF) (L : LoopF) (G : Glo) : Ex → St → Option (Ex × St) :=
  kSeq (fun st => jacquardlaw3_Small_p4.exec C L G st (jacquardlaw3_Small_k6 C L G)) (jacquardlaw3_Small_k6 C L G)
def jacquardlaw3_Small_k8 (C : CallF) (L : LoopF) (G : Glo) : Ex → St → Option (Ex × St) :=
  kBlk 2 (jacquardlaw3_Small_k7 C L G)
def jacquardlaw3_Small_s1 (a1 : Int) (x7 : Cell) (a8 : Int) (a9 : Int) (a10 : Int) (a11 : Int) (x12 : Cell) (a13 : Int) (s0 : List Cell) (s1 : List Cell) (h : AHeap) : St := ⟨[.top, .v (.c (.int .i64 a1)), .top, .top, .loc 0 0, .loc 1 0, .top, .v (.c x7), .v (.c (.int .i64 a8)), .v (.c (.int .i64 a9)), .v (.c (.int .i64 a10)), .v (.c (.int .i64 a11)), .v (.c x12), .v (.c (.int .i64 a13)), .top, .top, .top, .top, .top, .top, .top, .top, .top, .top, .top, .top, .top, .top, .top, .top, .top, .top, .top, .top, .top, .top, .top, .top, .top, .top, .top, .top, .top, .top, .top, .top, .top, .top, .top, .top, .top, .top, .top, .top, .top, .top, .top, .top, .top, .top, .top, .top, .top, .top, .top, .top, .top, .top, .top, .top, .top, .top, .top, .top, .top, .top, .top, .top, .top, .top, .top, .top, .top, .top, .top, .top, .top, .top, .top, .top, .top, .top, .top, .top, .top, .top, .top, .top, .top, .top, .top, .top, .top, .top, .top, .top, .top, .top, .top, .top, .top, .top, .top, .top, .top, .top, .top, .top, .top, .top, .top, .top, .top, .top, .top, .top, .top, .top, .top, .top, .top, .top, .top, .top, .top, .top, .top, .top, .top, .top, .top, .top, .top, .top, .top, .top, .top, .top, .top, .top, .top, .top, .top, .top, .top, .top, .top, .top, .top, .top, .top, .top, .top, .top, .top, .top, .top, .top, .top, .top, .top, .top, .top, .top, .top, .top, .top, .top, .top, .top, .top, .top, .top, .top], [some s0, some s1, none], h⟩
def jacquardlaw3_Small_F1 (C : CallF) (L : LoopF) (G : Glo) : St → Option (Ex × St) :=
  roundF (fun st f => jacquardlaw3_Small_b1.exec C L G st f) [1, 4, 5, 7, 8, 9, 10, 11, 12, 13] [0, 1] [(3, [1, 4, 5, 7, 8, 9, 10, 11, 12], [0, 1])]
def jacquardlaw3_Small_k9 (C : CallF) (L : LoopF) (G : Glo) : Ex → St → Option (Ex × St) :=
  kSeq (fun st => jacquardlaw3_Small_p5.exec C L G st (kLoop [1, 4, 5, 7, 8, 9, 10, 11, 12, 13] [0, 1] [(3, [1, 4, 5, 7, 8, 9, 10, 11, 12], [0, 1])])) (kLoop [1, 4, 5, 7, 8, 9, 10, 11, 12, 13] [0, 1] [(3, [1, 4, 5, 7, 8, 9, 10, 11, 12], [0, 1])])
def jacquardlaw3_Small_k10 (C : CallF) (L : LoopF) (G : Glo) : Ex → St → Option (Ex × St) :=
  kBlk 3 (jacquardlaw3_Small_k9 C L G)
def jacquardlaw3_Small_k11 (C : CallF) (L : LoopF) (G : Glo) : Ex → St → Option (Ex × St) :=
  kSeq (fun st => jacquardlaw3_Small_p6.exec C L G st (jacquardlaw3_Small_k10 C L G)) (jacquardlaw3_Small_k10 C L G)
def jacquardlaw3_Small_c2 (a1 : Int) (x7 : Cell) (a8 : Int) (a9 : Int) (a10 : Int) (a11 : Int) (x12 : Cell) (a13 : Int) (a14 : Int) (a15 : Int) (s0 : List Cell) (s1 : List Cell) (s2 : List Cell) (h : AHeap) : St := ⟨[.top, .v (.c (.int .i64 a1)), .top, .top, .loc 0 0, .loc 1 0, .top, .v (.c x7), .v (.c (.int .i64 a8)), .v (.c (.int .i64 a9)), .v (.c (.int .i64 a10)), .v (.c (.int .i64 a11)), .v (.c x12), .v (.c (.int .i64 a13)), .v (.c (.int .i64 a14)), .v (.c (.int .i64 a15)), .loc 2 0, .top, .top, .top, .top, .top, .top, .top, .top, .top, .top, .top, .top, .top, .top, .top, .top, .top, .top, .top, .top, .top, .top, .top, .top, .top, .top, .top, .top, .top, .top, .top, .top, .top, .top, .top, .top, .top, .top, .top, .top, .top, .top, .top, .top, .top, .top, .top, .top, .top, .top, .top, .top, .top, .top, .top, .top, .top, .top, .top, .top, .top, .top, .top, .top, .top, .top, .top, .top, .top, .top, .top, .top, .top, .top, .top, .top, .top, .top, .top, .top, .top, .top, .top, .top, .top, .top, .top, .top, .top, .top, .top, .top, .top, .top, .top, .top, .top, .top, .top, .top, .top, .top, .top, .top, .top, .top, .top, .top, .top, .top, .top, .top, .top, .top, .top, .top, .top, .top, .top, .top, .top, .top, .top, .top, .top, .top, .top, .top, .top, .top, .top, .top, .top, .top, .top, .top, .top, .top, .top, .top, .top, .top, .top, .top, .top, .top, .top, .top, .top, .top, .top, .top, .top, .top, .top, .top, .top, .top, .top, .top, .top, .top, .top, .top, .top, .top, .top], [some s0, some s1, some s2], h⟩
def jacquardlaw3_Small_k12 (C : CallF) (L : LoopF) (G : Glo) : Ex → St → Option (Ex × St) :=
  kBlk 4 (jacquardlaw3_Small_k10 C L G)
def jacquardlaw3_Small_k13 (C : CallF) (L : LoopF) (G : Glo) : Ex → St → Option (Ex × St) :=
  kSeq (fun st => jacquardlaw3_Small_p7.exec C L G st (jacquardlaw3_Small_k12 C L G)) (jacquardlaw3_Small_k12 C L G)
def jacquardlaw3_Small_c3 (a1 : Int) (x7 : Cell) (a8 : Int) (a9 : Int) (a10 : Int) (a11 : Int) (x12 : Cell) (a13 : Int) (a15 : Int) (a17 : Int) (a83 : Int) (b95 : Bool) (s0 : List Cell) (s1 : List Cell) (s2 : List Cell) (h : AHeap) : St := ⟨[.top, .v (.c (.int .i64 a1)), .top, .top, .loc 0 0, .loc 1 0, .top, .v (.c x7), .v (.c (.int .i64 a8)), .v (.c (.int .i64 a9)), .v (.c (.int .i64 a10)), .v (.c (.int .i64 a11)), .v (.c x12), .v (.c (.int .i64 a13)), .top, .v (.c (.int .i64 a15)), .loc 2 0, .v (.c (.int .i64 a17)), .top, .top, .top, .top, .top, .top, .top, .top, .top, .top, .top, .top, .top, .top, .top, .top, .top, .top, .top, .top, .top, .top, .top, .top, .top, .top, .top, .top, .top, .top, .top, .top, .top, .top, .top, .top, .top, .top, .top, .top, .top, .top, .top, .top, .top, .top, .top, .top, .top, .top, .top, .top, .top, .top, .top, .top, .top, .top, .top, .top, .top, .top, .top, .top, .top, .v (.c (.int .i64 a83)), .top, .top, .top, .top, .top, .top, .top, .top, .top, .top, .top, .v (.c (.bool b95)), .top, .top, .top, .top, .top, .top, .top, .top, .top, .top, .top, .top, .top, .top, .top, .top, .top, .top, .top, .top, .top, .top, .top, .top, .top, .top, .top, .top, .top, .top, .top, .top, .top, .top, .top, .top, .top, .top, .top, .top, .top, .top, .top, .top, .top, .top, .top, .top, .top, .top, .top, .top, .top, .top, .top, .top, .top, .top, .top, .top, .top, .top, .top, .top, .top, .top, .top, .top, .top, .top, .top, .top, .top, .top, .top, .top, .top, .top, .top, .top, .top, .top, .top, .top, .top, .top, .top, .top], [some s0, some s1, some s2], h⟩
def jacquardlaw3_Small_k14 (C : CallF) (L : LoopF) (G : Glo) : Ex → St → Option (Ex × St) :=
  kSeq (fun st => jacquardlaw3_Small_p8.exec C L G st (jacquardlaw3_Small_k12 C L G)) (jacquardlaw3_Small_k12 C L G)
def jacquardlaw3_Small_c4 (a1 : Int) (x7 : Cell) (a8 : Int) (a9 : Int) (a10 : Int) (a11 : Int) (x12 : Cell) (a13 : Int) (a15 : Int) (a17 : Int) (a83 : Int) (b108 : Bool) (s0 : List Cell) (s1 : List Cell) (s2 : List Cell) (h : AHeap) : St := ⟨[.top, .v (.c (.int .i64 a1)), .top, .top, .loc 0 0, .loc 1 0, .top, .v (.c x7), .v (.c (.int .i64 a8)), .v (.c (.int .i64 a9)), .v (.c (.int .i64 a10)), .v (.c (.int .i64 a11)), .v (.c x12), .v (.c (.int .i64 a13)), .top, .v (.c (.int .i64 a15)), .loc 2 0, .v (.c (.int .i64 a17)), .top, .top, .top, .top, .top, .top, .top, .top, .top, .top, .top, .top, .top, .top, .top, .top, .top, .top, .top, .top, .top, .top, .top, .top, .top, .top, .top, .top, .top, .top, .top, .top, .top, .top, .top, .top, .top, .top, .top, .top, .top, .top, .top, .top, .top, .top, .top, .top, .top, .top, .top, .top, .top, .top, .top, .top, .top, .top, .top, .top, .top, .top, .top, .top, .top, .v (.c (.int .i64 a83)), .top, .top, .top, .top, .top, .top, .top, .top, .top, .top, .top, .top, .top, .top, .top, .top, .top, .top, .top, .top, .top, .top, .top, .top, .v (.c (.bool b108)), .top, .top, .top, .top, .top, .top, .top, .top, .top, .top, .top, .top, .top, .top, .top, .top, .top, .top, .top, .top, .top, .top, .top, .top, .top, .top, .top, .top, .top, .top, .top, .top, .top, .top, .top, .top, .top, .top, .top, .top, .top, .top, .top, .top, .top, .top, .top, .top, .top, .top, .top, .top, .top, .top, .top, .top, .top, .top, .top, .top, .top, .top, .top, .top, .top, .top, .top, .top, .top, .top, .top, .top, .top, .top, .top], [some s0, some s1, some s2], h⟩
def jacquardlaw3_Small_x1_3 (a1 : Int) (x7 : Cell) (a8 : Int) (a9 : Int) (a10 : Int) (a11 : Int) (x12 : Cell) (s0 : List Cell) (s1 : List Cell) (h : AHeap) : St := ⟨[.top, .v (.c (.int .i64 a1)), .top, .top, .loc 0 0, .loc 1 0, .top, .v (.c x7), .v (.c (.int .i64 a8)), .v (.c (.int .i64 a9)), .v (.c (.int .i64 a10)), .v (.c (.int .i64 a11)), .v (.c x12), .top, .top, .top, .top, .top, .top, .top, .top, .top, .top, .top, .top, .top, .top, .top, .top, .top, .top, .top, .top, .top, .top, .top, .top, .top, .top, .top, .top, .top, .top, .top, .top, .top, .top, .top, .top, .top, .top, .top, .top, .top, .top, .top, .top, .top, .top, .top, .top, .top, .top, .top, .top, .top, .top, .top, .top, .top, .top, .top, .top, .top, .top, .top, .top, .top, .top, .top, .top, .top, .top, .top, .top, .top, .top, .top, .top, .top, .top, .top, .top, .top, .top, .top, .top, .top, .top, .top, .top, .top, .top, .top, .top, .top, .top, .top, .top, .top, .top, .top, .top, .top, .top, .top, .top, .top, .top, .top, .top, .top, .top, .top, .top, .top, .top, .top, .top, .top, .top, .top, .top, .top, .top, .top, .top, .top, .top, .top, .top, .top, .top, .top, .top, .top, .top, .top, .top, .top, .top, .top, .top, .top, .top, .top, .top, .top, .top, .top, .top, .top, .top, .top, .top, .top, .top, .top, .top, .top, .top, .top, .top, .top, .top, .top, .top, .top, .top, .top, .top, .top, .top, .top], [some s0, some s1, none], h⟩
def jacquardlaw3_Small_x2_1 (x7 : Cell) (s0 : List Cell) (s1 : List Cell) (h : AHeap) : St := ⟨[.top, .top, .top, .top, .loc 0 0, .loc 1 0, .top, .v (.c x7), .top, .top, .top, .top, .top, .top, .top, .top, .top, .top, .top, .top, .top, .top, .top, .top, .top, .top, .top, .top, .top, .top, .top, .top, .top, .top, .top, .top, .top, .top, .top, .top, .top, .top, .top, .top, .top, .top, .top, .top, .top, .top, .top, .top, .top, .top, .top, .top, .top, .top, .top, .top, .top, .top, .top, .top, .top, .top, .top, .top, .top, .top, .top, .top, .top, .top, .top, .top, .top, .top, .top, .top, .top, .top, .top, .top, .top, .top, .top, .top, .top, .top, .top, .top, .top, .top, .top, .top, .top, .top, .top, .top, .top, .top, .top, .top, .top, .top, .top, .top, .top, .top, .top, .top, .top, .top, .top, .top, .top, .top, .top, .top, .top, .top, .top, .top, .top, .top, .top, .top, .top, .top, .top, .top, .top, .top, .top, .top, .top, .top, .top, .top, .top, .top, .top, .top, .top, .top, .top, .top, .top, .top, .top, .top, .top, .top, .top, .top, .top, .top, .top, .top, .top, .top, .top, .top, .top, .top, .top, .top, .top, .top, .top, .top, .top, .top, .top, .top, .top, .top, .top, .top, .top, .top, .top, .top], [some s0, some s1, none], h⟩
theorem jacquardlaw3_Small_ec4_n (C : CallF) (L : LoopF) (G : Glo) (a1 : Int) (x7 : Cell) (a8 : Int) (a9 : Int) (a10 : Int) (a11 : Int) (x12 : Cell) (a13 : Int) (a15 : Int) (a17 : Int) (a83 : Int) (b108 : Bool) (s0 : List Cell) (s1 : List Cell) (s2 : List Cell) (h : AHeap) :
    (jacquardlaw3_Small_k14 C L G) .normal (jacquardlaw3_Small_c4 a1 x7 a8 a9 a10 a11 x12 a13 a15 a17 a83 b108 s0 s1 s2 h) =
    if b108 = true then if (splice (splice (splice (List.replicate 9 (Cell.int .i64 0)) 0 ([(.int .i64 2)] : List Cell)) 1 ([(.int .i64 a17)] : List Cell)) 2 ([(.int .i64 a15)] : List Cell)).length = 9 ∧ 0 + 9 ≤ (List.replicate 9 (Cell.int .i64 0)).length then if (splice (List.replicate 9 (Cell.int .i64 0)) 0 (splice (splice (splice (List.replicate 9 (Cell.int .i64 0)) 0 ([(.int .i64 2)] : List Cell)) 1 ([(.int .i64 a17)] : List Cell)) 2 ([(.int .i64 a15)] : List Cell))).length = 1 * 9 then appK 9 72 x12 (splice (List.replicate 9 (Cell.int .i64 0)) 0 (splice (splice (splice (List.replicate 9 (Cell.int .i64 0)) 0 ([(.int .i64 2)] : List Cell)) 1 ([(.int .i64 a17)] : List Cell)) 2 ([(.int .i64 a15)] : List Cell))) h fun x_41 h_42 => some (.normal, (jacquardlaw3_Small_s1 a1 x7 a8 a9 (G.wrap .i64 (a10 + 1)) a11 x_41 (G.wrap .i64 (a13 - 1)) s0 s1 h_42)) else none else none else if (a83 == 8) = true then if (splice (List.replicate 9 (Cell.int .i64 0)) 0 ([(.int .i64 3)] : List Cell)).length = 9 ∧ 0 + 9 ≤ (List.replicate 9 (Cell.int .i64 0)).length then if (splice (List.replicate 9 (Cell.int .i64 0)) 0 (splice (List.replicate 9 (Cell.int .i64 0)) 0 ([(.int .i64 3)] : List Cell))).length = 1 * 9 then appK 9 72 x12 (splice (List.replicate 9 (Cell.int .i64 0)) 0 (splice (List.replicate 9 (Cell.int .i64 0)) 0 ([(.int .i64 3)] : List Cell))) h fun x_43 h_44 => some (.normal, (jacquardlaw3_Small_s1 a1 x7 a8 a9 a10 a11 x_43 (G.wrap .i64 (a13 - 1)) s0 s1 h_44)) else none else none else if (a83 == 9) = true then if 0 = 0 ∧ s2.length = 2 then if s2.length = 2 ∧ 3 + 2 ≤ (splice (splice (splice (List.replicate 9 (Cell.int .i64 0)) 0 ([(.int .i64 4)] : List Cell)) 1 ([(.int .i64 a17)] : List Cell)) 2 ([(.int .i64 a15)] : List Cell)).length then if (splice (splice [Cell.int .i64 0, Cell.int .i64 0] 0 ([(.int .i64 (-1))] : List Cell)) 1 ([(.int .i64 1)] : List Cell)).length = 2 ∧ 6 + 2 ≤ (splice (splice (splice (splice (List.replicate 9 (Cell.int .i64 0)) 0 ([(.int .i64 4)] : List Cell)) 1 ([(.int .i64 a17)] : List Cell)) 2 ([(.int .i64 a15)] : List Cell)) 3 s2).length then if (splice (splice (splice (splice (splice (List.replicate 9 (Cell.int .i64 0)) 0 ([(.int .i64 4)] : List Cell)) 1 ([(.int .i64 a17)] : List Cell)) 2 ([(.int .i64 a15)] : List Cell)) 3 s2) 6 (splice (splice [Cell.int .i64 0, Cell.int .i64 0] 0 ([(.int .i64 (-1))] : List Cell)) 1 ([(.int .i64 1)] : List Cell))).length = 9 ∧ 0 + 9 ≤ (List.replicate 9 (Cell.int .i64 0)).length then if (splice (List.replicate 9 (Cell.int .i64 0)) 0 (splice (splice (splice (splice (splice (List.replicate 9 (Cell.int .i64 0)) 0 ([(.int .i64 4)] : List Cell)) 1 ([(.int .i64 a17)] : List Cell)) 2 ([(.int .i64 a15)] : List Cell)) 3 s2) 6 (splice (splice [Cell.int .i64 0, Cell.int .i64 0] 0 ([(.int .i64 (-1))] : List Cell)) 1 ([(.int .i64 1)] : List Cell)))).length = 1 * 9 then appK 9 72 x12 (splice (List.replicate 9 (Cell.int .i64 0)) 0 (splice (splice (splice (splice (splice (List.replicate 9 (Cell.int .i64 0)) 0 ([(.int .i64 4)] : List Cell)) 1 ([(.int .i64 a17)] : List Cell)) 2 ([(.int .i64 a15)] : List Cell)) 3 s2) 6 (splice (splice [Cell.int .i64 0, Cell.int .i64 0] 0 ([(.int .i64 (-1))] : List Cell)) 1 ([(.int .i64 1)] : List Cell)))) h fun x_45 h_46 => some (.normal, (jacquardlaw3_Small_s1 a1 x7 a8 a9 (G.wrap .i64 (a10 + 1)) a11 x_45 (G.wrap .i64 (a13 - 1)) s0 s1 h_46)) else none else none else none else none else none else if (a83 == 10) = true then if 0 = 0 ∧ s2.length = 2 then if s2.length = 2 ∧ 3 + 2 ≤ (splice (splice (List.replicate 9 (Cell.int .i64 0)) 0 ([(.int .i64 5)] : List Cell)) 1 ([(.int .i64 a17)] : List Cell)).length then if ([(.int .i64 6)] : List Cell).length = 1 ∧ 5 + 1 ≤ (splice (splice (splice (List.replicate 9 (Cell.int .i64 0)) 0 ([(.int .i64 5)] : List Cell)) 1 ([(.int .i64 a17)] : List Cell)) 3 s2).length then if (splice (splice [Cell.int .i64 0, Cell.int .i64 0] 0 ([(.int .i64 (-1))] : List Cell)) 1 ([(.int .i64 1)] : List Cell)).length = 2 ∧ 6 + 2 ≤ (splice (splice (splice (splice (List.replicate 9 (Cell.int .i64 0)) 0 ([(.int .i64 5)] : List Cell)) 1 ([(.int .i64 a17)] : List Cell)) 3 s2) 5 ([(.int .i64 6)] : List Cell)).length then if (splice (splice (splice (splice (splice (List.replicate 9 (Cell.int .i64 0)) 0 ([(.int .i64 5)] : List Cell)) 1 ([(.int .i64 a17)] : List Cell)) 3 s2) 5 ([(.int .i64 6)] : List Cell)) 6 (splice (splice [Cell.int .i64 0, Cell.int .i64 0] 0 ([(.int .i64 (-1))] : List Cell)) 1 ([(.int .i64 1)] : List Cell))).length = 9 ∧ 0 + 9 ≤ (List.replicate 9 (Cell.int .i64 0)).length then if (splice (List.replicate 9 (Cell.int .i64 0)) 0 (splice (splice (splice (splice (splice (List.replicate 9 (Cell.int .i64 0)) 0 ([(.int .i64 5)] : List Cell)) 1 ([(.int .i64 a17)] : List Cell)) 3 s2) 5 ([(.int .i64 6)] : List Cell)) 6 (splice (splice [Cell.int .i64 0, Cell.int .i64 0] 0 ([(.int .i64 (-1))] : List Cell)) 1 ([(.int .i64 1)] : List Cell)))).length = 1 * 9 then appK 9 72 x12 (splice (List.replicate 9 (Cell.int .i64 0)) 0 (splice (splice (splice (splice (splice (List.replicate 9 (Cell.int .i64 0)) 0 ([(.int .i64 5)] : List Cell)) 1 ([(.int .i64 a17)] : List Cell)) 3 s2) 5 ([(.int .i64 6)] : List Cell)) 6 (splice (splice [Cell.int .i64 0, Cell.int .i64 0] 0 ([(.int .i64 (-1))] : List Cell)) 1 ([(.int .i64 1)] : List Cell)))) h fun x_47 h_48 => some (.normal, (jacquardlaw3_Small_s1 a1 x7 a8 a9 a10 a11 x_47 (G.wrap .i64 (a13 - 1)) s0 s1 h_48)) else none else none else none else none else none else none else if 0 = 0 ∧ s2.length = 2 then if s2.length = 2 ∧ 3 + 2 ≤ (splice (List.replicate 9 (Cell.int .i64 0)) 0 ([(.int .i64 6)] : List Cell)).length then if (splice [Cell.int .i64 0, Cell.int .i64 0] 0 ([(.int .i64 (-1))] : List Cell)).length = 2 ∧ 6 + 2 ≤ (splice (splice (List.replicate 9 (Cell.int .i64 0)) 0 ([(.int .i64 6)] : List Cell)) 3 s2).length then if ([(.int .i64 1)] : List Cell).length = 1 ∧ 8 + 1 ≤ (splice (splice (splice (List.replicate 9 (Cell.int .i64 0)) 0 ([(.int .i64 6)] : List Cell)) 3 s2) 6 (splice [Cell.int .i64 0, Cell.int .i64 0] 0 ([(.int .i64 (-1))] : List Cell))).length then if (splice (splice [Cell.int .i64 0, Cell.int .i64 0] 0 ([(.int .i64 (-1))] : List Cell)) 1 ([(.int .i64 2)] : List Cell)).length = 2 ∧ 3 + 2 ≤ (splice (splice (List.replicate 9 (Cell.int .i64 0)) 0 ([(.int .i64 1)] : List Cell)) 2 ([(.int .i64 a15)] : List Cell)).length then if (splice (splice (splice (splice (List.replicate 9 (Cell.int .i64 0)) 0 ([(.int .i64 6)] : List Cell)) 3 s2) 6 (splice [Cell.int .i64 0, Cell.int .i64 0] 0 ([(.int .i64 (-1))] : List Cell))) 8 ([(.int .i64 1)] : List Cell)).length = 9 ∧ 0 + 9 ≤ (List.replicate 18 (Cell.int .i64 0)).length then if (splice (splice (splice (List.replicate 9 (Cell.int .i64 0)) 0 ([(.int .i64 1)] : List Cell)) 2 ([(.int .i64 a15)] : List Cell)) 3 (splice (splice [Cell.int .i64 0, Cell.int .i64 0] 0 ([(.int .i64 (-1))] : List Cell)) 1 ([(.int .i64 2)] : List Cell))).length = 9 ∧ 9 + 9 ≤ (splice (List.replicate 18 (Cell.int .i64 0)) 0 (splice (splice (splice (splice (List.replicate 9 (Cell.int .i64 0)) 0 ([(.int .i64 6)] : List Cell)) 3 s2) 6 (splice [Cell.int .i64 0, Cell.int .i64 0] 0 ([(.int .i64 (-1))] : List Cell))) 8 ([(.int .i64 1)] : List Cell))).length then if (splice (splice (List.replicate 18 (Cell.int .i64 0)) 0 (splice (splice (splice (splice (List.replicate 9 (Cell.int .i64 0)) 0 ([(.int .i64 6)] : List Cell)) 3 s2) 6 (splice [Cell.int .i64 0, Cell.int .i64 0] 0 ([(.int .i64 (-1))] : List Cell))) 8 ([(.int .i64 1)] : List Cell))) 9 (splice (splice (splice (List.replicate 9 (Cell.int .i64 0)) 0 ([(.int .i64 1)] : List Cell)) 2 ([(.int .i64 a15)] : List Cell)) 3 (splice (splice [Cell.int .i64 0, Cell.int .i64 0] 0 ([(.int .i64 (-1))] : List Cell)) 1 ([(.int .i64 2)] : List Cell)))).length = 2 * 9 then appK 9 72 x12 (splice (splice (List.replicate 18 (Cell.int .i64 0)) 0 (splice (splice (splice (splice (List.replicate 9 (Cell.int .i64 0)) 0 ([(.int .i64 6)] : List Cell)) 3 s2) 6 (splice [Cell.int .i64 0, Cell.int .i64 0] 0 ([(.int .i64 (-1))] : List Cell))) 8 ([(.int .i64 1)] : List Cell))) 9 (splice (splice (splice (List.replicate 9 (Cell.int .i64 0)) 0 ([(.int .i64 1)] : List Cell)) 2 ([(.int .i64 a15)] : List Cell)) 3 (splice (splice [Cell.int .i64 0, Cell.int .i64 0] 0 ([(.int .i64 (-1))] : List Cell)) 1 ([(.int .i64 2)] : List Cell)))) h fun x_49 h_50 => some (.normal, (jacquardlaw3_Small_s1 a1 x7 a8 a9 (G.wrap .i64 (a10 + 1)) a11 x_49 (G.wrap .i64 (a13 - 1)) s0 s1 h_50)) else none else none else none else none else none else none else none else none := by kernel_rfl
theorem jacquardlaw3_Small_ec3_n (C : CallF) (L : LoopF) (G : Glo) (a1 : Int) (x7 : Cell) (a8 : Int) (a9 : Int) (a10 : Int) (a11 : Int) (x12 : Cell) (a13 : Int) (a15 : Int) (a17 : Int) (a83 : Int) (b95 : Bool) (s0 : List Cell) (s1 : List Cell) (s2 : List Cell) (h : AHeap) :
    (jacquardlaw3_Small_k13 C L G) .normal (jacquardlaw3_Small_c3 a1 x7 a8 a9 a10 a11 x12 a13 a15 a17 a83 b95 s0 s1 s2 h) =
    if b95 = true then if 0 = 0 ∧ s2.length = 2 then if s2.length = 2 ∧ 3 + 2 ≤ (splice (splice (List.replicate 9 (Cell.int .i64 0)) 0 ([(.int .i64 1)] : List Cell)) 2 ([(.int .i64 a15)] : List Cell)).length then if (splice (splice (splice (List.replicate 9 (Cell.int .i64 0)) 0 ([(.int .i64 1)] : List Cell)) 2 ([(.int .i64 a15)] : List Cell)) 3 s2).length = 9 ∧ 0 + 9 ≤ (List.replicate 9 (Cell.int .i64 0)).length then if (splice (List.replicate 9 (Cell.int .i64 0)) 0 (splice (splice (splice (List.replicate 9 (Cell.int .i64 0)) 0 ([(.int .i64 1)] : List Cell)) 2 ([(.int .i64 a15)] : List Cell)) 3 s2)).length = 1 * 9 then appK 9 72 x12 (splice (List.replicate 9 (Cell.int .i64 0)) 0 (splice (splice (splice (List.replicate 9 (Cell.int .i64 0)) 0 ([(.int .i64 1)] : List Cell)) 2 ([(.int .i64 a15)] : List Cell)) 3 s2)) h fun x_39 h_40 => some (.normal, (jacquardlaw3_Small_s1 a1 x7 a8 a9 (G.wrap .i64 (a10 + 1)) a11 x_39 (G.wrap .i64 (a13 - 1)) s0 s1 h_40)) else none else none else none else none else (if (a83 == 4) = true then some (.normal, (jacquardlaw3_Small_c4 a1 x7 a8 a9 a10 a11 x12 a13 a15 a17 a83 (a83 == 4) s0 s1 s2 h)) else if (a83 == 5) = true then some (.normal, (jacquardlaw3_Small_c4 a1 x7 a8 a9 a10 a11 x12 a13 a15 a17 a83 (a83 == 5) s0 s1 s2 h)) else if (a83 == 6) = true then some (.normal, (jacquardlaw3_Small_c4 a1 x7 a8 a9 a10 a11 x12 a13 a15 a17 a83 (a83 == 6) s0 s1 s2 h)) else some (.normal, (jacquardlaw3_Small_c4 a1 x7 a8 a9 a10 a11 x12 a13 a15 a17 a83 (a83 == 7) s0 s1 s2 h)) : Option (Ex × St)).bind fun p_51 => (jacquardlaw3_Small_k14 C L G) p_51.1 p_51.2 := by kernel_rfl
theorem jacquardlaw3_Small_ec2_n (C : CallF) (L : LoopF) (G : Glo) (a1 : Int) (x7 : Cell) (a8 : Int) (a9 : Int) (a10 : Int) (a11 : Int) (x12 : Cell) (a13 : Int) (a14 : Int) (a15 : Int) (s0 : List Cell) (s1 : List Cell) (s2 : List Cell) (h : AHeap) :
    (jacquardlaw3_Small_k11 C L G) .normal (jacquardlaw3_Small_c2 a1 x7 a8 a9 a10 a11 x12 a13 a14 a15 s0 s1 s2 h) =
    (if ((G.rem .i64 a14 12) == 0) = true then some (.normal, (jacquardlaw3_Small_c3 a1 x7 a8 a9 a10 a11 x12 a13 a15 (G.band .i64 (G.shr .i64 a14 11) 1) (G.rem .i64 a14 12) ((G.rem .i64 a14 12) == 0) s0 s1 s2 h)) else if ((G.rem .i64 a14 12) == 1) = true then some (.normal, (jacquardlaw3_Small_c3 a1 x7 a8 a9 a10 a11 x12 a13 a15 (G.band .i64 (G.shr .i64 a14 11) 1) (G.rem .i64 a14 12) ((G.rem .i64 a14 12) == 1) s0 s1 s2 h)) else if ((G.rem .i64 a14 12) == 2) = true then some (.normal, (jacquardlaw3_Small_c3 a1 x7 a8 a9 a10 a11 x12 a13 a15 (G.band .i64 (G.shr .i64 a14 11) 1) (G.rem .i64 a14 12) ((G.rem .i64 a14 12) == 2) s0 s1 s2 h)) else some (.normal, (jacquardlaw3_Small_c3 a1 x7 a8 a9 a10 a11 x12 a13 a15 (G.band .i64 (G.shr .i64 a14 11) 1) (G.rem .i64 a14 12) ((G.rem .i64 a14 12) == 3) s0 s1 s2 h)) : Option (Ex × St)).bind fun p_52 => (jacquardlaw3_Small_k13 C L G) p_52.1 p_52.2 := by kernel_rfl
theorem jacquardlaw3_Small_r1 (C : CallF) (L : LoopF) (G : Glo) (a1 : Int) (x7 : Cell) (a8 : Int) (a9 : Int) (a10 : Int) (a11 : Int) (x12 : Cell) (a13 : Int) (s0 : List Cell) (s1 : List Cell) (h : AHeap) :
    jacquardlaw3_Small_F1 C L G (jacquardlaw3_Small_s1 a1 x7 a8 a9 a10 a11 x12 a13 s0 s1 h) =
    scK (decide (a13 > 0)) true (some ((decide (a10 < a1)), h)) false h fun b_31 h_32 => if b_31 = true then fnK x7 fun g_33 l_34 => c1 (C g_33 ([] ++ l_34) h_32) fun y_36 h_35 => asI .i64 y_36 fun n_37 => if a9 = 0 then none else let v_38 : Int := (G.wrap .i64 (120 + (G.rem .i64 (G.shr .i64 n_37 4) a9))); if 0 = 0 ∧ [Cell.int .i64 0, Cell.int .i64 0].length = 2 ∧ (splice (splice [Cell.int .i64 0, Cell.int .i64 0] 0 ([(.int .i64 (-1))] : List Cell)) 1 ([(.int .i64 (G.rem .i64 (G.shr .i64 n_37 6) 3))] : List Cell)).length = 2 then (if ((G.rem .i64 (G.shr .i64 n_37 8) 3) == 0) = true then if 0 = 0 ∧ (splice (splice [Cell.int .i64 0, Cell.int .i64 0] 0 ([(.int .i64 (-1))] : List Cell)) 1 ([(.int .i64 (G.rem .i64 (G.shr .i64 n_37 6) 3))] : List Cell)).length = 2 ∧ (splice [Cell.int .i64 0, Cell.int .i64 0] 0 ([(.int .i64 (G.band .i64 (G.shr .i64 n_37 10) 1))] : List Cell)).length = 2 then some (.normal, (jacquardlaw3_Small_c2 a1 x7 a8 a9 a10 a11 x12 a13 n_37 v_38 s0 s1 (splice [Cell.int .i64 0, Cell.int .i64 0] 0 ([(.int .i64 (G.band .i64 (G.shr .i64 n_37 10) 1))] : List Cell)) h_35)) else none else some (.normal, (jacquardlaw3_Small_c2 a1 x7 a8 a9 a10 a11 x12 a13 n_37 v_38 s0 s1 (splice (splice [Cell.int .i64 0, Cell.int .i64 0] 0 ([(.int .i64 (-1))] : List Cell)) 1 ([(.int .i64 (G.rem .i64 (G.shr .i64 n_37 6) 3))] : List Cell)) h_35)) : Option (Ex × St)).bind fun p_53 => (jacquardlaw3_Small_k11 C L G) p_53.1 p_53.2 else none else some ((.exit 2), (jacquardlaw3_Small_x1_3 a1 x7 a8 a9 a10 a11 x12 s0 s1 h_32)) := by kernel_rfl
theorem jacquardlaw3_Small_e1_3 (C : CallF) (L : LoopF) (G : Glo) (a1 : Int) (x7 : Cell) (a8 : Int) (a9 : Int) (a10 : Int) (a11 : Int) (x12 : Cell) (s0 : List Cell) (s1 : List Cell) (h : AHeap) :
    (jacquardlaw3_Small_k8 C L G) (.exit 2) (jacquardlaw3_Small_x1_3 a1 x7 a8 a9 a10 a11 x12 s0 s1 h) =
    atK s1 2 fun q_54 => if (splice [Cell.nils] 0 ([x12] : List Cell)).length = 1 * 1 then appK 1 24 q_54 (splice [Cell.nils] 0 ([x12] : List Cell)) h fun x_55 h_56 => if 2 < s1.length then some (.normal, (jacquardlaw3_Small_s2 a1 x7 a8 a9 a10 (G.wrap .i64 (a11 + 1)) s0 (s1.set 2 x_55) h_56)) else none else none := by kernel_rfl
theorem jacquardlaw3_Small_r2 (C : CallF) (L : LoopF) (G : Glo) (a1 : Int) (x7 : Cell) (a8 : Int) (a9 : Int) (a10 : Int) (a11 : Int) (s0 : List Cell) (s1 : List Cell) (h : AHeap) :
    jacquardlaw3_Small_F2 C L G (jacquardlaw3_Small_s2 a1 x7 a8 a9 a10 a11 s0 s1 h) =
    if (decide (a11 < a8)) = true then fnK x7 fun g_26 l_27 => c1 (C g_26 ([] ++ l_27) h) fun y_29 h_28 => asI .i64 y_29 fun n_30 => (L (jacquardlaw3_Small_F1 C L G) (jacquardlaw3_Small_s1 a1 x7 a8 a9 a10 a11 .nils (G.wrap .i64 ((G.rem .i64 n_30 3) + 1)) s0 s1 h_28)).bind fun p_57 => (jacquardlaw3_Small_k8 C L G) p_57.1 p_57.2 else some ((.exit 0), (jacquardlaw3_Small_x2_1 x7 s0 s1 h)) := by kernel_rfl
theorem jacquardlaw3_Small_e2_1 (C : CallF) (L : LoopF) (G : Glo) (h0 : AHeap) (x7 : Cell) (s0 : List Cell) (s1 : List Cell) (h : AHeap) :
    (jacquardlaw3_Small_k4 C L G h0) (.exit 0) (jacquardlaw3_Small_x2_1 x7 s0 s1 h) =
    fnK x7 fun g_58 l_59 => c1 (C g_58 ([] ++ l_59) h) fun y_61 h_60 => asI .i64 y_61 fun n_62 => if ((G.rem .i64 n_62 3) == 0) = true then let v_63 : Int := (G.wrap .i64 ((G.rem .i64 (G.quo .i64 n_62 3) 2) + 1)); if (splice (splice (splice [Cell.int .i64 0, Cell.int .i64 0, Cell.int .i64 0, Cell.int .i64 0] 0 ([(.int .i64 0)] : List Cell)) 1 ([(.int .i64 (G.band .i64 (G.shr .i64 n_62 3) 1))] : List Cell)) 3 ([(.int .i64 (G.band .i64 (G.shr .i64 n_62 4) 1))] : List Cell)).length = 4 ∧ 0 + 4 ≤ [Cell.int .i64 0, Cell.int .i64 0, Cell.int .i64 0, Cell.int .i64 0].length then if (splice [Cell.int .i64 0, Cell.int .i64 0, Cell.int .i64 0, Cell.int .i64 0] 0 (splice (splice (splice [Cell.int .i64 0, Cell.int .i64 0, Cell.int .i64 0, Cell.int .i64 0] 0 ([(.int .i64 0)] : List Cell)) 1 ([(.int .i64 (G.band .i64 (G.shr .i64 n_62 3) 1))] : List Cell)) 3 ([(.int .i64 (G.band .i64 (G.shr .i64 n_62 4) 1))] : List Cell))).length = 1 * 4 then if (splice (splice (splice [Cell.int .i64 0, Cell.int .i64 0, Cell.int .i64 0, Cell.int .i64 0] 0 ([(.int .i64 (-1))] : List Cell)) 2 ([(.int .i64 120)] : List Cell)) 3 ([(.int .i64 (G.rem .i64 (G.shr .i64 n_62 5) 3))] : List Cell)).length = 4 ∧ 0 + 4 ≤ (List.replicate 8 (Cell.int .i64 0)).length then if (splice (splice (splice [Cell.int .i64 0, Cell.int .i64 0, Cell.int .i64 0, Cell.int .i64 0] 0 ([(.int .i64 1)] : List Cell)) 1 ([(.int .i64 0)] : List Cell)) 3 ([(.int .i64 (G.band .i64 (G.shr .i64 n_62 7) 1))] : List Cell)).length = 4 ∧ 4 + 4 ≤ (splice (List.replicate 8 (Cell.int .i64 0)) 0 (splice (splice (splice [Cell.int .i64 0, Cell.int .i64 0, Cell.int .i64 0, Cell.int .i64 0] 0 ([(.int .i64 (-1))] : List Cell)) 2 ([(.int .i64 120)] : List Cell)) 3 ([(.int .i64 (G.rem .i64 (G.shr .i64 n_62 5) 3))] : List Cell))).length then if (splice (splice (List.replicate 8 (Cell.int .i64 0)) 0 (splice (splice (splice [Cell.int .i64 0, Cell.int .i64 0, Cell.int .i64 0, Cell.int .i64 0] 0 ([(.int .i64 (-1))] : List Cell)) 2 ([(.int .i64 120)] : List Cell)) 3 ([(.int .i64 (G.rem .i64 (G.shr .i64 n_62 5) 3))] : List Cell))) 4 (splice (splice (splice [Cell.int .i64 0, Cell.int .i64 0, Cell.int .i64 0, Cell.int .i64 0] 0 ([(.int .i64 1)] : List Cell)) 1 ([(.int .i64 0)] : List Cell)) 3 ([(.int .i64 (G.band .i64 (G.shr .i64 n_62 7) 1))] : List Cell))).length = 2 * 4 then if (splice (splice [Cell.nils, Cell.nils] 0 ([(.sl h_60.length ((splice [Cell.int .i64 0, Cell.int .i64 0, Cell.int .i64 0, Cell.int .i64 0] 0 (splice (splice (splice [Cell.int .i64 0, Cell.int .i64 0, Cell.int .i64 0, Cell.int .i64 0] 0 ([(.int .i64 0)] : List Cell)) 1 ([(.int .i64 (G.band .i64 (G.shr .i64 n_62 3) 1))] : List Cell)) 3 ([(.int .i64 (G.band .i64 (G.shr .i64 n_62 4) 1))] : List Cell))).length) 0 1)] : List Cell)) 1 ([(.sl ((h_60 ++ [some (Blk.mk true 4 (splice [Cell.int .i64 0, Cell.int .i64 0, Cell.int .i64 0, Cell.int .i64 0] 0 (splice (splice (splice [Cell.int .i64 0, Cell.int .i64 0, Cell.int .i64 0, Cell.int .i64 0] 0 ([(.int .i64 0)] : List Cell)) 1 ([(.int .i64 (G.band .i64 (G.shr .i64 n_62 3) 1))] : List Cell)) 3 ([(.int .i64 (G.band .i64 (G.shr .i64 n_62 4) 1))] : List Cell))))]).length) ((splice (splice (List.replicate 8 (Cell.int .i64 0)) 0 (splice (splice (splice [Cell.int .i64 0, Cell.int .i64 0, Cell.int .i64 0, Cell.int .i64 0] 0 ([(.int .i64 (-1))] : List Cell)) 2 ([(.int .i64 120)] : List Cell)) 3 ([(.int .i64 (G.rem .i64 (G.shr .i64 n_62 5) 3))] : List Cell))) 4 (splice (splice (splice [Cell.int .i64 0, Cell.int .i64 0, Cell.int .i64 0, Cell.int .i64 0] 0 ([(.int .i64 1)] : List Cell)) 1 ([(.int .i64 0)] : List Cell)) 3 ([(.int .i64 (G.band .i64 (G.shr .i64 n_62 7) 1))] : List Cell))).length) 0 2)] : List Cell)).length = 2 * 1 then if 3 + 2 ≤ s1.length ∧ (splice (splice [Cell.int .i64 0, Cell.nils] 0 ([(.int .i64 v_63)] : List Cell)) 1 ([(.sl (((h_60 ++ [some (Blk.mk true 4 (splice [Cell.int .i64 0, Cell.int .i64 0, Cell.int .i64 0, Cell.int .i64 0] 0 (splice (splice (splice [Cell.int .i64 0, Cell.int .i64 0, Cell.int .i64 0, Cell.int .i64 0] 0 ([(.int .i64 0)] : List Cell)) 1 ([(.int .i64 (G.band .i64 (G.shr .i64 n_62 3) 1))] : List Cell)) 3 ([(.int .i64 (G.band .i64 (G.shr .i64 n_62 4) 1))] : List Cell))))]) ++ [some (Blk.mk true 4 (splice (splice (List.replicate 8 (Cell.int .i64 0)) 0 (splice (splice (splice [Cell.int .i64 0, Cell.int .i64 0, Cell.int .i64 0, Cell.int .i64 0] 0 ([(.int .i64 (-1))] : List Cell)) 2 ([(.int .i64 120)] : List Cell)) 3 ([(.int .i64 (G.rem .i64 (G.shr .i64 n_62 5) 3))] : List Cell))) 4 (splice (splice (splice [Cell.int .i64 0, Cell.int .i64 0, Cell.int .i64 0, Cell.int .i64 0] 0 ([(.int .i64 1)] : List Cell)) 1 ([(.int .i64 0)] : List Cell)) 3 ([(.int .i64 (G.band .i64 (G.shr .i64 n_62 7) 1))] : List Cell))))]).length) ((splice (splice [Cell.nils, Cell.nils] 0 ([(.sl h_60.length ((splice [Cell.int .i64 0, Cell.int .i64 0, Cell.int .i64 0, Cell.int .i64 0] 0 (splice (splice (splice [Cell.int .i64 0, Cell.int .i64 0, Cell.int .i64 0, Cell.int .i64 0] 0 ([(.int .i64 0)] : List Cell)) 1 ([(.int .i64 (G.band .i64 (G.shr .i64 n_62 3) 1))] : List Cell)) 3 ([(.int .i64 (G.band .i64 (G.shr .i64 n_62 4) 1))] : List Cell))).length) 0 1)] : List Cell)) 1 ([(.sl ((h_60 ++ [some (Blk.mk true 4 (splice [Cell.int .i64 0, Cell.int .i64 0, Cell.int .i64 0, Cell.int .i64 0] 0 (splice (splice (splice [Cell.int .i64 0, Cell.int .i64 0, Cell.int .i64 0, Cell.int .i64 0] 0 ([(.int .i64 0)] : List Cell)) 1 ([(.int .i64 (G.band .i64 (G.shr .i64 n_62 3) 1))] : List Cell)) 3 ([(.int .i64 (G.band .i64 (G.shr .i64 n_62 4) 1))] : List Cell))))]).length) ((splice (splice (List.replicate 8 (Cell.int .i64 0)) 0 (splice (splice (splice [Cell.int .i64 0, Cell.int .i64 0, Cell.int .i64 0, Cell.int .i64 0] 0 ([(.int .i64 (-1))] : List Cell)) 2 ([(.int .i64 120)] : List Cell)) 3 ([(.int .i64 (G.rem .i64 (G.shr .i64 n_62 5) 3))] : List Cell))) 4 (splice (splice (splice [Cell.int .i64 0, Cell.int .i64 0, Cell.int .i64 0, Cell.int .i64 0] 0 ([(.int .i64 1)] : List Cell)) 1 ([(.int .i64 0)] : List Cell)) 3 ([(.int .i64 (G.band .i64 (G.shr .i64 n_62 7) 1))] : List Cell))).length) 0 2)] : List Cell)).length) 0 2)] : List Cell)).length = 2 then if 0 = 0 ∧ (splice s1 3 (splice (splice [Cell.int .i64 0, Cell.nils] 0 ([(.int .i64 v_63)] : List Cell)) 1 ([(.sl (((h_60 ++ [some (Blk.mk true 4 (splice [Cell.int .i64 0, Cell.int .i64 0, Cell.int .i64 0, Cell.int .i64 0] 0 (splice (splice (splice [Cell.int .i64 0, Cell.int .i64 0, Cell.int .i64 0, Cell.int .i64 0] 0 ([(.int .i64 0)] : List Cell)) 1 ([(.int .i64 (G.band .i64 (G.shr .i64 n_62 3) 1))] : List Cell)) 3 ([(.int .i64 (G.band .i64 (G.shr .i64 n_62 4) 1))] : List Cell))))]) ++ [some (Blk.mk true 4 (splice (splice (List.replicate 8 (Cell.int .i64 0)) 0 (splice (splice (splice [Cell.int .i64 0, Cell.int .i64 0, Cell.int .i64 0, Cell.int .i64 0] 0 ([(.int .i64 (-1))] : List Cell)) 2 ([(.int .i64 120)] : List Cell)) 3 ([(.int .i64 (G.rem .i64 (G.shr .i64 n_62 5) 3))] : List Cell))) 4 (splice (splice (splice [Cell.int .i64 0, Cell.int .i64 0, Cell.int .i64 0, Cell.int .i64 0] 0 ([(.int .i64 1)] : List Cell)) 1 ([(.int .i64 0)] : List Cell)) 3 ([(.int .i64 (G.band .i64 (G.shr .i64 n_62 7) 1))] : List Cell))))]).length) ((splice (splice [Cell.nils, Cell.nils] 0 ([(.sl h_60.length ((splice [Cell.int .i64 0, Cell.int .i64 0, Cell.int .i64 0, Cell.int .i64 0] 0 (splice (splice (splice [Cell.int .i64 0, Cell.int .i64 0, Cell.int .i64 0, Cell.int .i64 0] 0 ([(.int .i64 0)] : List Cell)) 1 ([(.int .i64 (G.band .i64 (G.shr .i64 n_62 3) 1))] : List Cell)) 3 ([(.int .i64 (G.band .i64 (G.shr .i64 n_62 4) 1))] : List Cell))).length) 0 1)] : List Cell)) 1 ([(.sl ((h_60 ++ [some (Blk.mk true 4 (splice [Cell.int .i64 0, Cell.int .i64 0, Cell.int .i64 0, Cell.int .i64 0] 0 (splice (splice (splice [Cell.int .i64 0, Cell.int .i64 0, Cell.int .i64 0, Cell.int .i64 0] 0 ([(.int .i64 0)] : List Cell)) 1 ([(.int .i64 (G.band .i64 (G.shr .i64 n_62 3) 1))] : List Cell)) 3 ([(.int .i64 (G.band .i64 (G.shr .i64 n_62 4) 1))] : List Cell))))]).length) ((splice (splice (List.replicate 8 (Cell.int .i64 0)) 0 (splice (splice (splice [Cell.int .i64 0, Cell.int .i64 0, Cell.int .i64 0, Cell.int .i64 0] 0 ([(.int .i64 (-1))] : List Cell)) 2 ([(.int .i64 120)] : List Cell)) 3 ([(.int .i64 (G.rem .i64 (G.shr .i64 n_62 5) 3))] : List Cell))) 4 (splice (splice (splice [Cell.int .i64 0, Cell.int .i64 0, Cell.int .i64 0, Cell.int .i64 0] 0 ([(.int .i64 1)] : List Cell)) 1 ([(.int .i64 0)] : List Cell)) 3 ([(.int .i64 (G.band .i64 (G.shr .i64 n_62 7) 1))] : List Cell))).length) 0 2)] : List Cell)).length) 0 2)] : List Cell))).length = 5 then if 0 = 0 ∧ s0.length = 5 ∧ (splice s1 3 (splice (splice [Cell.int .i64 0, Cell.nils] 0 ([(.int .i64 v_63)] : List Cell)) 1 ([(.sl (((h_60 ++ [some (Blk.mk true 4 (splice [Cell.int .i64 0, Cell.int .i64 0, Cell.int .i64 0, Cell.int .i64 0] 0 (splice (splice (splice [Cell.int .i64 0, Cell.int .i64 0, Cell.int .i64 0, Cell.int .i64 0] 0 ([(.int .i64 0)] : List Cell)) 1 ([(.int .i64 (G.band .i64 (G.shr .i64 n_62 3) 1))] : List Cell)) 3 ([(.int .i64 (G.band .i64 (G.shr .i64 n_62 4) 1))] : List Cell))))]) ++ [some (Blk.mk true 4 (splice (splice (List.replicate 8 (Cell.int .i64 0)) 0 (splice (splice (splice [Cell.int .i64 0, Cell.int .i64 0, Cell.int .i64 0, Cell.int .i64 0] 0 ([(.int .i64 (-1))] : List Cell)) 2 ([(.int .i64 120)] : List Cell)) 3 ([(.int .i64 (G.rem .i64 (G.shr .i64 n_62 5) 3))] : List Cell))) 4 (splice (splice (splice [Cell.int .i64 0, Cell.int .i64 0, Cell.int .i64 0, Cell.int .i64 0] 0 ([(.int .i64 1)] : List Cell)) 1 ([(.int .i64 0)] : List Cell)) 3 ([(.int .i64 (G.band .i64 (G.shr .i64 n_62 7) 1))] : List Cell))))]).length) ((splice (splice [Cell.nils, Cell.nils] 0 ([(.sl h_60.length ((splice [Cell.int .i64 0, Cell.int .i64 0, Cell.int .i64 0, Cell.int .i64 0] 0 (splice (splice (splice [Cell.int .i64 0, Cell.int .i64 0, Cell.int .i64 0, Cell.int .i64 0] 0 ([(.int .i64 0)] : List Cell)) 1 ([(.int .i64 (G.band .i64 (G.shr .i64 n_62 3) 1))] : List Cell)) 3 ([(.int .i64 (G.band .i64 (G.shr .i64 n_62 4) 1))] : List Cell))).length) 0 1)] : List Cell)) 1 ([(.sl ((h_60 ++ [some (Blk.mk true 4 (splice [Cell.int .i64 0, Cell.int .i64 0, Cell.int .i64 0, Cell.int .i64 0] 0 (splice (splice (splice [Cell.int .i64 0, Cell.int .i64 0, Cell.int .i64 0, Cell.int .i64 0] 0 ([(.int .i64 0)] : List Cell)) 1 ([(.int .i64 (G.band .i64 (G.shr .i64 n_62 3) 1))] : List Cell)) 3 ([(.int .i64 (G.band .i64 (G.shr .i64 n_62 4) 1))] : List Cell))))]).length) ((splice (splice (List.replicate 8 (Cell.int .i64 0)) 0 (splice (splice (splice [Cell.int .i64 0, Cell.int .i64 0, Cell.int .i64 0, Cell.int .i64 0] 0 ([(.int .i64 (-1))] : List Cell)) 2 ([(.int .i64 120)] : List Cell)) 3 ([(.int .i64 (G.rem .i64 (G.shr .i64 n_62 5) 3))] : List Cell))) 4 (splice (splice (splice [Cell.int .i64 0, Cell.int .i64 0, Cell.int .i64 0, Cell.int .i64 0] 0 ([(.int .i64 1)] : List Cell)) 1 ([(.int .i64 0)] : List Cell)) 3 ([(.int .i64 (G.band .i64 (G.shr .i64 n_62 7) 1))] : List Cell))).length) 0 2)] : List Cell)).length) 0 2)] : List Cell))).length = 5 then if 0 = 0 ∧ (splice s1 3 (splice (splice [Cell.int .i64 0, Cell.nils] 0 ([(.int .i64 v_63)] : List Cell)) 1 ([(.sl (((h_60 ++ [some (Blk.mk true 4 (splice [Cell.int .i64 0, Cell.int .i64 0, Cell.int .i64 0, Cell.int .i64 0] 0 (splice (splice (splice [Cell.int .i64 0, Cell.int .i64 0, Cell.int .i64 0, Cell.int .i64 0] 0 ([(.int .i64 0)] : List Cell)) 1 ([(.int .i64 (G.band .i64 (G.shr .i64 n_62 3) 1))] : List Cell)) 3 ([(.int .i64 (G.band .i64 (G.shr .i64 n_62 4) 1))] : List Cell))))]) ++ [some (Blk.mk true 4 (splice (splice (List.replicate 8 (Cell.int .i64 0)) 0 (splice (splice (splice [Cell.int .i64 0, Cell.int .i64 0, Cell.int .i64 0, Cell.int .i64 0] 0 ([(.int .i64 (-1))] : List Cell)) 2 ([(.int .i64 120)] : List Cell)) 3 ([(.int .i64 (G.rem .i64 (G.shr .i64 n_62 5) 3))] : List Cell))) 4 (splice (splice (splice [Cell.int .i64 0, Cell.int .i64 0, Cell.int .i64 0, Cell.int .i64 0] 0 ([(.int .i64 1)] : List Cell)) 1 ([(.int .i64 0)] : List Cell)) 3 ([(.int .i64 (G.band .i64 (G.shr .i64 n_62 7) 1))] : List Cell))))]).length) ((splice (splice [Cell.nils, Cell.nils] 0 ([(.sl h_60.length ((splice [Cell.int .i64 0, Cell.int .i64 0, Cell.int .i64 0, Cell.int .i64 0] 0 (splice (splice (splice [Cell.int .i64 0, Cell.int .i64 0, Cell.int .i64 0, Cell.int .i64 0] 0 ([(.int .i64 0)] : List Cell)) 1 ([(.int .i64 (G.band .i64 (G.shr .i64 n_62 3) 1))] : List Cell)) 3 ([(.int .i64 (G.band .i64 (G.shr .i64 n_62 4) 1))] : List Cell))).length) 0 1)] : List Cell)) 1 ([(.sl ((h_60 ++ [some (Blk.mk true 4 (splice [Cell.int .i64 0, Cell.int .i64 0, Cell.int .i64 0, Cell.int .i64 0] 0 (splice (splice (splice [Cell.int .i64 0, Cell.int .i64 0, Cell.int .i64 0, Cell.int .i64 0] 0 ([(.int .i64 0)] : List Cell)) 1 ([(.int .i64 (G.band .i64 (G.shr .i64 n_62 3) 1))] : List Cell)) 3 ([(.int .i64 (G.band .i64 (G.shr .i64 n_62 4) 1))] : List Cell))))]).length) ((splice (splice (List.replicate 8 (Cell.int .i64 0)) 0 (splice (splice (splice [Cell.int .i64 0, Cell.int .i64 0, Cell.int .i64 0, Cell.int .i64 0] 0 ([(.int .i64 (-1))] : List Cell)) 2 ([(.int .i64 120)] : List Cell)) 3 ([(.int .i64 (G.rem .i64 (G.shr .i64 n_62 5) 3))] : List Cell))) 4 (splice (splice (splice [Cell.int .i64 0, Cell.int .i64 0, Cell.int .i64 0, Cell.int .i64 0] 0 ([(.int .i64 1)] : List Cell)) 1 ([(.int .i64 0)] : List Cell)) 3 ([(.int .i64 (G.band .i64 (G.shr .i64 n_62 7) 1))] : List Cell))).length) 0 2)] : List Cell)).length) 0 2)] : List Cell))).length = 5 then some ([(.agg (splice s1 3 (splice (splice [Cell.int .i64 0, Cell.nils] 0 ([(.int .i64 v_63)] : List Cell)) 1 ([(.sl (((h_60 ++ [some (Blk.mk true 4 (splice [Cell.int .i64 0, Cell.int .i64 0, Cell.int .i64 0, Cell.int .i64 0] 0 (splice (splice (splice [Cell.int .i64 0, Cell.int .i64 0, Cell.int .i64 0, Cell.int .i64 0] 0 ([(.int .i64 0)] : List Cell)) 1 ([(.int .i64 (G.band .i64 (G.shr .i64 n_62 3) 1))] : List Cell)) 3 ([(.int .i64 (G.band .i64 (G.shr .i64 n_62 4) 1))] : List Cell))))]) ++ [some (Blk.mk true 4 (splice (splice (List.replicate 8 (Cell.int .i64 0)) 0 (splice (splice (splice [Cell.int .i64 0, Cell.int .i64 0, Cell.int .i64 0, Cell.int .i64 0] 0 ([(.int .i64 (-1))] : List Cell)) 2 ([(.int .i64 120)] : List Cell)) 3 ([(.int .i64 (G.rem .i64 (G.shr .i64 n_62 5) 3))] : List Cell))) 4 (splice (splice (splice [Cell.int .i64 0, Cell.int .i64 0, Cell.int .i64 0, Cell.int .i64 0] 0 ([(.int .i64 1)] : List Cell)) 1 ([(.int .i64 0)] : List Cell)) 3 ([(.int .i64 (G.band .i64 (G.shr .i64 n_62 7) 1))] : List Cell))))]).length) ((splice (splice [Cell.nils, Cell.nils] 0 ([(.sl h_60.length ((splice [Cell.int .i64 0, Cell.int .i64 0, Cell.int .i64 0, Cell.int .i64 0] 0 (splice (splice (splice [Cell.int .i64 0, Cell.int .i64 0, Cell.int .i64 0, Cell.int .i64 0] 0 ([(.int .i64 0)] : List Cell)) 1 ([(.int .i64 (G.band .i64 (G.shr .i64 n_62 3) 1))] : List Cell)) 3 ([(.int .i64 (G.band .i64 (G.shr .i64 n_62 4) 1))] : List Cell))).length) 0 1)] : List Cell)) 1 ([(.sl ((h_60 ++ [some (Blk.mk true 4 (splice [Cell.int .i64 0, Cell.int .i64 0, Cell.int .i64 0, Cell.int .i64 0] 0 (splice (splice (splice [Cell.int .i64 0, Cell.int .i64 0, Cell.int .i64 0, Cell.int .i64 0] 0 ([(.int .i64 0)] : List Cell)) 1 ([(.int .i64 (G.band .i64 (G.shr .i64 n_62 3) 1))] : List Cell)) 3 ([(.int .i64 (G.band .i64 (G.shr .i64 n_62 4) 1))] : List Cell))))]).length) ((splice (splice (List.replicate 8 (Cell.int .i64 0)) 0 (splice (splice (splice [Cell.int .i64 0, Cell.int .i64 0, Cell.int .i64 0, Cell.int .i64 0] 0 ([(.int .i64 (-1))] : List Cell)) 2 ([(.int .i64 120)] : List Cell)) 3 ([(.int .i64 (G.rem .i64 (G.shr .i64 n_62 5) 3))] : List Cell))) 4 (splice (splice (splice [Cell.int .i64 0, Cell.int .i64 0, Cell.int .i64 0, Cell.int .i64 0] 0 ([(.int .i64 1)] : List Cell)) 1 ([(.int .i64 0)] : List Cell)) 3 ([(.int .i64 (G.band .i64 (G.shr .i64 n_62 7) 1))] : List Cell))).length) 0 2)] : List Cell)).length) 0 2)] : List Cell))))], (((h_60 ++ [some (Blk.mk true 4 (splice [Cell.int .i64 0, Cell.int .i64 0, Cell.int .i64 0, Cell.int .i64 0] 0 (splice (splice (splice [Cell.int .i64 0, Cell.int .i64 0, Cell.int .i64 0, Cell.int .i64 0] 0 ([(.int .i64 0)] : List Cell)) 1 ([(.int .i64 (G.band .i64 (G.shr .i64 n_62 3) 1))] : List Cell)) 3 ([(.int .i64 (G.band .i64 (G.shr .i64 n_62 4) 1))] : List Cell))))]) ++ [some (Blk.mk true 4 (splice (splice (List.replicate 8 (Cell.int .i64 0)) 0 (splice (splice (splice [Cell.int .i64 0, Cell.int .i64 0, Cell.int .i64 0, Cell.int .i64 0] 0 ([(.int .i64 (-1))] : List Cell)) 2 ([(.int .i64 120)] : List Cell)) 3 ([(.int .i64 (G.rem .i64 (G.shr .i64 n_62 5) 3))] : List Cell))) 4 (splice (splice (splice [Cell.int .i64 0, Cell.int .i64 0, Cell.int .i64 0, Cell.int .i64 0] 0 ([(.int .i64 1)] : List Cell)) 1 ([(.int .i64 0)] : List Cell)) 3 ([(.int .i64 (G.band .i64 (G.shr .i64 n_62 7) 1))] : List Cell))))]) ++ [some (Blk.mk true 1 (splice (splice [Cell.nils, Cell.nils] 0 ([(.sl h_60.length ((splice [Cell.int .i64 0, Cell.int .i64 0, Cell.int .i64 0, Cell.int .i64 0] 0 (splice (splice (splice [Cell.int .i64 0, Cell.int .i64 0, Cell.int .i64 0, Cell.int .i64 0] 0 ([(.int .i64 0)] : List Cell)) 1 ([(.int .i64 (G.band .i64 (G.shr .i64 n_62 3) 1))] : List Cell)) 3 ([(.int .i64 (G.band .i64 (G.shr .i64 n_62 4) 1))] : List Cell))).length) 0 1)] : List Cell)) 1 ([(.sl ((h_60 ++ [some (Blk.mk true 4 (splice [Cell.int .i64 0, Cell.int .i64 0, Cell.int .i64 0, Cell.int .i64 0] 0 (splice (splice (splice [Cell.int .i64 0, Cell.int .i64 0, Cell.int .i64 0, Cell.int .i64 0] 0 ([(.int .i64 0)] : List Cell)) 1 ([(.int .i64 (G.band .i64 (G.shr .i64 n_62 3) 1))] : List Cell)) 3 ([(.int .i64 (G.band .i64 (G.shr .i64 n_62 4) 1))] : List Cell))))]).length) ((splice (splice (List.replicate 8 (Cell.int .i64 0)) 0 (splice (splice (splice [Cell.int .i64 0, Cell.int .i64 0, Cell.int .i64 0, Cell.int .i64 0] 0 ([(.int .i64 (-1))] : List Cell)) 2 ([(.int .i64 120)] : List Cell)) 3 ([(.int .i64 (G.rem .i64 (G.shr .i64 n_62 5) 3))] : List Cell))) 4 (splice (splice (splice [Cell.int .i64 0, Cell.int .i64 0, Cell.int .i64 0, Cell.int .i64 0] 0 ([(.int .i64 1)] : List Cell)) 1 ([(.int .i64 0)] : List Cell)) 3 ([(.int .i64 (G.band .i64 (G.shr .i64 n_62 7) 1))] : List Cell))).length) 0 2)] : List Cell)))])) else none else none else none else none else none else none else none else none else none else none else if 0 = 0 ∧ s1.length = 5 then if 0 = 0 ∧ s0.length = 5 ∧ s1.length = 5 then if 0 = 0 ∧ s1.length = 5 then some ([(.agg s1)], h_60) else none else none else none := by kernel_rfl
theorem jacquardlaw3_Small_ec1_n (C : CallF) (L : LoopF) (G : Glo) (h0 : AHeap) (a1 : Int) (x7 : Cell) (a8 : Int) (a9 : Int) (s0 : List Cell) (s1 : List Cell) (h : AHeap) :
    (jacquardlaw3_Small_k2 C L G h0) .normal (jacquardlaw3_Small_c1 a1 x7 a8 a9 s0 s1 h) =
    (L (jacquardlaw3_Small_F2 C L G) (jacquardlaw3_Small_s2 a1 x7 a8 a9 0 0 s0 s1 h)).bind fun p_64 => (jacquardlaw3_Small_k4 C L G h0) p_64.1 p_64.2 := by kernel_rfl
set_option maxRecDepth 100000 in
theorem jacquardlaw3_Small_eq (C : CallF) (L : LoopF) (G : Glo) (x0 : Cell) (a1 : Int) (h0 : AHeap) :
    jacquardlaw3_Small.body C L G [(.c x0), (.c (.int .i64 a1))] h0 =
    if 0 = 0 ∧ [Cell.str (ByteArray.mk #[]), Cell.nils, Cell.nils, Cell.int .i64 0, Cell.nils].length = 5 ∧ (splice [Cell.str (ByteArray.mk #[]), Cell.nils, Cell.nils, Cell.int .i64 0, Cell.nils] 0 ([(.str (ByteArray.mk #[116]))] : List Cell)).length = 5 then rdH ((h0 ++ [some (Blk.mk true 0 (AV.cells (.c x0)))]) ++ [some (Blk.mk true 0 ([Cell.int .i64 0]))]) ((h0 ++ [some (Blk.mk true 0 (AV.cells (.c x0)))]).length) (([Cell.int .i64 0]).length) fun l_1 => if 0 < l_1.length then putH ((h0 ++ [some (Blk.mk true 0 (AV.cells (.c x0)))]) ++ [some (Blk.mk true 0 ([Cell.int .i64 0]))]) ((h0 ++ [some (Blk.mk true 0 (AV.cells (.c x0)))]).length) (l_1.set 0 (.int .i64 0)) fun h_2 => fnK (.fn 115 [((h0 ++ [some (Blk.mk true 0 (AV.cells (.c x0)))]).length, ([Cell.int .i64 0]).length, 0), (h0.length, (AV.cells (.c x0)).length, 0)]) fun g_3 l_4 => c1 (C g_3 ([] ++ l_4) h_2) fun y_6 h_5 => asI .i64 y_6 fun n_7 => fnK (.fn 115 [((h0 ++ [some (Blk.mk true 0 (AV.cells (.c x0)))]).length, ([Cell.int .i64 0]).length, 0), (h0.length, (AV.cells (.c x0)).length, 0)]) fun g_8 l_9 => c1 (C g_8 ([] ++ l_9) h_5) fun y_11 h_10 => asI .i64 y_11 fun n_12 => (fnK (.fn 115 [((h0 ++ [some (Blk.mk true 0 (AV.cells (.c x0)))]).length, ([Cell.int .i64 0]).length, 0), (h0.length, (AV.cells (.c x0)).length, 0)]) fun g_13 l_14 => c1 (C g_13 ([] ++ l_14) h_10) fun y_16 h_15 => asI .i64 y_16 fun n_17 => if ((G.rem .i64 n_17 4) == 0) = true then atK (splice [Cell.str (ByteArray.mk #[]), Cell.nils, Cell.nils, Cell.int .i64 0, Cell.nils] 0 ([(.str (ByteArray.mk #[116]))] : List Cell)) 1 fun q_18 => fnK (.fn 115 [((h0 ++ [some (Blk.mk true 0 (AV.cells (.c x0)))]).length, ([Cell.int .i64 0]).length, 0), (h0.length, (AV.cells (.c x0)).length, 0)]) fun g_19 l_20 => c1 (C g_19 ([] ++ l_20) h_15) fun y_22 h_21 => asI .i64 y_22 fun n_23 => if (splice (splice [Cell.int .i64 0, Cell.int .i64 0] 0 ([(.int .i64 120)] : List Cell)) 1 ([(.int .i64 (G.rem .i64 n_23 3))] : List Cell)).length = 2 ∧ 0 + 2 ≤ [Cell.int .i64 0, Cell.int .i64 0].length then if (splice [Cell.int .i64 0, Cell.int .i64 0] 0 (splice (splice [Cell.int .i64 0, Cell.int .i64 0] 0 ([(.int .i64 120)] : List Cell)) 1 ([(.int .i64 (G.rem .i64 n_23 3))] : List Cell))).length = 1 * 2 then appK 2 16 q_18 (splice [Cell.int .i64 0, Cell.int .i64 0] 0 (splice (splice [Cell.int .i64 0, Cell.int .i64 0] 0 ([(.int .i64 120)] : List Cell)) 1 ([(.int .i64 (G.rem .i64 n_23 3))] : List Cell))) h_21 fun x_24 h_25 => if 1 < (splice [Cell.str (ByteArray.mk #[]), Cell.nils, Cell.nils, Cell.int .i64 0, Cell.nils] 0 ([(.str (ByteArray.mk #[116]))] : List Cell)).length then some (.normal, (jacquardlaw3_Small_c1 a1 (.fn 115 [((h0 ++ [some (Blk.mk true 0 (AV.cells (.c x0)))]).length, ([Cell.int .i64 0]).length, 0), (h0.length, (AV.cells (.c x0)).length, 0)]) (G.wrap .i64 ((G.rem .i64 n_7 2) + 2)) (G.wrap .i64 ((G.rem .i64 n_12 2) + 2)) [Cell.str (ByteArray.mk #[]), Cell.nils, Cell.nils, Cell.int .i64 0, Cell.nils] ((splice [Cell.str (ByteArray.mk #[]), Cell.nils, Cell.nils, Cell.int .i64 0, Cell.nils] 0 ([(.str (ByteArray.mk #[116]))] : List Cell)).set 1 x_24) h_25)) else none else none else none else some (.normal, (jacquardlaw3_Small_c1 a1 (.fn 115 [((h0 ++ [some (Blk.mk true 0 (AV.cells (.c x0)))]).length, ([Cell.int .i64 0]).length, 0), (h0.length, (AV.cells (.c x0)).length, 0)]) (G.wrap .i64 ((G.rem .i64 n_7 2) + 2)) (G.wrap .i64 ((G.rem .i64 n_12 2) + 2)) [Cell.str (ByteArray.mk #[]), Cell.nils, Cell.nils, Cell.int .i64 0, Cell.nils] (splice [Cell.str (ByteArray.mk #[]), Cell.nils, Cell.nils, Cell.int .i64 0, Cell.nils] 0 ([(.str (ByteArray.mk #[116]))] : List Cell)) h_15)) : Option (Ex × St)).bind fun p_65 => (jacquardlaw3_Small_k2 C L G h0) p_65.1 p_65.2 else none else none := by kernel_rfl


end Jq

/- Tests made of numbers: what instructions they have. -/
namespace Jq
open Go

def opdOk (o : Opd) : Prop := (o.reg = -1 ∧ 0 ≤ o.val ∧ o.val < 3) ∨ ((o.reg = 0 ∨ o.reg = 1) ∧ o.val = 0)

/-- An instruction of a small test, its letter one of L from x on. -/
def SmI (L : Int) (i : Ins) : Prop :=
  (i.kind = 1 ∧ i.reg = 0 ∧ (120 ≤ i.loc ∧ i.loc < 120 + L) ∧ opdOk i.a ∧ i.op = 0 ∧ i.b = ⟨0, 0⟩ ∧ i.n = 0) ∨
  (i.kind = 2 ∧ (i.reg = 0 ∨ i.reg = 1) ∧ (120 ≤ i.loc ∧ i.loc < 120 + L) ∧ i.a = ⟨0, 0⟩ ∧ i.op = 0 ∧ i.b = ⟨0, 0⟩ ∧ i.n = 0) ∨
  (i = ⟨3, 0, 0, ⟨0, 0⟩, 0, ⟨0, 0⟩, 0⟩) ∨
  (i.kind = 4 ∧ (i.reg = 0 ∨ i.reg = 1) ∧ (120 ≤ i.loc ∧ i.loc < 120 + L) ∧ opdOk i.a ∧ i.op = 0 ∧ i.b = ⟨-1, 1⟩ ∧ i.n = 0) ∨
  (i.kind = 5 ∧ (i.reg = 0 ∨ i.reg = 1) ∧ i.loc = 0 ∧ opdOk i.a ∧ i.op = 6 ∧ i.b = ⟨-1, 1⟩ ∧ i.n = 0) ∨
  (i.kind = 6 ∧ i.reg = 0 ∧ i.loc = 0 ∧ opdOk i.a ∧ i.op = 0 ∧ i.b = ⟨-1, 0⟩ ∧ i.n = 1)

/-- How many instructions touch memory (a fence does not count). -/
def memC (c : List Ins) : Nat := c.countP fun i => decide (i.kind = 1 ∨ i.kind = 2 ∨ i.kind = 4)

/-- Instructions one behind the other, a skip ahead of a store. -/
inductive ThrOk (L : Int) : Nat → List Ins → Prop
  | nil : ThrOk L 0 []
  | one {k : Nat} {c : List Ins} {i : Ins} : ThrOk L k c → SmI L i → i.kind ≠ 6 → ThrOk L (k + 1) (c ++ [i])
  | two {k : Nat} {c : List Ins} {i j : Ins} : ThrOk L k c → SmI L i → i.kind = 6 → SmI L j → j.kind = 1 → ThrOk L (k + 1) (c ++ [i, j])

theorem ThrOk.len {L : Int} {k : Nat} {c : List Ins} (t : ThrOk L k c) : c.length ≤ 2 * k := by
  induction t with
  | nil => simp
  | one _ _ _ ih => rw [List.length_append]; simp; omega
  | two _ _ _ _ _ ih => rw [List.length_append]; simp; omega

theorem ThrOk.all {L : Int} {k : Nat} {c : List Ins} (t : ThrOk L k c) : ∀ i ∈ c, SmI L i := by
  induction t with
  | nil => simp
  | one _ h _ ih =>
    intro i hi
    rcases List.mem_append.1 hi with hi | hi
    · exact ih i hi
    · simp at hi; subst hi; exact h
  | two _ h _ h' _ ih =>
    intro i hi
    rcases List.mem_append.1 hi with hi | hi
    · exact ih i hi
    · simp at hi; rcases hi with rfl | rfl
      · exact h
      · exact h'

section
variable {E : Env}

/-- Where the row of numbers and the place in it lie. -/
def VarsAt (h0 : AHeap) (x : Cell) (h : AHeap) (m : Nat) : Prop :=
  blk? h h0.length = some ⟨true, 0, [x]⟩ ∧ blk? h (h0.length + 1) = some ⟨true, 0, [.int .i64 (m : Int)]⟩ ∧ h0.length + 2 ≤ h.length ∧ Kp h0.length h0 h

def nxF (h0 : AHeap) : Cell := .fn 115 [(h0.length + 1, 1, 0), (h0.length, 1, 0)]

theorem VarsAt.keep {h0 h h' : AHeap} {x : Cell} {m : Nat} (v : VarsAt h0 x h m) (hk : Kp (h0.length + 2) h h') : VarsAt h0 x h' m :=
  ⟨by rw [hk.blk (by omega)]; exact v.1, by rw [hk.blk (by omega)]; exact v.2.1, Nat.le_trans v.2.2.1 hk.1, v.2.2.2.trans (hk.mono (by omega))⟩

theorem rd1' {α : Type} {h : AHeap} {k : Nat} {a : Cell} (hk : blk? h k = some ⟨true, 0, [a]⟩) {F : List Cell → Option α} : rdH h k 1 F = F [a] := rdH_ok hk rfl

end
end Jq

/- Tests made of numbers: one instruction more. -/
namespace Jq
open Go

section
variable {E : Env}

/-- What one round comes to. -/
def OneMore (E : Env) (most : Int) (fnc : Cell) (n L : Int) (mem : Nat) (i : Int) (k : Int) (s0 s1 : List Cell) (N kk : Nat) (c : List Ins) (h : AHeap) (o : Option (Ex × St)) : Prop :=
  ∃ (c2 : List Ins) (mem2 : Nat) (xs2 : Cell) (h2 : AHeap), o = some (.normal, jacquardlaw3_Small_s1 most fnc n L (mem2 : Int) i xs2 (k - 1) s0 s1 h2) ∧ ThrOk L (kk + 1) c2 ∧ memC c2 + mem = memC c + mem2 ∧ mem ≤ mem2 ∧ mem2 ≤ mem + 1 ∧
    Own N h2 xs2 9 (codeC c2) c2.length ∧ Kp N h h2

variable {most : Int} {fnc : Cell} {n L : Int} {mem : Nat} {i : Int} {xs : Cell} {k loc x r m : Int} {s0 s1 : List Cell} {v : Opd} {h : AHeap} {N kk : Nat} {c : List Ins}

end
end Jq

/- Tests made of numbers: all of them are small, and may be. -/
namespace Jq
open Go

/-- The first so many blocks are as they were, but for one. -/
def KpX (a n : Nat) (h h' : AHeap) : Prop := h.length ≤ h'.length ∧ ∀ k, k < n → k ≠ a → h'[k]? = h[k]?

theorem KpX.refl (a n : Nat) (h : AHeap) : KpX a n h h := ⟨Nat.le_refl _, fun _ _ _ => rfl⟩
theorem KpX.trans {a n : Nat} {h h' h'' : AHeap} (x : KpX a n h h') (y : KpX a n h' h'') : KpX a n h h'' := ⟨Nat.le_trans x.1 y.1, fun k hk ha => (y.2 k hk ha).trans (x.2 k hk ha)⟩
theorem KpX.mono {a n m : Nat} {h h' : AHeap} (x : KpX a n h h') (hm : m ≤ n) : KpX a m h h' := ⟨x.1, fun k hk ha => x.2 k (by omega) ha⟩
theorem Kp.x {a n : Nat} {h h' : AHeap} (x : Kp n h h') : KpX a n h h' := ⟨x.1, fun k hk _ => x.2 k hk⟩
theorem KpX.set (a n : Nat) (h : AHeap) (b : Option Blk) : KpX a n h (setBlk h a b) := ⟨by simp [setBlk], fun j _ ha => by unfold setBlk; rw [List.getElem?_set_ne (fun e => ha e.symm)]⟩
theorem KpX.blk {a n : Nat} {h h' : AHeap} (x : KpX a n h h') {k : Nat} (hk : k < n) (ha : k ≠ a) : blk? h' k = blk? h k := by unfold blk?; rw [x.2 k hk ha]

structure GoodT (most : Nat) (T : PTest) : Prop where
  name : T.name.size ≤ 20
  n : 2 ≤ T.thr.length ∧ T.thr.length ≤ 3
  code : ∃ L : Int, (L = 2 ∨ L = 3) ∧ ∀ c ∈ T.thr, ∃ k, k ≤ 3 ∧ ThrOk L k c
  mem : (T.thr.map memC).sum ≤ most
  inits : T.inits = [] ∨ ∃ v : Int, 0 ≤ v ∧ v < 3 ∧ T.inits = [(120, v)]
  any : T.any.length ≤ 2 ∧ ∀ row ∈ T.any, row.length ≤ 2 ∧ ∀ a ∈ row, a.loc = 0 ∨ a.loc = 120

section
variable {E : Env}

end
end Jq

/- A test made ready by the program. -/
namespace Jq
open Go

theorem plc_get {c : Int} : ∀ (l : List Int) (i : Nat), c ∈ l → ∃ j : Nat, plc l c i = ((i + j : Nat) : Int) ∧ l[j]? = some c
  | [], _, h => by cases h
  | d :: t, i, h => by
    rw [plc]
    by_cases e : d = c
    · exact ⟨0, by rw [if_pos e]; rfl, by rw [e]; rfl⟩
    · rw [if_neg e]
      have hm : c ∈ t := by
        rcases List.mem_cons.1 h with h | h
        · exact absurd h.symm e
        · exact h
      obtain ⟨j, h1, h2⟩ := plc_get t (i + 1) hm
      exact ⟨j + 1, by rw [h1]; congr 1; omega, by simpa using h2⟩

section
variable {E : Env}

/-- A row of instructions copied. -/
theorem Clone_R (hE : slices_Clone_sIns_Ins_In E) {x : Cell} {l : List Ins} {h : AHeap} (hx : SlAt h x 9 (codeC l) l.length) (hlow : Low h.length x) (hl : l.length ≤ 1000) :
    ∃ x' h', R E 119 [.c x] h = some ([.c x'], h') ∧ Own h.length h' x' 9 (codeC l) l.length ∧ Kp h.length h h' := by
  have hm : maxBytes ≥ 1000 * 72 := by unfold maxBytes; omega
  have hlen := codeC_len l
  rcases hx.2 with ⟨rfl, h0⟩ | ⟨k, N, off, rfl, hb⟩
  · refine ⟨.nils, h, R_intro hE.fn ?_, ⟨hlen, .inl ⟨rfl, h0⟩⟩, Kp.refl _ _⟩
    rw [slices_Clone_sIns_Ins_eq]; rfl
  · have hk1 : Kp h.length h (h ++ [some ⟨true, 9, []⟩]) := Kp.app _ (Nat.le_refl _)
    have hx2 := hx.keep hlow hk1
    have hc : slCells (h ++ [some ⟨true, 9, []⟩]) 9 (.sl k N off l.length) = some (codeC l) := by
      unfold slCells
      dsimp only
      by_cases h0 : l.length = 0
      · have : l = [] := List.length_eq_zero_iff.1 h0
        rw [if_pos h0, this]; rfl
      · rw [if_neg h0]
        rcases hx2.2 with ⟨e, _⟩ | ⟨k', N', off', e, hb⟩
        · cases e
        · cases e
          rcases hb with hb | ⟨b, hb, hN, hle, hat⟩
          · exact absurd hb h0
          · rw [hb]
            simp only
            rw [if_pos ⟨hN, hle⟩]
            congr 1
            refine List.ext_getElem? fun j => ?_
            rw [List.getElem?_take, List.getElem?_drop]
            by_cases hj : j < l.length * 9
            · rw [if_pos hj, hat j hj]
            · rw [if_neg hj, List.getElem?_eq_none (by omega)]
    have hap : ∀ {α : Type} (f : Cell → AHeap → Option α), appK 9 72 (.sl h.length 0 0 0) (codeC l) (h ++ [some ⟨true, 9, []⟩]) f = f (.sl h.length (codeC l).length 0 l.length) (h ++ [some ⟨true, 9, codeC l⟩]) := by
      intro α f
      unfold appK
      simp only
      rw [blk_new, Option.bind_some]
      dsimp only
      have hd : (codeC l).length / 9 = l.length := by rw [hlen]; omega
      rw [if_pos ⟨rfl, rfl, rfl, by simp, by rw [hd]; simp; omega, by rw [hd]; simp; omega⟩, hd]
      by_cases h0 : l.length = 0
      · have : l = [] := List.length_eq_zero_iff.1 h0
        subst this
        rw [if_pos (by simp [codeC]), setBlk_last]; rfl
      · rw [if_neg (by omega), if_pos trivial, setBlk_last]
        simp
    refine ⟨.sl h.length (codeC l).length 0 l.length, h ++ [some ⟨true, 9, codeC l⟩], R_intro hE.fn ?_, ⟨hlen, .inr ⟨h.length, rfl, Nat.le_refl _, blk_new _ _⟩⟩, Kp.app _ (Nat.le_refl _)⟩
    rw [slices_Clone_sIns_Ins_eq, show ∀ {α : Type} (f : Bool → Option α), eqNilK false (.sl k N off l.length) .nils f = f false from fun _ => rfl, if_neg (by simp), if_pos (show ([] : List Cell).length = 0 * 9 from rfl), hc, bind_ok, show ([] : List Cell).length = 0 from rfl, hap]

end
end Jq

/- A test made ready by the program: the whole. -/
namespace Jq
open Go

def mixL {α : Type} (f : α → α) (l : List α) (i : Nat) : List α := (l.take i).map f ++ l.drop i
theorem KpX.kp {a n m : Nat} {h h' : AHeap} (x : KpX a n h h') (h1 : m ≤ n) (h2 : m ≤ a) : Kp m h h' := ⟨x.1, fun k hk => x.2 k (by omega) (by omega)⟩

section
variable {E : Env}

theorem rd3 {α : Type} {h : AHeap} {k : Nat} {a b c : Cell} (hk : blk? h k = some ⟨true, 0, [a, b, c]⟩) {F : List Cell → Option α} : rdH h k 3 F = F [a, b, c] := rdH_ok hk rfl

end
end Jq

namespace Jq
open Go


end Jq

/- Tests made of numbers, and their programs. -/
namespace Jq
open Go

section
variable {E : Env}

def tName : ByteArray := ByteArray.mk #[116]

end
end Jq

/- Laws of events: kinds, orders. -/
namespace Jq
open Go

section
variable {E : Env}

end
end Jq

/- Laws of events: kinds, orders. -/
namespace Jq
open Go

section
variable {E : Env}

/-- A row of a block of its own. -/
theorem SlAt.whole {h : AHeap} {k len esz : Nat} {cs : List Cell} {o : Bool} {e : Nat} (hb : blk? h k = some ⟨o, e, cs⟩) (hl : cs.length = len * esz) : SlAt h (.sl k cs.length 0 len) esz cs len :=
  ⟨hl, .inr ⟨k, _, 0, rfl, .inr ⟨_, hb, rfl, by omega, fun j _ => by simp⟩⟩⟩

end
end Jq

/- Programs made of numbers; what a thread's events are. -/
namespace Jq
open Go

/-- Skips lead to where they may. -/
def SkipOk (code : List Ins) : Prop := ∀ (j : Nat) (i : Ins), code[j]? = some i → i.kind = 6 → 0 ≤ i.n ∧ (j : Int) + 1 + i.n ≤ code.length

structure GoodP (most : Nat) (P : PProg) : Prop where
  small : P.small
  good : P.good
  n : 2 ≤ P.thr.length ∧ P.thr.length ≤ 3
  init : P.init.length ≤ 3
  locs : P.locs.length = P.init.length
  code : ∀ c ∈ P.thr, c.length ≤ 6
  skip : ∀ c ∈ P.thr, SkipOk c

theorem SmI.good {L : Int} {i : Ins} (s : SmI L i) {n : Nat} (hn : 1 ≤ n) : GoodI n i := by
  rcases s with ⟨h1, h2, _⟩ | ⟨h1, h2, _⟩ | rfl | ⟨h1, h2, _⟩ | ⟨h1, h2, _, _, h3, _⟩ | ⟨h1, h2, _, _, h3, _, h4⟩
  all_goals refine ⟨?_, ?_, ?_, ?_⟩ <;> (try simp only) <;> omega

theorem SmI.skip {L : Int} {i : Ins} (s : SmI L i) (h : i.kind = 6) : i.n = 1 := by
  rcases s with ⟨h1, _⟩ | ⟨h1, _⟩ | rfl | ⟨h1, _⟩ | ⟨h1, _⟩ | ⟨h1, h2, _, _, h3, _, h4⟩
  · omega
  · omega
  · simp at h
  · omega
  · omega
  · exact h4

theorem ThrOk.skip {L : Int} {k : Nat} {c : List Ins} (t : ThrOk L k c) : SkipOk c := by
  induction t with
  | nil => intro j i h; simp at h
  | @one k c q t hq h6 ih =>
    intro j i h hk
    rcases Nat.lt_or_ge j c.length with hj | hj
    · rw [List.getElem?_append_left hj] at h
      have := ih j i h hk
      rw [List.length_append]; simp; omega
    · rw [List.getElem?_append_right hj] at h
      have := List.mem_of_getElem? h
      rw [List.mem_singleton] at this
      subst this; exact absurd hk h6
  | @two k c q r t hq h6 hr hr1 ih =>
    intro j i h hk
    rcases Nat.lt_or_ge j c.length with hj | hj
    · rw [List.getElem?_append_left hj] at h
      have := ih j i h hk
      rw [List.length_append]; simp; omega
    · rw [List.getElem?_append_right hj] at h
      have h2 := getI_lt h
      simp only [List.length_cons, List.length_nil] at h2
      rcases (show j - c.length = 0 ∨ j - c.length = 1 by omega) with e | e
      · rw [e] at h
        cases h
        have := hq.skip hk
        rw [List.length_append]; simp; omega
      · rw [e] at h
        cases h
        omega

theorem compI_kn {locs : List Int} {i : Ins} : (compI locs i).kind = i.kind ∧ (compI locs i).n = i.n := by
  unfold compI; split <;> exact ⟨rfl, rfl⟩

theorem SkipOk.map {locs : List Int} {c : List Ins} (s : SkipOk c) : SkipOk (c.map (compI locs)) := by
  intro j i h hk
  rw [List.getElem?_map] at h
  cases hc : c[j]? with
  | none => rw [hc] at h; cases h
  | some q =>
    rw [hc] at h
    cases h
    rw [compI_kn.1] at hk
    rw [compI_kn.2, List.length_map]
    exact s j q hc hk

theorem compI_good {locs : List Int} {i : Ins} {n : Nat} (g : GoodI n i) : GoodI n (compI locs i) := by
  unfold compI
  split
  · exact ⟨g.1, g.2, g.3, g.4⟩
  · exact g

theorem SmI.loc {L : Int} {i : Ins} (s : SmI L i) : i.loc = 0 ∨ (120 ≤ i.loc ∧ i.loc < 120 + L) := by
  rcases s with ⟨h1, h2, h3, _⟩ | ⟨h1, h2, h3, _⟩ | rfl | ⟨h1, h2, h3, _⟩ | ⟨h1, h2, h3, _, _⟩ | ⟨h1, h2, h3, _, _, _⟩
  · exact .inr h3
  · exact .inr h3
  · exact .inl rfl
  · exact .inr h3
  · exact .inl h3
  · exact .inl h3

theorem locsF_few (S : Nat → Bool) (hS : ∀ b, 97 ≤ b → b < 120 → S b = false) : ∀ n, n ≤ 26 → (locsF S n).length ≤ n - 23
  | 0, _ => by simp [locsF]
  | n + 1, h => by
    have ih := locsF_few S hS n (by omega)
    rw [locsF_succ]
    split
    · rename_i hs
      have : ¬ 97 + n < 120 := fun hlt => by rw [hS _ (by omega) hlt] at hs; cases hs
      rw [List.length_append, List.length_singleton]; omega
    · omega

theorem GoodT.small {most : Nat} {T : PTest} (g : GoodT most T) : T.small := by
  obtain ⟨L, hL, hc⟩ := g.code
  refine ⟨?_, by have := g.n; omega, fun c hcm => ?_, by have := g.any.1; omega, fun c hcm => by have := (g.any.2 c hcm).1; omega⟩
  · rcases g.inits with h | ⟨v, _, _, h⟩ <;> rw [h] <;> simp
  · obtain ⟨k, hk, ht⟩ := hc c hcm
    have := ht.len; omega

theorem GoodT.few {most : Nat} {T : PTest} (g : GoodT most T) : (locsT T).length ≤ 3 := by
  obtain ⟨L, hL, hc⟩ := g.code
  refine Nat.le_trans (locsF_few (thereT T) (fun b h1 h2 => ?_) 26 (Nat.le_refl _)) (by omega)
  unfold thereT
  rw [Bool.or_eq_false_iff, Bool.or_eq_false_iff]
  refine ⟨⟨?_, ?_⟩, ?_⟩
  · rw [List.any_eq_false]
    intro p hp
    rcases g.inits with h | ⟨v, _, _, h⟩
    · rw [h] at hp; cases hp
    · rw [h] at hp
      rw [List.mem_singleton] at hp
      subst hp
      rw [beq_iff_eq]; simp only; omega
  · rw [List.any_eq_false]
    intro c hcm
    rw [Bool.not_eq_true, List.any_eq_false]
    intro i hi
    obtain ⟨k, hk, ht⟩ := hc c hcm
    rw [beq_iff_eq]
    have := (ht.all i hi).loc
    omega
  · rw [List.any_eq_false]
    intro c hcm
    rw [Bool.not_eq_true, List.any_eq_false]
    intro i hi
    rw [beq_iff_eq]
    have := (g.any.2 c hcm).2 i hi
    omega

theorem GoodT.goodP {most : Nat} {T : PTest} (g : GoodT most T) : GoodP most (compT T) := by
  obtain ⟨L, hL, hc⟩ := g.code
  have hlen : ∀ c ∈ T.thr, c.length ≤ 6 := fun c hcm => by
    obtain ⟨k, hk, ht⟩ := hc c hcm
    have := ht.len; omega
  have hcode : ∀ c ∈ (compT T).thr, c.length ≤ 6 := fun c hcm => by
    obtain ⟨d, hd, rfl⟩ := List.mem_map.1 hcm
    rw [List.length_map]; exact hlen d hd
  have hn : (compT T).thr.length = T.thr.length := List.length_map _
  have hi : (compT T).init.length = (locsT T).length := List.length_map _
  have hfew := g.few
  have hgn := g.n
  refine ⟨⟨by omega, fun c hcm => by have := hcode c hcm; omega⟩, ⟨⟨by omega, fun c hcm => by have := hcode c hcm; omega⟩, fun c hcm => ?_⟩, by omega, by omega, hi.symm, hcode, fun c hcm => by
    obtain ⟨d, hd, rfl⟩ := List.mem_map.1 hcm
    obtain ⟨k, hk, ht⟩ := hc d hd
    exact ht.skip.map⟩
  obtain ⟨d, hd, rfl⟩ := List.mem_map.1 hcm
  intro i him
  obtain ⟨j, hj, rfl⟩ := List.mem_map.1 him
  rw [List.length_map]
  obtain ⟨k, hk, ht⟩ := hc d hd
  exact compI_good ((ht.all j hj).good (List.length_pos_of_mem hj))

section
variable {E : Env}

end

/-- How many events read. -/
def rdc (l : List Evt) : Nat := l.countP evRd
def EvOk (t : Int) (all : List Int) (j n : Nat) (e : Evt) : Prop :=
  e.t = t ∧ e.i = (j : Int) ∧ 1 ≤ e.kind ∧ e.kind ≤ 5 ∧ (evWr e = false → e.w = 0) ∧ (evRd e = true → all[n]? = some e.r) ∧ (evRd e = false → e.r = 0)
def OutOk (t : Int) (all : List Int) (out : List Evt) : Prop := ∀ (j : Nat) (e : Evt), out[j]? = some e → EvOk t all j (rdc (out.take j)) e

theorem OutOk.nil (t : Int) (all : List Int) : OutOk t all [] := fun j e h => by simp at h
end Jq

/- Laws of threads step by step. -/
namespace Jq
open Go

section
variable {E : Env}

theorem Size_R (hE : prog_Size_In E) {cs : List Cell} {P : PProg} {h : AHeap} (p : ProgAt h cs P) (hs : P.small) : R E 102 [.agg cs] h = some ([.c (.int .i64 (sumL P.thr))], h) := by
  obtain ⟨a, b, c, ts, rfl, _, _, ⟨hc, _⟩, hx⟩ := p
  refine R_intro hE.fn ?_
  have a2 : ∀ {α : Type} (f : Cell → Option α), atK [a, b, c] 2 f = f c := fun _ => rfl
  have n2 := hs.1
  have loop := Lim_count (F := prog_Size_F1 (R E) Lim E.glob) (fun i => prog_Size_s1 (sumL (P.thr.take i)) c P.thr.length (i : Int) h) 0 P.thr.length (by omega) (p := (.exit 0, prog_Size_x1_1 (sumL (P.thr.take P.thr.length)) h))
    (fun i _ hi => by
      have hq : P.thr[i]? = some P.thr[i] := List.getElem?_eq_getElem hi
      generalize P.thr[i] = q at hq
      obtain ⟨y, y1, y2, y3⟩ := hx i q hq
      have hsum := sumT_le (P.thr.take i) fun c hc => hs.2 c (List.mem_of_mem_take hc)
      rw [List.length_take] at hsum
      have hql := hs.2 q (List.mem_of_getElem? hq)
      have hw : E.glob.wrap .i64 (sumL (P.thr.take i) + (q.length : Int)) = sumL (P.thr.take (i + 1)) := by
        rw [takeI_succ hq, sumL_snoc]
        unfold sumL
        exact g_wrap_i64 (by omega) (by omega)
      rw [prog_Size_r1, if_pos (by simp; omega), hc.get1 hi y1, y2.len, hw, g_succ (by omega)])
    (Lim_exit (by rw [prog_Size_r1, if_neg (by simp)]))
  rw [List.take_of_length_le (Nat.le_refl _), show sumL (P.thr.take 0) = 0 from rfl, show ((0 : Nat) : Int) = 0 from rfl] at loop
  rw [prog_Size_eq, a2, hc.len, loop, bind_ok, prog_Size_e1_1]

def T6 : PTest := ⟨ByteArray.mk #[97], [], [[⟨5, 0, 0, ⟨-1, 1⟩, 0, ⟨-1, 0⟩, 0⟩, ⟨1, 0, 120, ⟨0, 0⟩, 0, ⟨0, 0⟩, 0⟩]], 0, []⟩

end
end Jq

/- A skip leads over as many as it says. -/
namespace Jq
open Go

def incI : Ins := ⟨5, 0, 0, ⟨0, 0⟩, 1, ⟨-1, 1⟩, 0⟩
def skipI (a b n : Int) : Ins := ⟨6, 0, 0, ⟨-1, a⟩, 0, ⟨-1, b⟩, n⟩

section
variable {E : Env}

end
end Jq

/- Registers are what their numbers make of each other. -/
namespace Jq
open Go

def SetOk (i : Ins) : Prop := i.kind = 5 ∧ (0 ≤ i.reg ∧ i.reg < 4) ∧ 0 ≤ i.op ∧ i.op ≤ 11
def regsC (l : Lcl) : List Cell := [.int .i64 l.r0, .int .i64 l.r1, .int .i64 l.r2, .int .i64 l.r3]

/-- What a row of settings makes, one after another. -/
def setV (i : Ins) (l : Lcl) : Lcl := l.setR i.reg ((doV i.op (opV i.a l) (opV i.b l)).getD (opV i.a l))

theorem splice_app (a b xs : List Cell) (j : Nat) : splice (a ++ b) (a.length + j) xs = a ++ splice b j xs := by
  unfold splice
  rw [List.take_append, List.drop_append, List.take_of_length_le (by omega), List.drop_of_length_le (l := a) (by omega)]
  simp only [List.nil_append, List.append_assoc, show a.length + j - a.length = j by omega, show a.length + j + xs.length - a.length = j + xs.length by omega]

section
variable {E : Env}

/-- A setting made of a number. -/
def mkOp (E : Env) (x : Int) : Int := E.glob.rem .i64 (E.glob.band .i64 (E.glob.shr .i64 x 4) 255) 12
def mkRaw (E : Env) (x : Int) : Ins := ⟨5, E.glob.band .i64 x 3, 0, ⟨E.glob.band .i64 (E.glob.shr .i64 x 2) 3, 0⟩, mkOp E x, ⟨E.glob.band .i64 (E.glob.shr .i64 x 12) 3, 0⟩, 0⟩
def mkI (E : Env) (x : Int) : Ins := if mkOp E x = 0 then { mkRaw E x with b := ⟨-1, 0⟩ } else mkRaw E x

def setsBase (a b : Int) : List Ins := [⟨5, 0, 0, ⟨-1, a⟩, 0, ⟨-1, 0⟩, 0⟩, ⟨5, 1, 0, ⟨-1, b⟩, 0, ⟨-1, 0⟩, 0⟩]

end
end Jq

namespace Jq
open Go

/- jacquard/buf.New: 190 -/
set_option maxRecDepth 100000 in
theorem buf_New_eq (C : CallF) (L : LoopF) (G : Glo) (a0 : Int) (h0 : AHeap) :
    buf_New.body C L G [(.c (.int .i64 a0))] h0 =
    scK (a0 != 2) true (some ((a0 != 3), h0)) false h0 fun b_1 h_2 => if b_1 = true then if 0 = 0 ∧ (List.replicate 74 (Cell.int .i64 0)).length = 74 ∧ (splice (List.replicate 74 (Cell.int .i64 0)) 0 ([(.int .i64 0)] : List Cell)).length = 74 then if 0 = 0 ∧ (splice (List.replicate 74 (Cell.int .i64 0)) 0 ([(.int .i64 0)] : List Cell)).length = 74 then some ([(.agg (splice (List.replicate 74 (Cell.int .i64 0)) 0 ([(.int .i64 0)] : List Cell)))], h_2) else none else none else if 0 = 0 ∧ (List.replicate 74 (Cell.int .i64 0)).length = 74 ∧ (splice (List.replicate 74 (Cell.int .i64 0)) 0 ([(.int .i64 a0)] : List Cell)).length = 74 then if 0 = 0 ∧ (splice (List.replicate 74 (Cell.int .i64 0)) 0 ([(.int .i64 a0)] : List Cell)).length = 74 then some ([(.agg (splice (List.replicate 74 (Cell.int .i64 0)) 0 ([(.int .i64 a0)] : List Cell)))], h_2) else none else none := by kernel_rfl

/- (jacquard/buf.Buf).Empty: 191 -/
set_option maxRecDepth 100000 in
theorem buf_Buf_Empty_eq (C : CallF) (L : LoopF) (G : Glo) (l0 : List Cell) (h0 : AHeap) :
    buf_Buf_Empty.body C L G [(.agg l0)] h0 =
    atK l0 1 fun q_1 => asI .i64 (.c q_1) fun n_2 => some ([(.c (.bool (n_2 == 0)))], h0) := by kernel_rfl

/- (jacquard/buf.Buf).Oldest: 192 -/
set_option maxRecDepth 100000 in
theorem buf_Buf_Oldest_eq (C : CallF) (L : LoopF) (G : Glo) (l0 : List Cell) (a1 : Int) (h0 : AHeap) :
    buf_Buf_Oldest.body C L G [(.agg l0), (.c (.int .i64 a1))] h0 =
    if 0 = 0 ∧ l0.length = 74 then c1 (C 204 [(.agg l0), (.c (.int .i64 a1))] h0) fun y_2 h_1 => asI .i64 y_2 fun n_3 => if (decide (n_3 < 0)) = true then some ([(.c (.int .i64 0)), (.c (.int .i64 0)), (.c (.int .i64 0)), (.c (.bool false))], h_1) else if 0 ≤ n_3 ∧ n_3 < ((24 : Nat) : Int) then atK l0 ((2 + ((Int.toNat n_3) * 3)) + 0) fun q_4 => asI .i64 (.c q_4) fun n_5 => if 0 ≤ n_3 ∧ n_3 < ((24 : Nat) : Int) then atK l0 ((2 + ((Int.toNat n_3) * 3)) + 1) fun q_6 => asI .i64 (.c q_6) fun n_7 => if 0 ≤ n_3 ∧ n_3 < ((24 : Nat) : Int) then atK l0 ((2 + ((Int.toNat n_3) * 3)) + 2) fun q_8 => asI .i64 (.c q_8) fun n_9 => some ([(.c (.int .i64 n_5)), (.c (.int .i64 n_7)), (.c (.int .i64 n_9)), (.c (.bool true))], h_1) else none else none else none else none := by kernel_rfl

/- (jacquard/buf.Buf).oldest: 204 -/
def buf_Buf_oldest_k2 (C : CallF) (L : LoopF) (G : Glo) (h0 : AHeap) : Ex → St → Option (List AV × AHeap) :=
  kSeq (fun st => buf_Buf_oldest_p1.exec C L G st (buf_Buf_oldest.fin G h0)) (buf_Buf_oldest.fin G h0)
def buf_Buf_oldest_k3 (C : CallF) (L : LoopF) (G : Glo) (h0 : AHeap) : Ex → St → Option (List AV × AHeap) :=
  kBlk 0 (buf_Buf_oldest_k2 C L G h0)
def buf_Buf_oldest_s1 (a1 : Int) (a7 : Int) (a8 : Int) (s0 : List Cell) (h : AHeap) : St := ⟨[.top, .v (.c (.int .i64 a1)), .loc 0 0, .top, .top, .top, .top, .v (.c (.int .i64 a7)), .v (.c (.int .i64 a8)), .top, .top, .top, .top, .top, .top, .top, .top, .top, .top, .top, .top, .top, .top, .top, .top], [some s0], h⟩
def buf_Buf_oldest_F1 (C : CallF) (L : LoopF) (G : Glo) : St → Option (Ex × St) :=
  roundF (fun st f => buf_Buf_oldest_b1.exec C L G st f) [1, 2, 7, 8] [0] [(0, [4], []), (1, [], [])]
def buf_Buf_oldest_x1_0 (a4 : Int) (h : AHeap) : St := ⟨[.top, .top, .top, .top, .v (.c (.int .i64 a4)), .top, .top, .top, .top, .top, .top, .top, .top, .top, .top, .top, .top, .top, .top, .top, .top, .top, .top, .top, .top], [none], h⟩
def buf_Buf_oldest_x1_1 (h : AHeap) : St := ⟨[.top, .top, .top, .top, .top, .top, .top, .top, .top, .top, .top, .top, .top, .top, .top, .top, .top, .top, .top, .top, .top, .top, .top, .top, .top], [none], h⟩
theorem buf_Buf_oldest_r1 (C : CallF) (L : LoopF) (G : Glo) (a1 : Int) (a7 : Int) (a8 : Int) (s0 : List Cell) (h : AHeap) :
    buf_Buf_oldest_F1 C L G (buf_Buf_oldest_s1 a1 a7 a8 s0 h) =
    if (decide (a8 < a7)) = true then atK s0 0 fun q_3 => asI .i64 (.c q_3) fun n_4 => scK (n_4 == 2) false (if 0 ≤ a8 ∧ a8 < ((24 : Nat) : Int) then atK s0 ((2 + ((Int.toNat a8) * 3)) + 0) fun q_5 => asI .i64 (.c q_5) fun n_6 => some ((n_6 == a1), h) else none) true h fun b_7 h_8 => if b_7 = true then some (.ret, (buf_Buf_oldest_x1_0 a8 h_8)) else some (.normal, (buf_Buf_oldest_s1 a1 a7 (G.wrap .i64 (a8 + 1)) s0 h_8)) else some ((.exit 0), (buf_Buf_oldest_x1_1 h)) := by kernel_rfl
theorem buf_Buf_oldest_e1_0 (C : CallF) (L : LoopF) (G : Glo) (h0 : AHeap) (a4 : Int) (h : AHeap) :
    (buf_Buf_oldest_k3 C L G h0) .ret (buf_Buf_oldest_x1_0 a4 h) =
    some ([(.c (.int .i64 a4))], h) := by kernel_rfl
theorem buf_Buf_oldest_e1_1 (C : CallF) (L : LoopF) (G : Glo) (h0 : AHeap) (h : AHeap) :
    (buf_Buf_oldest_k3 C L G h0) (.exit 0) (buf_Buf_oldest_x1_1 h) =
    some ([(.c (.int .i64 (-1)))], h) := by kernel_rfl
set_option maxRecDepth 100000 in
theorem buf_Buf_oldest_eq (C : CallF) (L : LoopF) (G : Glo) (l0 : List Cell) (a1 : Int) (h0 : AHeap) :
    buf_Buf_oldest.body C L G [(.agg l0), (.c (.int .i64 a1))] h0 =
    atK l0 1 fun q_1 => asI .i64 (.c q_1) fun n_2 => (L (buf_Buf_oldest_F1 C L G) (buf_Buf_oldest_s1 a1 n_2 0 l0 h0)).bind fun p_9 => (buf_Buf_oldest_k3 C L G h0) p_9.1 p_9.2 := by kernel_rfl

/- (jacquard/buf.Buf).Newest: 205 -/
def buf_Buf_Newest_k2 (C : CallF) (L : LoopF) (G : Glo) (h0 : AHeap) : Ex → St → Option (List AV × AHeap) :=
  kSeq (fun st => buf_Buf_Newest_p1.exec C L G st (buf_Buf_Newest.fin G h0)) (buf_Buf_Newest.fin G h0)
def buf_Buf_Newest_k3 (C : CallF) (L : LoopF) (G : Glo) (h0 : AHeap) : Ex → St → Option (List AV × AHeap) :=
  kBlk 0 (buf_Buf_Newest_k2 C L G h0)
def buf_Buf_Newest_s1 (a1 : Int) (a7 : Int) (s0 : List Cell) (h : AHeap) : St := ⟨[.top, .v (.c (.int .i64 a1)), .loc 0 0, .top, .top, .top, .top, .v (.c (.int .i64 a7)), .top, .top, .top, .top, .top, .top, .top, .top, .top, .top, .top, .top, .top, .top, .top, .top, .top, .top, .top, .top, .top, .top, .top, .top], [some s0], h⟩
def buf_Buf_Newest_F1 (C : CallF) (L : LoopF) (G : Glo) : St → Option (Ex × St) :=
  roundF (fun st f => buf_Buf_Newest_b1.exec C L G st f) [1, 2, 7] [0] [(0, [4, 5, 6], []), (1, [], [])]
def buf_Buf_Newest_x1_0 (a4 : Int) (a5 : Int) (b6 : Bool) (h : AHeap) : St := ⟨[.top, .top, .top, .top, .v (.c (.int .i64 a4)), .v (.c (.int .i64 a5)), .v (.c (.bool b6)), .top, .top, .top, .top, .top, .top, .top, .top, .top, .top, .top, .top, .top, .top, .top, .top, .top, .top, .top, .top, .top, .top, .top, .top, .top], [none], h⟩
def buf_Buf_Newest_x1_1 (h : AHeap) : St := ⟨[.top, .top, .top, .top, .top, .top, .top, .top, .top, .top, .top, .top, .top, .top, .top, .top, .top, .top, .top, .top, .top, .top, .top, .top, .top, .top, .top, .top, .top, .top, .top, .top], [none], h⟩
theorem buf_Buf_Newest_r1 (C : CallF) (L : LoopF) (G : Glo) (a1 : Int) (a7 : Int) (s0 : List Cell) (h : AHeap) :
    buf_Buf_Newest_F1 C L G (buf_Buf_Newest_s1 a1 a7 s0 h) =
    if (decide (a7 ≥ 0)) = true then if 0 ≤ a7 ∧ a7 < ((24 : Nat) : Int) then atK s0 ((2 + ((Int.toNat a7) * 3)) + 0) fun q_3 => asI .i64 (.c q_3) fun n_4 => if (n_4 == a1) = true then if 0 ≤ a7 ∧ a7 < ((24 : Nat) : Int) then atK s0 ((2 + ((Int.toNat a7) * 3)) + 1) fun q_5 => asI .i64 (.c q_5) fun n_6 => if 0 ≤ a7 ∧ a7 < ((24 : Nat) : Int) then atK s0 ((2 + ((Int.toNat a7) * 3)) + 2) fun q_7 => asI .i64 (.c q_7) fun n_8 => some (.ret, (buf_Buf_Newest_x1_0 n_6 n_8 true h)) else none else none else some (.normal, (buf_Buf_Newest_s1 a1 (G.wrap .i64 (a7 - 1)) s0 h)) else none else some ((.exit 0), (buf_Buf_Newest_x1_1 h)) := by kernel_rfl
theorem buf_Buf_Newest_e1_0 (C : CallF) (L : LoopF) (G : Glo) (h0 : AHeap) (a4 : Int) (a5 : Int) (b6 : Bool) (h : AHeap) :
    (buf_Buf_Newest_k3 C L G h0) .ret (buf_Buf_Newest_x1_0 a4 a5 b6 h) =
    some ([(.c (.int .i64 a4)), (.c (.int .i64 a5)), (.c (.bool b6))], h) := by kernel_rfl
theorem buf_Buf_Newest_e1_1 (C : CallF) (L : LoopF) (G : Glo) (h0 : AHeap) (h : AHeap) :
    (buf_Buf_Newest_k3 C L G h0) (.exit 0) (buf_Buf_Newest_x1_1 h) =
    some ([(.c (.int .i64 0)), (.c (.int .i64 0)), (.c (.bool false))], h) := by kernel_rfl
set_option maxRecDepth 100000 in
theorem buf_Buf_Newest_eq (C : CallF) (L : LoopF) (G : Glo) (l0 : List Cell) (a1 : Int) (h0 : AHeap) :
    buf_Buf_Newest.body C L G [(.agg l0), (.c (.int .i64 a1))] h0 =
    atK l0 1 fun q_1 => asI .i64 (.c q_1) fun n_2 => (L (buf_Buf_Newest_F1 C L G) (buf_Buf_Newest_s1 a1 (G.wrap .i64 (n_2 - 1)) l0 h0)).bind fun p_9 => (buf_Buf_Newest_k3 C L G h0) p_9.1 p_9.2 := by kernel_rfl

/- (jacquard/buf.Buf).Put: 206 -/
set_option maxRecDepth 100000 in
theorem buf_Buf_Put_eq (C : CallF) (L : LoopF) (G : Glo) (l0 : List Cell) (a1 : Int) (a2 : Int) (a3 : Int) (h0 : AHeap) :
    buf_Buf_Put.body C L G [(.agg l0), (.c (.int .i64 a1)), (.c (.int .i64 a2)), (.c (.int .i64 a3))] h0 =
    atK l0 0 fun q_1 => asI .i64 (.c q_1) fun n_2 => scK (n_2 == 0) false (some ((decide (a1 < 0)), h0)) true h0 fun b_3 h_4 => scK b_3 false (some ((decide (a1 ≥ 4)), h_4)) true h_4 fun b_5 h_6 => scK b_5 false (atK l0 1 fun q_7 => asI .i64 (.c q_7) fun n_8 => some ((decide (n_8 ≥ 24)), h_6)) true h_6 fun b_9 h_10 => if b_9 = true then if 0 = 0 ∧ l0.length = 74 then if 0 = 0 ∧ (List.replicate 74 (Cell.int .i64 0)).length = 74 ∧ l0.length = 74 then if 0 = 0 ∧ l0.length = 74 then some ([(.agg l0)], h_10) else none else none else none else atK l0 1 fun q_11 => asI .i64 (.c q_11) fun n_12 => if 0 ≤ n_12 ∧ n_12 < ((24 : Nat) : Int) then if (2 + ((Int.toNat n_12) * 3)) + 3 ≤ l0.length ∧ (splice (splice (splice [Cell.int .i64 0, Cell.int .i64 0, Cell.int .i64 0] 0 ([(.int .i64 a1)] : List Cell)) 1 ([(.int .i64 a2)] : List Cell)) 2 ([(.int .i64 a3)] : List Cell)).length = 3 then atK (splice l0 (2 + ((Int.toNat n_12) * 3)) (splice (splice (splice [Cell.int .i64 0, Cell.int .i64 0, Cell.int .i64 0] 0 ([(.int .i64 a1)] : List Cell)) 1 ([(.int .i64 a2)] : List Cell)) 2 ([(.int .i64 a3)] : List Cell))) 1 fun q_13 => asI .i64 (.c q_13) fun n_14 => if 1 < (splice l0 (2 + ((Int.toNat n_12) * 3)) (splice (splice (splice [Cell.int .i64 0, Cell.int .i64 0, Cell.int .i64 0] 0 ([(.int .i64 a1)] : List Cell)) 1 ([(.int .i64 a2)] : List Cell)) 2 ([(.int .i64 a3)] : List Cell))).length then if 0 = 0 ∧ ((splice l0 (2 + ((Int.toNat n_12) * 3)) (splice (splice (splice [Cell.int .i64 0, Cell.int .i64 0, Cell.int .i64 0] 0 ([(.int .i64 a1)] : List Cell)) 1 ([(.int .i64 a2)] : List Cell)) 2 ([(.int .i64 a3)] : List Cell))).set 1 (.int .i64 (G.wrap .i64 (n_14 + 1)))).length = 74 then if 0 = 0 ∧ (List.replicate 74 (Cell.int .i64 0)).length = 74 ∧ ((splice l0 (2 + ((Int.toNat n_12) * 3)) (splice (splice (splice [Cell.int .i64 0, Cell.int .i64 0, Cell.int .i64 0] 0 ([(.int .i64 a1)] : List Cell)) 1 ([(.int .i64 a2)] : List Cell)) 2 ([(.int .i64 a3)] : List Cell))).set 1 (.int .i64 (G.wrap .i64 (n_14 + 1)))).length = 74 then if 0 = 0 ∧ ((splice l0 (2 + ((Int.toNat n_12) * 3)) (splice (splice (splice [Cell.int .i64 0, Cell.int .i64 0, Cell.int .i64 0] 0 ([(.int .i64 a1)] : List Cell)) 1 ([(.int .i64 a2)] : List Cell)) 2 ([(.int .i64 a3)] : List Cell))).set 1 (.int .i64 (G.wrap .i64 (n_14 + 1)))).length = 74 then some ([(.agg ((splice l0 (2 + ((Int.toNat n_12) * 3)) (splice (splice (splice [Cell.int .i64 0, Cell.int .i64 0, Cell.int .i64 0] 0 ([(.int .i64 a1)] : List Cell)) 1 ([(.int .i64 a2)] : List Cell)) 2 ([(.int .i64 a3)] : List Cell))).set 1 (.int .i64 (G.wrap .i64 (n_14 + 1)))))], h_10) else none else none else none else none else none else none := by kernel_rfl

/- (jacquard/buf.Buf).Drop: 207 -/
set_option maxRecDepth 100000 in
theorem buf_Buf_Drop_eq (C : CallF) (L : LoopF) (G : Glo) (l0 : List Cell) (a1 : Int) (h0 : AHeap) :
    buf_Buf_Drop.body C L G [(.agg l0), (.c (.int .i64 a1))] h0 =
    rdH (h0 ++ [some (Blk.mk true 0 (AV.cells (.agg l0)))]) h0.length ((AV.cells (.agg l0)).length) fun l_1 => if 0 = 0 ∧ l_1.length = 74 then c1 (C 204 [(.agg l_1), (.c (.int .i64 a1))] (h0 ++ [some (Blk.mk true 0 (AV.cells (.agg l0)))])) fun y_3 h_2 => asI .i64 y_3 fun n_4 => if (decide (n_4 < 0)) = true then rdH h_2 h0.length ((AV.cells (.agg l0)).length) fun l_5 => if 0 = 0 ∧ l_5.length = 74 then if 0 = 0 ∧ (List.replicate 74 (Cell.int .i64 0)).length = 74 ∧ l_5.length = 74 then if 0 = 0 ∧ l_5.length = 74 then finish true h0 [(.agg l_5)] h_2 else none else none else none else sliceAK h_2 24 3 true false (.ptr h0.length ((AV.cells (.agg l0)).length) 2) [.v (.c (.int .i64 n_4))] fun x_6 => sliceAK h_2 24 3 true false (.ptr h0.length ((AV.cells (.agg l0)).length) 2) [.v (.c (.int .i64 (G.wrap .i64 (n_4 + 1))))] fun x_7 => copyK 3 x_6 x_7 h_2 fun n_8 h_9 => rdH h_9 h0.length ((AV.cells (.agg l0)).length) fun l_10 => atK l_10 1 fun q_11 => asI .i64 (.c q_11) fun n_12 => rdH h_9 h0.length ((AV.cells (.agg l0)).length) fun l_13 => if 1 < l_13.length then putH h_9 h0.length (l_13.set 1 (.int .i64 (G.wrap .i64 (n_12 - 1)))) fun h_14 => rdH h_14 h0.length ((AV.cells (.agg l0)).length) fun l_15 => atK l_15 1 fun q_16 => asI .i64 (.c q_16) fun n_17 => if 0 ≤ n_17 ∧ n_17 < ((24 : Nat) : Int) then rdH h_14 h0.length ((AV.cells (.agg l0)).length) fun l_18 => if (2 + ((Int.toNat n_17) * 3)) + 3 ≤ l_18.length ∧ [Cell.int .i64 0, Cell.int .i64 0, Cell.int .i64 0].length = 3 then putH h_14 h0.length (splice l_18 (2 + ((Int.toNat n_17) * 3)) [Cell.int .i64 0, Cell.int .i64 0, Cell.int .i64 0]) fun h_19 => rdH h_19 h0.length ((AV.cells (.agg l0)).length) fun l_20 => if 0 = 0 ∧ l_20.length = 74 then if 0 = 0 ∧ (List.replicate 74 (Cell.int .i64 0)).length = 74 ∧ l_20.length = 74 then if 0 = 0 ∧ l_20.length = 74 then finish true h0 [(.agg l_20)] h_19 else none else none else none else none else none else none else none := by kernel_rfl


end Jq

/- Stores that wait. -/
namespace Jq
open Go

structure Ent where
  loc : Int
  val : Int
  id : Int
  deriving DecidableEq
def Ent.cs (e : Ent) : List Cell := [.int .i64 e.loc, .int .i64 e.val, .int .i64 e.id]
def entsC (l : List Ent) : List Cell := l.flatMap Ent.cs
theorem entsC_len : ∀ l : List Ent, (entsC l).length = l.length * 3
  | [] => rfl
  | s :: l => by simp only [entsC, List.flatMap_cons, List.length_append]; rw [show (l.flatMap _).length = _ from entsC_len l]; simp [Ent.cs]; omega
theorem entsC_get : ∀ (l : List Ent) (i : Nat) (s : Ent), l[i]? = some s → ∀ j, j < 3 → (entsC l)[i * 3 + j]? = s.cs[j]?
  | [], _, _, h, _, _ => by simp at h
  | q :: l, 0, s, h, j, hj => by
    simp at h; subst h
    rw [show entsC (q :: l) = q.cs ++ entsC l from rfl, List.getElem?_append_left (by simp [Ent.cs]; omega)]; congr 1; omega
  | q :: l, i + 1, s, h, j, hj => by
    have := entsC_get l i s (by simpa using h) j hj
    rw [show entsC (q :: l) = q.cs ++ entsC l from rfl, List.getElem?_append_right (by simp [Ent.cs]; omega), ← this]
    congr 1; simp [Ent.cs]; omega

/-- A row of stores, as it lies in memory. -/
def bufC (m : Int) (l : List Ent) : List Cell := [.int .i64 m, .int .i64 (l.length : Int)] ++ (entsC l ++ List.replicate (72 - l.length * 3) (.int .i64 0))
theorem bufC_len (m : Int) {l : List Ent} (h : l.length ≤ 24) : (bufC m l).length = 74 := by
  unfold bufC; rw [List.length_append, List.length_append, entsC_len, List.length_replicate]; simp; omega
theorem bufC_at {α : Type} {m : Int} {l : List Ent} {i j : Nat} {s : Ent} {c : Cell} (h : l[i]? = some s) (hj : j < 3) (hc : s.cs[j]? = some c) {f : Cell → Option α} : atK (bufC m l) ((2 + i * 3) + j) f = f c := by
  refine atK_ok ?_
  have hi := getI_lt h
  have hl := entsC_len l
  unfold bufC
  rw [List.getElem?_append_right (by simp; omega), List.getElem?_append_left (by simp; omega)]
  rw [show 2 + i * 3 + j - [Cell.int .i64 m, Cell.int .i64 (l.length : Int)].length = i * 3 + j by simp; omega, entsC_get l i s h j hj, hc]

/-- Where the one stands that comes to memory first. -/
def oldP (m loc : Int) (e : Ent) : Bool := m == 2 || e.loc == loc
def oldI (m loc : Int) (l : List Ent) : Int := match l.findIdx? (oldP m loc) with | some i => i | none => -1
def newE (loc : Int) (l : List Ent) : Option Ent := l.reverse.find? fun e => e.loc == loc

/-- A loop that looks for the first. -/
theorem Lim_find {α : Type} {F : St → Option (Ex × St)} (S r : Nat → St) (x : St) (e : Nat) (l : List α) (p : α → Bool) (hs : ∀ (i : Nat) (q : α), l[i]? = some q → F (S i) = if p q = true then some (.ret, r i) else some (.normal, S (i + 1))) (he : F (S l.length) = some (.exit e, x)) :
    Lim F (S 0) = some (match l.findIdx? p with | some i => (.ret, r i) | none => (.exit e, x)) := by
  have key : ∀ (t : List α) (i : Nat), l.drop i = t → i ≤ l.length → Lim F (S i) = some (match t.findIdx? p with | some k => (.ret, r (i + k)) | none => (.exit e, x)) := by
    intro t
    induction t with
    | nil =>
      intro i hd hi
      have : l.length ≤ i := by
        have := congrArg List.length hd
        rw [List.length_drop, List.length_nil] at this; omega
      obtain rfl : i = l.length := by omega
      rw [Lim_exit he]; rfl
    | cons q t ih =>
      intro i hd hi
      have hlt : i < l.length := by
        have := congrArg List.length hd
        rw [List.length_drop, List.length_cons] at this; omega
      have hq : l[i]? = some q := by rw [← List.head?_drop, hd]; rfl
      have hd2 : l.drop (i + 1) = t := by rw [← List.drop_drop, hd]; rfl
      have h1 := hs i q hq
      rw [List.findIdx?_cons]
      cases hp : p q with
      | true =>
        rw [hp, if_pos rfl] at h1
        rw [Lim_ret h1, if_pos rfl]; rfl
      | false =>
        rw [hp, if_neg (by simp)] at h1
        rw [Lim_next h1 (ih (i + 1) hd2 (by omega)), if_neg (by simp)]
        cases t.findIdx? p with
        | none => rfl
        | some k => show some (Ex.ret, r (i + 1 + k)) = some (Ex.ret, r (i + (k + 1))); rw [show i + 1 + k = i + (k + 1) by omega]
  have := key l 0 rfl (Nat.zero_le _)
  rw [this]
  cases l.findIdx? p with
  | none => rfl
  | some k => simp

section
variable {E : Env}

theorem bufNew_R (hE : buf_New_In E) (m : Int) (h : AHeap) : R E 190 [.c (.int .i64 m)] h = some ([.agg (bufC (if m = 2 ∨ m = 3 then m else 0) [])], h) := by
  refine R_intro hE.fn ?_
  rw [buf_New_eq, scK_and]
  by_cases hm : m = 2 ∨ m = 3
  · rw [if_neg (by simp; omega), if_pos hm, if_pos (by exact ⟨rfl, rfl, rfl⟩), if_pos (by exact ⟨rfl, rfl⟩)]
    rfl
  · rw [if_pos (by simp; omega), if_neg hm, if_pos (by exact ⟨rfl, rfl, rfl⟩), if_pos (by exact ⟨rfl, rfl⟩)]
    rfl

theorem bufEmpty_R (hE : buf_Buf_Empty_In E) {m : Int} {l : List Ent} (h : AHeap) : R E 191 [.agg (bufC m l)] h = some ([.c (.bool (l.length == 0))], h) := by
  refine R_intro hE.fn ?_
  have a1 : ∀ {α : Type} (f : Cell → Option α), atK (bufC m l) 1 f = f (.int .i64 (l.length : Int)) := fun _ => rfl
  have hz : ((l.length : Int) == 0) = (l.length == 0) := by cases l <;> rfl
  rw [buf_Buf_Empty_eq, a1, asI_ok, hz]

theorem buf_a0 {α : Type} {m : Int} {l : List Ent} {f : Cell → Option α} : atK (bufC m l) 0 f = f (.int .i64 m) := rfl
theorem buf_a1 {α : Type} {m : Int} {l : List Ent} {f : Cell → Option α} : atK (bufC m l) 1 f = f (.int .i64 (l.length : Int)) := rfl

theorem bufoldest_R (hE : buf_Buf_oldest_In E) {m : Int} {l : List Ent} (hl : l.length ≤ 24) (loc : Int) (h : AHeap) : R E 204 [.agg (bufC m l), .c (.int .i64 loc)] h = some ([.c (.int .i64 (oldI m loc l))], h) := by
  refine R_intro hE.fn ?_
  have hL := Lim_find (F := buf_Buf_oldest_F1 (R E) Lim E.glob) (fun i => buf_Buf_oldest_s1 loc l.length (i : Int) (bufC m l) h) (fun i => buf_Buf_oldest_x1_0 (i : Int) h) (buf_Buf_oldest_x1_1 h) 0 l (oldP m loc) (fun i q hq => by
    have hi := getI_lt hq
    rw [buf_Buf_oldest_r1, if_pos (by simp; omega), buf_a0, asI_ok, if_pos ⟨by omega, by omega⟩, Int.toNat_natCast, bufC_at hq (by omega) (c := .int .i64 q.loc) rfl, asI_ok, scK_or, g_succ (by omega)]
    rfl) (by rw [buf_Buf_oldest_r1, if_neg (by simp)])
  have hL' : Lim (buf_Buf_oldest_F1 (R E) Lim E.glob) (buf_Buf_oldest_s1 loc l.length 0 (bufC m l) h) = _ := hL
  rw [buf_Buf_oldest_eq, buf_a1, asI_ok, hL', bind_ok]
  unfold oldI
  cases l.findIdx? (oldP m loc) with
  | none => dsimp only; rw [buf_Buf_oldest_e1_1]
  | some i => dsimp only; rw [buf_Buf_oldest_e1_0]

theorem bufOldest_R (hE : buf_Buf_Oldest_In E) {m : Int} {l : List Ent} (hl : l.length ≤ 24) (loc : Int) (h : AHeap) :
    R E 192 [.agg (bufC m l), .c (.int .i64 loc)] h = some (match l.find? (oldP m loc) with | some e => ([.c (.int .i64 e.loc), .c (.int .i64 e.val), .c (.int .i64 e.id), .c (.bool true)], h) | none => ([.c (.int .i64 0), .c (.int .i64 0), .c (.int .i64 0), .c (.bool false)], h)) := by
  refine R_intro hE.fn ?_
  rw [buf_Buf_Oldest_eq, if_pos ⟨rfl, bufC_len m hl⟩, bufoldest_R hE.c204 hl, c1_ok, asI_ok]
  unfold oldI
  cases hf : l.findIdx? (oldP m loc) with
  | none =>
    have : l.find? (oldP m loc) = none := by
      rw [List.find?_eq_none]
      intro e he
      rw [List.findIdx?_eq_none_iff] at hf
      rw [hf e he]; simp
    rw [this]
    dsimp only
    rw [if_pos (by decide)]
  | some i =>
    obtain ⟨hi, hp, hlt⟩ := List.findIdx?_eq_some_iff_getElem.1 hf
    have hq : l[i]? = some l[i] := List.getElem?_eq_getElem hi
    have hfi : l.find? (oldP m loc) = some l[i] := by
      rw [List.find?_eq_some_iff_getElem]
      exact ⟨hp, i, hi, rfl, fun j hj => by have := hlt j hj; simpa using this⟩
    rw [hfi]
    generalize l[i] = e at hq
    dsimp only
    rw [if_neg (by rw [decide_eq_true_eq]; omega), if_pos ⟨by omega, by omega⟩, Int.toNat_natCast, bufC_at hq (by omega) (c := .int .i64 e.loc) rfl, asI_ok, if_pos ⟨by omega, by omega⟩, bufC_at hq (by omega) (c := .int .i64 e.val) rfl, asI_ok, if_pos ⟨by omega, by omega⟩, bufC_at hq (by omega) (c := .int .i64 e.id) rfl, asI_ok]

theorem bufNewest_R (hE : buf_Buf_Newest_In E) {m : Int} {l : List Ent} (hl : l.length ≤ 24) (loc : Int) (h : AHeap) :
    R E 205 [.agg (bufC m l), .c (.int .i64 loc)] h = some (match newE loc l with | some e => ([.c (.int .i64 e.val), .c (.int .i64 e.id), .c (.bool true)], h) | none => ([.c (.int .i64 0), .c (.int .i64 0), .c (.bool false)], h)) := by
  refine R_intro hE.fn ?_
  have key : ∀ i : Nat, i ≤ l.length → (Lim (buf_Buf_Newest_F1 (R E) Lim E.glob) (buf_Buf_Newest_s1 loc ((i : Int) - 1) (bufC m l) h)).bind (fun p => buf_Buf_Newest_k3 (R E) Lim E.glob h p.1 p.2) =
      some (match (l.take i).reverse.find? (fun e => e.loc == loc) with | some e => ([.c (.int .i64 e.val), .c (.int .i64 e.id), .c (.bool true)], h) | none => ([.c (.int .i64 0), .c (.int .i64 0), .c (.bool false)], h)) := by
    intro i
    induction i with
    | zero =>
      intro _
      have hr : buf_Buf_Newest_F1 (R E) Lim E.glob (buf_Buf_Newest_s1 loc (((0 : Nat) : Int) - 1) (bufC m l) h) = some (.exit 0, buf_Buf_Newest_x1_1 h) := by
        rw [buf_Buf_Newest_r1, if_neg (by rw [decide_eq_true_eq]; omega)]
      rw [Lim_exit hr, bind_ok, buf_Buf_Newest_e1_1]; rfl
    | succ i ih =>
      intro hi
      have hq : l[i]? = some l[i] := List.getElem?_eq_getElem (by omega)
      generalize l[i] = e at hq
      have he : (((i + 1 : Nat) : Int) - 1) = (i : Int) := by omega
      rw [he, takeI_succ hq, List.reverse_append, List.reverse_singleton, List.singleton_append, List.find?_cons]
      have hg : ∀ (b : Bool), (e.loc == loc) = b → buf_Buf_Newest_F1 (R E) Lim E.glob (buf_Buf_Newest_s1 loc (i : Int) (bufC m l) h) = if b = true then some (.ret, buf_Buf_Newest_x1_0 e.val e.id true h) else some (.normal, buf_Buf_Newest_s1 loc ((i : Int) - 1) (bufC m l) h) := by
        intro b hb
        rw [buf_Buf_Newest_r1, if_pos (by rw [decide_eq_true_eq]; omega), if_pos ⟨by omega, by omega⟩, Int.toNat_natCast, bufC_at hq (by omega) (c := .int .i64 e.loc) rfl, asI_ok, hb]
        cases b with
        | true => rw [if_pos rfl, if_pos rfl, if_pos ⟨by omega, by omega⟩, bufC_at hq (by omega) (c := .int .i64 e.val) rfl, asI_ok, if_pos ⟨by omega, by omega⟩, bufC_at hq (by omega) (c := .int .i64 e.id) rfl, asI_ok]
        | false => rw [if_neg (by simp), if_neg (by simp), g_wrap_i64 (by omega) (by omega)]
      cases hb : (e.loc == loc) with
      | true =>
        have h1 := hg true hb
        rw [if_pos rfl] at h1
        rw [Lim_ret h1, bind_ok, buf_Buf_Newest_e1_0]
      | false =>
        have h1 := hg false hb
        rw [if_neg (by simp)] at h1
        have h2 := ih (by omega)
        dsimp only
        rw [← h2]
        cases hL : Lim (buf_Buf_Newest_F1 (R E) Lim E.glob) (buf_Buf_Newest_s1 loc ((i : Int) - 1) (bufC m l) h) with
        | none => rw [hL] at h2; cases h2
        | some w => rw [Lim_next h1 hL]
  have := key l.length (Nat.le_refl _)
  rw [List.take_of_length_le (Nat.le_refl _)] at this
  rw [buf_Buf_Newest_eq, buf_a1, asI_ok, g_wrap_i64 (by omega) (by omega)]
  exact this

theorem bufC_put {m : Int} {l : List Ent} (hl : l.length < 24) (e : Ent) : (splice (bufC m l) (2 + l.length * 3) e.cs).set 1 (.int .i64 ((l.length : Int) + 1)) = bufC m (l ++ [e]) := by
  have h1 : bufC m l = ([Cell.int .i64 m, Cell.int .i64 (l.length : Int)] ++ entsC l) ++ List.replicate (72 - l.length * 3) (.int .i64 0) := by unfold bufC; rw [List.append_assoc]
  have h2 : 2 + l.length * 3 = ([Cell.int .i64 m, Cell.int .i64 (l.length : Int)] ++ entsC l).length + 0 := by rw [List.length_append, entsC_len]; simp
  have h3 : splice (List.replicate (72 - l.length * 3) (Cell.int .i64 0)) 0 e.cs = e.cs ++ List.replicate (72 - (l ++ [e]).length * 3) (Cell.int .i64 0) := by
    unfold splice
    rw [List.take_zero, List.nil_append, List.drop_replicate]
    congr 2
    simp [Ent.cs]; omega
  have h4 : entsC (l ++ [e]) = entsC l ++ e.cs := by simp [entsC]
  rw [h1, h2, splice_app, h3]
  unfold bufC
  rw [h4, List.length_append, List.length_singleton]
  simp [List.append_assoc]

theorem bufPut_R (hE : buf_Buf_Put_In E) {m : Int} {l : List Ent} (hl : l.length < 24) (hm : m ≠ 0) {loc : Int} (hloc : 0 ≤ loc ∧ loc < 4) (v id : Int) (h : AHeap) :
    R E 206 [.agg (bufC m l), .c (.int .i64 loc), .c (.int .i64 v), .c (.int .i64 id)] h = some ([.agg (bufC m (l ++ [⟨loc, v, id⟩]))], h) := by
  refine R_intro hE.fn ?_
  have hz : (m == 0) = false := by rw [beq_eq_false_iff_ne]; exact hm
  have e3 : splice (splice (splice [Cell.int .i64 0, Cell.int .i64 0, Cell.int .i64 0] 0 ([(.int .i64 loc)] : List Cell)) 1 ([(.int .i64 v)] : List Cell)) 2 ([(.int .i64 id)] : List Cell) = (Ent.mk loc v id).cs := rfl
  have hlen := bufC_len m (Nat.le_of_lt hl)
  have hsl : (splice (bufC m l) (2 + l.length * 3) (Ent.mk loc v id).cs).length = 74 := by
    unfold splice
    rw [List.length_append, List.length_append, List.length_take, List.length_drop, hlen]; simp [Ent.cs]; omega
  have ha1 : ∀ {α : Type} (f : Cell → Option α), atK (splice (bufC m l) (2 + l.length * 3) (Ent.mk loc v id).cs) 1 f = f (.int .i64 (l.length : Int)) := fun f => by
    refine atK_ok ?_
    unfold splice
    rw [List.append_assoc, List.getElem?_append_left (by rw [List.length_take, hlen]; omega), List.getElem?_take, if_pos (by omega)]; rfl
  have hw : E.glob.wrap .i64 ((l.length : Int) + 1) = (l.length : Int) + 1 := g_wrap_i64 (by omega) (by omega)
  have hput := bufC_put (m := m) hl ⟨loc, v, id⟩
  rw [buf_Buf_Put_eq, buf_a0, asI_ok, hz, scK_or, show decide (loc < 0) = false from decide_eq_false (by omega), scK_or, show decide (loc ≥ 4) = false from decide_eq_false (by omega), buf_a1, asI_ok, scK_or, show decide ((l.length : Int) ≥ 24) = false from decide_eq_false (by omega), if_neg (by simp), buf_a1, asI_ok, if_pos ⟨by omega, by omega⟩, Int.toNat_natCast, e3, if_pos ⟨by rw [hlen]; omega, rfl⟩, ha1, asI_ok, if_pos (by rw [hsl]; omega), hw, hput]
  have hl2 := bufC_len m (l := l ++ [⟨loc, v, id⟩]) (by rw [List.length_append, List.length_singleton]; omega)
  rw [if_pos ⟨rfl, hl2⟩, if_pos ⟨rfl, rfl, hl2⟩, if_pos ⟨rfl, hl2⟩]

theorem entsC_append (a b : List Ent) : entsC (a ++ b) = entsC a ++ entsC b := by simp [entsC]

theorem drop_len_app {α : Type} {a b : List α} {n : Nat} (h : a.length = n) : (a ++ b).drop n = b := by subst h; simp

/-- What a row of stores is without one. -/
theorem bufC_drop {m : Int} {l : List Ent} (hl : l.length ≤ 24) {i : Nat} (hi : i < l.length) :
    splice ((splice (bufC m l) (2 + i * 3) (((bufC m l).drop (2 + (i + 1) * 3)).take ((23 - i) * 3))).set 1 (Cell.int .i64 ((l.length : Int) - 1))) (2 + (l.length - 1) * 3) [Cell.int .i64 0, Cell.int .i64 0, Cell.int .i64 0] = bufC m (l.eraseIdx i) := by
  have hq : l[i]? = some l[i] := List.getElem?_eq_getElem hi
  generalize l[i] = e at hq
  have hsp : l = l.take i ++ e :: l.drop (i + 1) := by
    have : l.drop i = e :: l.drop (i + 1) := by
      rw [List.drop_eq_getElem_cons hi]
      have := List.getElem?_eq_getElem hi
      rw [hq] at this
      rw [← Option.some.inj this]
    rw [← this, List.take_append_drop]
  have her : l.eraseIdx i = l.take i ++ l.drop (i + 1) := List.eraseIdx_eq_take_drop_succ _ _
  have hn : l.length = i + 1 + (l.drop (i + 1)).length := by rw [List.length_drop]; omega
  have hti : (l.take i).length = i := by rw [List.length_take]; omega
  rw [her]
  generalize hA : l.take i = A at *
  generalize hB : l.drop (i + 1) = B at *
  have hlA := entsC_len A
  have hlB := entsC_len B
  have hcs : bufC m l = ([Cell.int .i64 m, Cell.int .i64 (l.length : Int)] ++ entsC A) ++ (e.cs ++ (entsC B ++ List.replicate (72 - l.length * 3) (Cell.int .i64 0))) := by
    have : entsC l = entsC A ++ (e.cs ++ entsC B) := by
      have h2 : entsC l = entsC (A ++ e :: B) := by rw [← hsp]
      rw [h2, entsC_append]; rfl
    unfold bufC
    rw [this]; simp [List.append_assoc]
  have hhd : ([Cell.int .i64 m, Cell.int .i64 (l.length : Int)] ++ entsC A).length = 2 + i * 3 := by rw [List.length_append, hlA, hti]; simp
  have hR : ((bufC m l).drop (2 + (i + 1) * 3)).take ((23 - i) * 3) = entsC B ++ List.replicate (72 - l.length * 3) (Cell.int .i64 0) := by
    rw [hcs, ← List.append_assoc, drop_len_app (by rw [List.length_append, hhd]; simp [Ent.cs]; omega)]
    exact List.take_of_length_le (by rw [List.length_append, List.length_replicate, hlB]; omega)
  rw [hR]
  have hs1 : splice (bufC m l) (2 + i * 3) (entsC B ++ List.replicate (72 - l.length * 3) (Cell.int .i64 0)) = ([Cell.int .i64 m, Cell.int .i64 (l.length : Int)] ++ entsC A) ++ ((entsC B ++ List.replicate (72 - l.length * 3) (Cell.int .i64 0)) ++ (e.cs ++ (entsC B ++ List.replicate (72 - l.length * 3) (Cell.int .i64 0))).drop (entsC B ++ List.replicate (72 - l.length * 3) (Cell.int .i64 0) : List Cell).length) := by
    rw [hcs]
    have := splice_app ([Cell.int .i64 m, Cell.int .i64 (l.length : Int)] ++ entsC A) (e.cs ++ (entsC B ++ List.replicate (72 - l.length * 3) (Cell.int .i64 0))) (entsC B ++ List.replicate (72 - l.length * 3) (Cell.int .i64 0)) 0
    rw [Nat.add_zero, hhd] at this
    rw [this]
    unfold splice
    rw [List.take_zero, List.nil_append, Nat.zero_add]
  rw [hs1]
  generalize hL3 : (e.cs ++ (entsC B ++ List.replicate (72 - l.length * 3) (Cell.int .i64 0))).drop (entsC B ++ List.replicate (72 - l.length * 3) (Cell.int .i64 0) : List Cell).length = L3
  have hL3l : L3.length = 3 := by
    rw [← hL3, List.length_drop, List.length_append]; simp [Ent.cs]
  have hset : (([Cell.int .i64 m, Cell.int .i64 (l.length : Int)] ++ entsC A) ++ ((entsC B ++ List.replicate (72 - l.length * 3) (Cell.int .i64 0)) ++ L3)).set 1 (Cell.int .i64 ((l.length : Int) - 1)) = ([Cell.int .i64 m, Cell.int .i64 ((l.length : Int) - 1)] ++ (entsC A ++ entsC B)) ++ (List.replicate (72 - l.length * 3) (Cell.int .i64 0) ++ L3) := by
    simp [List.append_assoc]
  rw [hset]
  have hoff : 2 + (l.length - 1) * 3 = ([Cell.int .i64 m, Cell.int .i64 ((l.length : Int) - 1)] ++ (entsC A ++ entsC B)).length + 0 := by
    rw [List.length_append, List.length_append, hlA, hlB, hti]; simp; omega
  rw [hoff, splice_app]
  have hz : splice (List.replicate (72 - l.length * 3) (Cell.int .i64 0) ++ L3) 0 [Cell.int .i64 0, Cell.int .i64 0, Cell.int .i64 0] = List.replicate (72 - (A ++ B).length * 3) (Cell.int .i64 0) := by
    have hlen : (A ++ B).length = l.length - 1 := by rw [List.length_append, hti]; omega
    rw [hlen]
    unfold splice
    rw [List.take_zero, List.nil_append]
    by_cases h24 : l.length = 24
    · rw [show 72 - l.length * 3 = 0 by omega, List.replicate_zero, List.nil_append, List.drop_of_length_le (by rw [hL3l]; simp), h24]; rfl
    · have hL3z : L3 = List.replicate 3 (Cell.int .i64 0) := by
        rw [← hL3]
        refine List.ext_getElem? fun j => ?_
        rw [List.getElem?_drop, List.getElem?_append_right (by simp [Ent.cs, hlB]; omega), List.getElem?_append_right (by simp [Ent.cs, hlB]; omega), List.getElem?_replicate, List.getElem?_replicate]
        simp [Ent.cs, hlB]
        by_cases hj : j < 3
        · rw [if_pos (by omega), if_pos hj]
        · rw [if_neg (by omega), if_neg hj]
      rw [hL3z, List.replicate_append_replicate, List.drop_replicate, show [Cell.int .i64 0, Cell.int .i64 0, Cell.int .i64 0] = List.replicate 3 (Cell.int .i64 0) from rfl, List.replicate_append_replicate]
      congr 1
      simp; omega
  rw [hz]
  unfold bufC
  rw [entsC_append, List.length_append, hti]
  have : (l.length : Int) - 1 = ((i + B.length : Nat) : Int) := by omega
  rw [this]
  simp [List.append_assoc]

theorem bufC_ok {m : Int} {l : List Ent} {n : Nat} {c : Cell} (h : c ∈ bufC m l) : idOk n c = true := by
  unfold bufC at h
  rcases List.mem_append.1 h with h | h
  · simp at h; rcases h with rfl | rfl <;> rfl
  · rcases List.mem_append.1 h with h | h
    · unfold entsC at h
      obtain ⟨e, _, he⟩ := List.mem_flatMap.1 h
      simp [Ent.cs] at he
      rcases he with rfl | rfl | rfl <;> rfl
    · rw [List.eq_of_mem_replicate h]; rfl

theorem bufDrop_R (hE : buf_Buf_Drop_In E) {m : Int} {l : List Ent} (hl : l.length ≤ 24) {loc : Int} {i : Nat} (hf : l.findIdx? (oldP m loc) = some i) (h : AHeap) :
    R E 207 [.agg (bufC m l), .c (.int .i64 loc)] h = some ([.agg (bufC m (l.eraseIdx i))], h) := by
  refine R_intro hE.fn ?_
  obtain ⟨hi, _, _⟩ := List.findIdx?_eq_some_iff_getElem.1 hf
  have hold : oldI m loc l = (i : Int) := by unfold oldI; rw [hf]
  have hlen := bufC_len m hl
  have hd := bufC_drop (m := m) hl hi
  have hlen2 := bufC_len m (l := l.eraseIdx i) (by rw [List.length_eraseIdx]; split <;> omega)
  have hcell : ∀ cs : List Cell, AV.cells (.agg cs) = cs := fun _ => rfl
  have b0 : blk? (h ++ [some ⟨true, 0, bufC m l⟩]) h.length = some ⟨true, 0, bufC m l⟩ := blk_new _ _
  have hxl : (((bufC m l).drop (2 + (i + 1) * 3)).take ((23 - i) * 3)).length = (23 - i) * 3 := by rw [List.length_take, List.length_drop, hlen]; omega
  have hsl1 : ∀ {α : Type} (f : Cell → Option α), sliceAK (h ++ [some ⟨true, 0, bufC m l⟩]) 24 3 true false (.ptr h.length 74 2) [.v (.c (.int .i64 (i : Int)))] f = f (.sl h.length 74 (2 + i * 3) (24 - i)) := fun f => by
    unfold sliceAK okSl boundsK
    simp only
    rw [b0]
    simp only
    rw [if_pos (by simp), if_pos ⟨by omega, by omega⟩, Int.toNat_natCast]
  have hsl2 : ∀ {α : Type} (f : Cell → Option α), sliceAK (h ++ [some ⟨true, 0, bufC m l⟩]) 24 3 true false (.ptr h.length 74 2) [.v (.c (.int .i64 ((i + 1 : Nat) : Int)))] f = f (.sl h.length 74 (2 + (i + 1) * 3) (24 - (i + 1))) := fun f => by
    unfold sliceAK okSl boundsK
    simp only
    rw [b0]
    simp only
    rw [if_pos (by simp), if_pos ⟨by omega, by omega⟩, Int.toNat_natCast]
  have hsc : slCells (h ++ [some ⟨true, 0, bufC m l⟩]) 3 (.sl h.length 74 (2 + (i + 1) * 3) (24 - (i + 1))) = some (((bufC m l).drop (2 + (i + 1) * 3)).take ((23 - i) * 3)) := by
    unfold slCells
    dsimp only
    by_cases hz : 24 - (i + 1) = 0
    · rw [if_pos hz, show (23 - i) * 3 = 0 by omega]; simp
    · rw [if_neg hz, b0]
      simp only
      rw [if_pos ⟨hlen, by omega⟩, show 24 - (i + 1) = 23 - i by omega]
  have hcp : ∀ {α : Type} (f : Int → AHeap → Option α), copyK 3 (.sl h.length 74 (2 + i * 3) (24 - i)) (.sl h.length 74 (2 + (i + 1) * 3) (24 - (i + 1))) (h ++ [some ⟨true, 0, bufC m l⟩]) f = f ((23 - i : Nat) : Int) (h ++ [some ⟨true, 0, splice (bufC m l) (2 + i * 3) (((bufC m l).drop (2 + (i + 1) * 3)).take ((23 - i) * 3))⟩]) := fun f => by
    unfold copyK
    rw [hsc, Option.bind_some]
    simp only
    rw [b0, Option.bind_some]
    dsimp only
    rw [if_pos ⟨rfl, hlen, by omega⟩, hxl, show min ((23 - i) * 3 / 3) (24 - i) = 23 - i by omega, List.take_of_length_le (by rw [hxl]; exact Nat.le_refl _), setBlk_last]
  generalize hX : ((bufC m l).drop (2 + (i + 1) * 3)).take ((23 - i) * 3) = X at *
  have hc2l : (splice (bufC m l) (2 + i * 3) X).length = 74 := by
    unfold splice
    rw [List.length_append, List.length_append, List.length_take, List.length_drop, hlen, hxl]; omega
  have hat2 : (splice (bufC m l) (2 + i * 3) X)[1]? = some (.int .i64 (l.length : Int)) := by
    unfold splice
    rw [List.append_assoc, List.getElem?_append_left (by rw [List.length_take, hlen]; omega), List.getElem?_take, if_pos (by omega)]; rfl
  generalize splice (bufC m l) (2 + i * 3) X = Y at *
  have b2 : blk? (h ++ [some ⟨true, 0, Y⟩]) h.length = some ⟨true, 0, Y⟩ := blk_new _ _
  have hw1 : E.glob.wrap .i64 ((l.length : Int) - 1) = (l.length : Int) - 1 := g_wrap_i64 (by omega) (by omega)
  have hat3 : (Y.set 1 (.int .i64 ((l.length : Int) - 1)))[1]? = some (.int .i64 ((l.length : Int) - 1)) := by rw [List.getElem?_set_self (by omega)]
  have hc3l : (Y.set 1 (.int .i64 ((l.length : Int) - 1))).length = 74 := by rw [List.length_set]; exact hc2l
  generalize hZ : Y.set 1 (.int .i64 ((l.length : Int) - 1)) = Z at *
  have b3 : blk? (h ++ [some ⟨true, 0, Z⟩]) h.length = some ⟨true, 0, Z⟩ := blk_new _ _
  have b4 : blk? (h ++ [some ⟨true, 0, bufC m (l.eraseIdx i)⟩]) h.length = some ⟨true, 0, bufC m (l.eraseIdx i)⟩ := blk_new _ _
  have htn : Int.toNat ((l.length : Int) - 1) = l.length - 1 := by omega
  rw [buf_Buf_Drop_eq]
  simp only [hcell, hlen]
  rw [rdH_ok b0 hlen]
  dsimp only
  rw [if_pos ⟨trivial, hlen⟩, bufoldest_R hE.c204 hl, c1_ok, asI_ok, hold, if_neg (by rw [decide_eq_true_eq]; omega), hsl1, g_succ (by omega), hsl2, hcp, rdH_ok b2 hc2l]
  dsimp only
  rw [atK_ok hat2, asI_ok, rdH_ok b2 hc2l]
  dsimp only
  rw [if_pos (by omega), putH_ok b2 rfl, setBlk_last, hw1]
  dsimp only
  rw [hZ, rdH_ok b3 hc3l]
  dsimp only
  rw [atK_ok hat3, asI_ok, if_pos ⟨by omega, by omega⟩, rdH_ok b3 hc3l]
  dsimp only
  rw [if_pos ⟨by rw [hc3l, htn]; omega, rfl⟩, putH_ok b3 rfl, setBlk_last, htn]
  dsimp only
  rw [hd, rdH_ok b4 hlen2]
  dsimp only
  rw [if_pos ⟨trivial, hlen2⟩, if_pos ⟨trivial, rfl, hlen2⟩, if_pos ⟨trivial, hlen2⟩]
  refine finish_gc (Kp.app _ (Nat.le_refl _)) ?_
  intro x hx
  rw [List.mem_singleton] at hx
  subst hx
  unfold avOk
  rw [hcell, List.all_eq_true]
  intro c hc
  exact bufC_ok hc

end
end Jq

/- Is a test one that may be, as the document says? -/
namespace Jq
open Go

theorem dec_iff {p : Prop} [Decidable p] {b : Bool} (h : p ↔ b = true) : decide p = b := by
  rw [Bool.eq_iff_iff, decide_eq_true_eq]; exact h

theorem cs1 (i : Ins) : decide (i.cs = (⟨i.kind, 0, i.loc, i.a, 0, ⟨0, 0⟩, 0⟩ : Ins).cs) = (((i.reg == 0 && i.op == 0) && decide (i.b.cs = [Cell.int .i64 0, Cell.int .i64 0])) && i.n == 0) := by
  refine dec_iff ?_
  simp [Ins.cs, Opd.cs, and_assoc]
section
variable {E : Env}

end
end Jq

/- Is a test one that may be, as the document says? -/
namespace Jq
open Go

/-- A loop that looks for one. -/
theorem Lim_scan {F : St → Option (Ex × St)} (S : Nat → St) (n : Nat) (bad : Nat → Bool) (r x : St) (e : Nat) (hs : ∀ i, i < n → F (S i) = if bad i = true then some (.ret, r) else some (.normal, S (i + 1))) (he : F (S n) = some (.exit e, x)) :
    Lim F (S 0) = some (if (List.range n).any bad = true then (.ret, r) else (.exit e, x)) := by
  have key : ∀ (d i : Nat), i + d = n → Lim F (S i) = some (if (List.range d).any (fun k => bad (i + k)) = true then (.ret, r) else (.exit e, x)) := by
    intro d
    induction d with
    | zero =>
      intro i hi
      obtain rfl : i = n := by omega
      rw [Lim_exit he]; rfl
    | succ d ih =>
      intro i hi
      have h1 := hs i (by omega)
      rw [List.range_succ_eq_map, List.any_cons, List.any_map, Nat.add_zero]
      cases hb : bad i with
      | true =>
        rw [hb, if_pos rfl] at h1
        rw [Lim_ret h1, Bool.true_or, if_pos rfl]
      | false =>
        rw [hb, if_neg (by simp)] at h1
        have h2 := ih (i + 1) (by omega)
        rw [Bool.false_or]
        have he : ((List.range d).any ((fun k => bad (i + k)) ∘ Nat.succ)) = (List.range d).any fun k => bad (i + 1 + k) := by
          congr 1
          funext k
          show bad (i + (k + 1)) = _
          rw [show i + (k + 1) = i + 1 + k by omega]
        rw [he]
        exact Lim_next h1 h2
  have := key n 0 (by omega)
  simpa only [Nat.zero_add] using this

def atB {α : Type} (l : List α) (f : Nat → α → Bool) (i : Nat) : Bool := match l[i]? with | some q => f i q | none => false
theorem atB_ok {α : Type} {l : List α} {f : Nat → α → Bool} {i : Nat} {q : α} (h : l[i]? = some q) : atB l f i = f i q := by unfold atB; rw [h]
theorem atB_any {α : Type} (l : List α) (f : α → Bool) : (List.range l.length).any (atB l fun _ => f) = l.any f := by
  induction l with
  | nil => rfl
  | cons a l ih =>
    rw [List.length_cons, List.range_succ_eq_map, List.any_cons, List.any_map, List.any_cons, ← ih]
    rfl

def memB (a : Atm) : Bool := (a.thread == -1 && a.reg == 0) && locB a.loc
def ownB (a : Atm) : Bool := ((((decide (a.thread ≥ 0) && decide (a.thread ≤ 9)) && decide (a.reg ≥ 0)) && decide (a.reg ≤ 3)) && a.loc == 0)
section
variable {E : Env}

end
end Jq

/- Is a program one that may be? -/
namespace Jq
open Go

def hasB (P : PProg) (n : Int) : Bool := decide (n ≥ 0) && decide (n < (P.locs.length : Int))
def locBad (l : List Int) (i : Nat) (c : Int) : Bool := !locB c || (decide ((i : Int) > 0) && decide (c ≤ l.getD (i - 1) 0))
def thrBad (P : PProg) (c : List Ins) : Bool := (decide ((c.length : Int) > 10) || !jmpB c) || c.any fun i => !fldB (hasB P) i
def sizeBad (P : PProg) : Bool := ((((P.thr.length : Int) == 0 || decide ((P.thr.length : Int) > 4)) || decide ((P.locs.length : Int) > 4)) || ((P.init.length : Int) != (P.locs.length : Int))) || decide (sumL P.thr > 24)
def pokB (P : PProg) : Bool := if sizeBad P = true then false else if (List.range P.locs.length).any (atB P.locs (locBad P.locs)) = true then false else !(P.thr.any (thrBad P))

section
variable {E : Env}

theorem progOk_R (hE : prog_Ok_In E) {cs : List Cell} {P : PProg} {h : AHeap} (p : ProgAt h cs P) (hsm : P.small) (hu : ∀ x ∈ P.locs, 0 ≤ x ∧ x < 256) (hll : P.locs.length ≤ 1000) : R E 188 [.agg cs] h = some ([.c (.bool (pokB P))], h) := by
  refine R_intro hE.fn ?_
  obtain ⟨a, b, c, ts, rfl, ⟨ha, hal⟩, ⟨hb, hbl⟩, ⟨hc, hcl⟩, hts⟩ := p
  have p : ProgAt h [a, b, c] P := ⟨a, b, c, ts, rfl, ⟨ha, hal⟩, ⟨hb, hbl⟩, ⟨hc, hcl⟩, hts⟩
  have hcell : AV.cells (.agg [a, b, c]) = [a, b, c] := rfl
  have l3 : ([a, b, c] : List Cell).length = 3 := rfl
  have b1 : blk? (h ++ [some ⟨true, 0, [a, b, c]⟩]) h.length = some ⟨true, 0, [a, b, c]⟩ := blk_new _ _
  have k1 : Kp h.length h (h ++ [some ⟨true, 0, [a, b, c]⟩]) := Kp.app _ (Nat.le_refl _)
  have nn : (h ++ [some (Blk.mk true 0 [a, b, c])]).length = h.length + 1 := by simp
  have fin : ∀ (h' : AHeap) (x : Bool), Kp h.length h h' → finish true h [.c (.bool x)] h' = some ([.c (.bool x)], h) := fun h' x hk => finish_gc hk (by simp [avOk, AV.cells, idOk])
  rw [prog_Ok_eq]
  simp only [hcell, l3]
  generalize h ++ [some (Blk.mk true 0 [a, b, c])] = H at *
  have p1 := p.keep k1
  have ha1 := ha.keep hal k1
  have hb1 := hb.keep hbl k1
  have hc1 := hc.keep hcl k1
  have a0 : ∀ {α : Type} (f : Cell → Option α), atK [a, b, c] 0 f = f a := fun _ => rfl
  have a1 : ∀ {α : Type} (f : Cell → Option α), atK [a, b, c] 1 f = f b := fun _ => rfl
  have a2 : ∀ {α : Type} (f : Cell → Option α), atK [a, b, c] 2 f = f c := fun _ => rfl
  have rb : ∀ {α : Type} (F : List Cell → Option α), rdH H h.length 3 F = F [a, b, c] := fun F => rd3 b1
  rw [rb, a2, hc1.len, rb, a2, hc1.len, scK_or, rb, a0, ha1.len, scK_or, rb, a1, hb1.len, rb, a0, ha1.len, scK_or, rb, if_pos ⟨trivial, rfl⟩, Size_R hE.c102 p1 hsm, c1_ok, asI_ok, scK_or]
  unfold pokB
  rw [show (((((P.thr.length : Int) == 0 || decide ((P.thr.length : Int) > 4)) || decide ((P.locs.length : Int) > 4)) || ((P.init.length : Int) != (P.locs.length : Int))) || decide (sumL P.thr > 24)) = sizeBad P from rfl]
  cases hsb : sizeBad P with
  | true => rw [if_pos rfl, if_pos rfl, fin _ _ k1]
  | false =>
    rw [if_neg (by simp), if_neg (by simp), rb, a0, ha1.len]
    have f1 : Lim (prog_Ok_F1 (R E) Lim E.glob) (prog_Ok_s1 h.length 3 0 a P.locs.length 0 H) = some (if (List.range P.locs.length).any (atB P.locs (locBad P.locs)) = true then (.ret, prog_Ok_x1_0 false H) else (.exit 0, prog_Ok_x1_1 h.length 3 0 H)) := by
      exact Lim_scan (F := prog_Ok_F1 (R E) Lim E.glob) (fun i => prog_Ok_s1 h.length 3 0 a P.locs.length (i : Int) H) P.locs.length (atB P.locs (locBad P.locs)) _ _ 0 (fun i hi => by
        have hq : P.locs[i]? = some P.locs[i] := List.getElem?_eq_getElem hi
        generalize P.locs[i] = v at hq
        have hv := hu v (List.mem_of_getElem? hq)
        rw [prog_Ok_r1, if_pos (by simp; omega), ha1.get1 hi (intC_get hq), asI_ok, g_wrap_i64 (by omega) (by omega), IsLoc_R hE.c158, c1_ok, asB_ok, atB_ok hq, g_succ (by omega)]
        unfold locBad
        by_cases h0 : i = 0
        · subst h0
          rw [show decide (((0 : Nat) : Int) > 0) = false from rfl, scK_ft, scK_or, Bool.false_and]
        · have hd : decide ((i : Int) > 0) = true := decide_eq_true (by omega)
          have hq2 := getDI (show i - 1 < P.locs.length by omega)
          have hw : E.glob.wrap .i64 ((i : Int) - 1) = ((i - 1 : Nat) : Int) := by rw [g_wrap_i64 (by omega) (by omega)]; omega
          rw [hd, scK_ok, rb, show 0 + 0 = 0 from rfl, a0, hw, ha1.get1 (show i - 1 < P.locs.length by omega) (intC_get hq2), asI_ok, bind_ok]
          dsimp only
          rw [scK_or, Bool.true_and]) (by rw [prog_Ok_r1, if_neg (by simp)])
    rw [f1, bind_ok]
    cases hlb : (List.range P.locs.length).any (atB P.locs (locBad P.locs)) with
    | true => rw [if_pos rfl, if_pos rfl]; dsimp only; rw [prog_Ok_e1_0, fin _ _ k1]
    | false =>
      rw [if_neg (by simp), if_neg (by simp)]
      dsimp only
      rw [prog_Ok_e1_1]
      have l1 : ([Cell.nilf] : List Cell).length = 1 := rfl
      rw [l1, rd1' (blk_new _ _), if_pos (by simp), putH_ok (blk_new _ _) rfl, setBlk_last]
      dsimp only [List.set]
      have k2 : Kp H.length H (H ++ [some (Blk.mk true 0 [.fn 200 [(h.length, 3, 0)]])]) := Kp.app _ (Nat.le_refl _)
      have b2 : blk? (H ++ [some (Blk.mk true 0 [.fn 200 [(h.length, 3, 0)]])]) H.length = some ⟨true, 0, [.fn 200 [(h.length, 3, 0)]]⟩ := blk_new _ _
      have b1' : blk? (H ++ [some (Blk.mk true 0 [.fn 200 [(h.length, 3, 0)]])]) h.length = some ⟨true, 0, [a, b, c]⟩ := blk_old b1 _
      generalize H ++ [some (Blk.mk true 0 [.fn 200 [(h.length, 3, 0)]])] = H2 at *
      have kk : Kp h.length h H2 := k1.trans (k2.mono k1.1)
      have hc2 := hc.keep hcl kk
      have ha2 := ha.keep hal kk
      have hsays : Says E H2 (.fn 200 [(h.length, 3, 0)]) (hasB P) := fun n α F => by
        show c1 (R E 200 ([.c (.int .i64 n)] ++ [.c (.ptr h.length 3 0)]) H2) F = _
        have : R E 200 ([.c (.int .i64 n)] ++ [.c (.ptr h.length 3 0)]) H2 = some ([.c (.bool (hasB P n))], H2) := by
          refine R_intro hE.c200.fn ?_
          show prog_Ok_1.body (R E) Lim E.glob [.c (.int .i64 n), .c (.ptr h.length 3 0)] H2 = _
          rw [prog_Ok_1_eq, rd3 b1', show 0 + 0 = 0 from rfl, a0, ha2.len, scK_and]; rfl
        rw [this, c1_ok]
      have hins : ∀ (c : List Ins) (y : Cell), c.length ≤ 1000 → SlAt H2 y 9 (codeC c) c.length → R E 155 [.c y, .c (.fn 201 [(H.length, 1, 0)])] H2 = some ([.c (.bool (c.any fun i => !fldB (hasB P) i))], H2) := by
        intro c y hcl hy
        refine any_sIns_Ins_R hE.c155 hy (by omega) (fun i => !fldB (hasB P) i) fun i _ α F => ?_
        show c1 (R E 201 ([.agg i.cs] ++ [.c (.ptr H.length 1 0)]) H2) F = _
        have : R E 201 ([.agg i.cs] ++ [.c (.ptr H.length 1 0)]) H2 = some ([.c (.bool (!fldB (hasB P) i))], H2) := by
          refine R_intro hE.c201.fn ?_
          show prog_Ok_2.body (R E) Lim E.glob [.agg i.cs, .c (.ptr H.length 1 0)] H2 = _
          rw [prog_Ok_2_eq, if_pos ⟨rfl, rfl⟩, rd1' b2, atK_ok (i := 0) (c := .fn 200 [(h.length, 3, 0)]) rfl, Fields_R hE.c201.c159 i hsays, c1_ok, asB_ok]
        rw [this, c1_ok]
      have n2 := hsm.1
      have f2 : Lim (prog_Ok_F2 (R E) Lim E.glob) (prog_Ok_s2 H.length 1 0 c P.thr.length 0 H2) = some (if P.thr.any (thrBad P) = true then (.ret, prog_Ok_x2_0 false H2) else (.exit 2, prog_Ok_x2_3 H2)) := by
        rw [← atB_any]
        exact Lim_scan (F := prog_Ok_F2 (R E) Lim E.glob) (fun i => prog_Ok_s2 H.length 1 0 c P.thr.length (i : Int) H2) P.thr.length (atB P.thr fun _ => thrBad P) _ _ 2 (fun t ht => by
          have hq : P.thr[t]? = some P.thr[t] := List.getElem?_eq_getElem ht
          generalize P.thr[t] = code at hq
          have hcl2 := hsm.2 code (List.mem_of_getElem? hq)
          obtain ⟨y, y1, y2, y3⟩ := hts t code hq
          have y2' := y2.keep y3 kk
          rw [prog_Ok_r2, if_pos (by simp; omega), hc2.get1 ht y1, y2'.len, Jumps_R hE.c148 y2' (by omega), c1_ok, asB_ok, scK_or, hins code y hcl2 y2', c1_ok, asB_ok, scK_or, atB_ok hq, g_succ (by omega)]
          rfl) (by rw [prog_Ok_r2, if_neg (by simp)])
      rw [rd3 b1', show 0 + 2 = 2 from rfl, a2, hc2.len, f2, bind_ok]
      cases htb : P.thr.any (thrBad P) with
      | true => rw [if_pos rfl]; dsimp only; rw [prog_Ok_e2_0, fin _ _ kk]; rfl
      | false => rw [if_neg (by simp)]; dsimp only; rw [prog_Ok_e2_3, fin _ _ kk]; rfl

end
end Jq

/- Rows of numbers copied. -/
namespace Jq
open Go

section
variable {E : Env}

theorem cells1 {h : AHeap} {x : Cell} {cs : List Cell} {len : Nat} (s : SlAt h x 1 cs len) : slCells h 1 x = some cs := by
  have hl := s.1
  rcases s.2 with ⟨rfl, rfl⟩ | ⟨k, N, off, rfl, hb⟩
  · have : cs = [] := List.length_eq_zero_iff.1 (by omega)
    rw [this]; rfl
  · unfold slCells
    dsimp only
    by_cases h0 : len = 0
    · have : cs = [] := List.length_eq_zero_iff.1 (by omega)
      rw [if_pos h0, this]
    · rw [if_neg h0]
      rcases hb with hb | ⟨b, hb, hN, hle, hat⟩
      · exact absurd hb h0
      · rw [hb]
        simp only
        rw [if_pos ⟨hN, hle⟩]
        congr 1
        refine List.ext_getElem? fun j => ?_
        rw [List.getElem?_take, List.getElem?_drop]
        by_cases hj : j < len * 1
        · rw [if_pos hj, hat j hj]
        · rw [if_neg hj, List.getElem?_eq_none (by omega)]

/-- Cells put behind an empty row. -/
theorem app_empty {α : Type} {h : AHeap} {bytes len : Nat} {cs : List Cell} (hlen : cs.length = len) (h1 : len * bytes ≤ maxBytes) (h2 : len ≤ maxBytes) (f : Cell → AHeap → Option α) :
    appK 1 bytes (.sl h.length 0 0 0) cs (h ++ [some ⟨true, 1, []⟩]) f = f (.sl h.length cs.length 0 len) (h ++ [some ⟨true, 1, cs⟩]) := by
  unfold appK
  simp only
  rw [blk_new, Option.bind_some]
  dsimp only
  have hd : cs.length / 1 = len := by rw [Nat.div_one, hlen]
  rw [if_pos ⟨rfl, rfl, rfl, by simp, by rw [hd]; simp; omega, by rw [hd]; simp; omega⟩, hd]
  by_cases h0 : len = 0
  · have : cs = [] := List.length_eq_zero_iff.1 (by omega)
    subst this
    rw [if_pos (by simp), setBlk_last, h0]; rfl
  · rw [if_neg (by omega), if_pos trivial, setBlk_last]
    simp

theorem slices_Clone_sbyte_byte_R (hE : slices_Clone_sbyte_byte_In E) {x : Cell} {cs : List Cell} {len : Nat} {h : AHeap} (hx : SlAt h x 1 cs len) (hlow : Low h.length x) (hl : len ≤ 1000) :
    ∃ x' h', R E 202 [.c x] h = some ([.c x'], h') ∧ Own h.length h' x' 1 cs len ∧ Kp h.length h h' := by
  have hm : maxBytes ≥ 1000 * 8 := by unfold maxBytes; omega
  have hlen : cs.length = len := by have := hx.1; omega
  have hx0 := hx
  rcases hx.2 with ⟨rfl, h0⟩ | ⟨k, N, off, rfl, hb⟩
  · refine ⟨.nils, h, R_intro hE.fn ?_, ⟨hx.1, .inl ⟨rfl, h0⟩⟩, Kp.refl _ _⟩
    rw [slices_Clone_sbyte_byte_eq]; rfl
  · have hk1 : Kp h.length h (h ++ [some ⟨true, 1, []⟩]) := Kp.app _ (Nat.le_refl _)
    have hc := cells1 (hx0.keep hlow hk1)
    refine ⟨.sl h.length cs.length 0 len, h ++ [some ⟨true, 1, cs⟩], R_intro hE.fn ?_, ⟨hx.1, .inr ⟨h.length, rfl, Nat.le_refl _, blk_new _ _⟩⟩, Kp.app _ (Nat.le_refl _)⟩
    rw [slices_Clone_sbyte_byte_eq, show ∀ {α : Type} (f : Bool → Option α), eqNilK false (.sl k N off len) .nils f = f false from fun _ => rfl, if_neg (by simp), if_pos (show ([] : List Cell).length = 0 * 1 from rfl), hc, bind_ok, show ([] : List Cell).length = 0 from rfl, app_empty hlen (by omega) (by omega)]

theorem slices_Clone_sint64_int64_R (hE : slices_Clone_sint64_int64_In E) {x : Cell} {cs : List Cell} {len : Nat} {h : AHeap} (hx : SlAt h x 1 cs len) (hlow : Low h.length x) (hl : len ≤ 1000) :
    ∃ x' h', R E 203 [.c x] h = some ([.c x'], h') ∧ Own h.length h' x' 1 cs len ∧ Kp h.length h h' := by
  have hm : maxBytes ≥ 1000 * 8 := by unfold maxBytes; omega
  have hlen : cs.length = len := by have := hx.1; omega
  have hx0 := hx
  rcases hx.2 with ⟨rfl, h0⟩ | ⟨k, N, off, rfl, hb⟩
  · refine ⟨.nils, h, R_intro hE.fn ?_, ⟨hx.1, .inl ⟨rfl, h0⟩⟩, Kp.refl _ _⟩
    rw [slices_Clone_sint64_int64_eq]; rfl
  · have hk1 : Kp h.length h (h ++ [some ⟨true, 1, []⟩]) := Kp.app _ (Nat.le_refl _)
    have hc := cells1 (hx0.keep hlow hk1)
    refine ⟨.sl h.length cs.length 0 len, h ++ [some ⟨true, 1, cs⟩], R_intro hE.fn ?_, ⟨hx.1, .inr ⟨h.length, rfl, Nat.le_refl _, blk_new _ _⟩⟩, Kp.app _ (Nat.le_refl _)⟩
    rw [slices_Clone_sint64_int64_eq, show ∀ {α : Type} (f : Bool → Option α), eqNilK false (.sl k N off len) .nils f = f false from fun _ => rfl, if_neg (by simp), if_pos (show ([] : List Cell).length = 0 * 1 from rfl), hc, bind_ok, show ([] : List Cell).length = 0 from rfl, app_empty hlen (by omega) (by omega)]

end
end Jq

namespace Jq
open Go

/- jacquard/vm.Name: 167 -/
set_option maxRecDepth 100000 in
theorem vm_Name_eq (C : CallF) (L : LoopF) (G : Glo) (a0 : Int) (h0 : AHeap) :
    vm_Name.body C L G [(.c (.int .i64 a0))] h0 =
    scK (decide (a0 < 0)) false (some ((decide (a0 ≥ 24)), h0)) true h0 fun b_1 h_2 => if b_1 = true then some ([(.c (.str (ByteArray.mk #[])))], h_2) else if (decide (a0 < 4)) = true then c1 (C 45 [(.c (.int .i64 a0))] h_2) fun y_4 h_3 => asS y_4 fun z_5 => if ByteArray.size (ByteArray.mk #[116]) + ByteArray.size z_5 ≤ 1099511627776 then some ([(.c (.str ((ByteArray.mk #[116]) ++ z_5)))], h_3) else none else if (decide (a0 < 8)) = true then c1 (C 45 [(.c (.int .i64 (G.wrap .i64 (a0 - 4))))] h_2) fun y_7 h_6 => asS y_7 fun z_8 => if ByteArray.size (ByteArray.mk #[102]) + ByteArray.size z_8 ≤ 1099511627776 then some ([(.c (.str ((ByteArray.mk #[102]) ++ z_8)))], h_6) else none else c1 (C 45 [(.c (.int .i64 (G.quo .i64 (G.wrap .i64 (a0 - 8)) 4)))] h_2) fun y_10 h_9 => asS y_10 fun z_11 => if ByteArray.size (ByteArray.mk #[102]) + ByteArray.size z_11 ≤ 1099511627776 then if ByteArray.size ((ByteArray.mk #[102]) ++ z_11) + ByteArray.size (ByteArray.mk #[46]) ≤ 1099511627776 then c1 (C 45 [(.c (.int .i64 (G.rem .i64 (G.wrap .i64 (a0 - 8)) 4)))] h_9) fun y_13 h_12 => asS y_13 fun z_14 => if ByteArray.size (((ByteArray.mk #[102]) ++ z_11) ++ (ByteArray.mk #[46])) + ByteArray.size z_14 ≤ 1099511627776 then some ([(.c (.str ((((ByteArray.mk #[102]) ++ z_11) ++ (ByteArray.mk #[46])) ++ z_14)))], h_12) else none else none else none := by kernel_rfl

/- jacquard/vm.New: 171 -/
def vm_New_k2 (C : CallF) (L : LoopF) (G : Glo) (h0 : AHeap) : Ex → St → Option (List AV × AHeap) :=
  kSeq (fun st => vm_New_p1.exec C L G st (vm_New.fin G h0)) (vm_New.fin G h0)
def vm_New_k3 (C : CallF) (L : LoopF) (G : Glo) (h0 : AHeap) : Ex → St → Option (List AV × AHeap) :=
  kBlk 0 (vm_New_k2 C L G h0)
def vm_New_s1 (a1 : Int) (k6 : Nat) (N6 : Nat) (o6 : Nat) (a24 : Int) (s0 : List Cell) (h : AHeap) : St := ⟨[.top, .v (.c (.int .i64 a1)), .loc 0 0, .top, .top, .top, .v (.c (.ptr k6 N6 o6)), .top, .top, .top, .top, .top, .top, .top, .top, .top, .top, .top, .top, .top, .top, .top, .top, .top, .v (.c (.int .i64 a24)), .top, .top, .top, .top, .top, .top, .top, .top, .top, .top, .top, .top, .top, .top, .top, .top, .top, .top, .top, .top, .top, .top, .top, .top, .top, .top, .top, .top, .top, .top, .top, .top, .top, .top], [some s0], h⟩
def vm_New_F1 (C : CallF) (L : LoopF) (G : Glo) : St → Option (Ex × St) :=
  roundF (fun st f => vm_New_b1.exec C L G st f) [1, 2, 6, 24] [0] [(1, [2, 6], [0])]
def vm_New_x1_1 (k6 : Nat) (N6 : Nat) (o6 : Nat) (s0 : List Cell) (h : AHeap) : St := ⟨[.top, .top, .loc 0 0, .top, .top, .top, .v (.c (.ptr k6 N6 o6)), .top, .top, .top, .top, .top, .top, .top, .top, .top, .top, .top, .top, .top, .top, .top, .top, .top, .top, .top, .top, .top, .top, .top, .top, .top, .top, .top, .top, .top, .top, .top, .top, .top, .top, .top, .top, .top, .top, .top, .top, .top, .top, .top, .top, .top, .top, .top, .top, .top, .top, .top, .top], [some s0], h⟩
theorem vm_New_r1 (C : CallF) (L : LoopF) (G : Glo) (a1 : Int) (k6 : Nat) (N6 : Nat) (o6 : Nat) (a24 : Int) (s0 : List Cell) (h : AHeap) :
    vm_New_F1 C L G (vm_New_s1 a1 k6 N6 o6 a24 s0 h) =
    if (decide (a24 < 4)) = true then rdH h k6 N6 fun l_11 => if (o6 + 0) + 3 ≤ l_11.length then c1 (qh h (C 94 [(.agg ((l_11.drop (o6 + 0)).take 3)), (.c (.int .i64 a24))] h)) fun y_13 h_12 => asA y_13 fun l_14 => if 0 ≤ a24 ∧ a24 < ((4 : Nat) : Int) then rdH h k6 N6 fun l_15 => if ((o6 + 4) + ((Int.toNat a24) * 5)) + 5 ≤ l_15.length ∧ l_14.length = 5 then putH h k6 (splice l_15 ((o6 + 4) + ((Int.toNat a24) * 5)) l_14) fun h_16 => c1 (qh h_16 (C 190 [(.c (.int .i64 a1))] h_16)) fun y_18 h_17 => asA y_18 fun l_19 => if 0 ≤ a24 ∧ a24 < ((4 : Nat) : Int) then rdH h_16 k6 N6 fun l_20 => if ((o6 + 32) + ((Int.toNat a24) * 74)) + 74 ≤ l_20.length ∧ l_19.length = 74 then putH h_16 k6 (splice l_20 ((o6 + 32) + ((Int.toNat a24) * 74)) l_19) fun h_21 => if 0 ≤ a24 ∧ a24 < ((4 : Nat) : Int) then rdH h_21 k6 N6 fun l_22 => if ((o6 + 28) + ((Int.toNat a24) * 1)) < l_22.length then putH h_21 k6 (l_22.set ((o6 + 28) + ((Int.toNat a24) * 1)) (.int .i64 (-1))) fun h_23 => some (.normal, (vm_New_s1 a1 k6 N6 o6 (G.wrap .i64 (a24 + 1)) s0 h_23)) else none else none else none else none else none else none else none else some ((.exit 0), (vm_New_x1_1 k6 N6 o6 s0 h)) := by kernel_rfl
theorem vm_New_e1_1 (C : CallF) (L : LoopF) (G : Glo) (h0 : AHeap) (k6 : Nat) (N6 : Nat) (o6 : Nat) (s0 : List Cell) (h : AHeap) :
    (vm_New_k3 C L G h0) (.exit 0) (vm_New_x1_1 k6 N6 o6 s0 h) =
    sliceAK h 4 1 false false (.ptr k6 N6 (o6 + 24)) [] fun x_24 => atK s0 1 fun q_25 => copyK 1 x_24 q_25 h fun n_26 h_27 => some ([(.c (.ptr k6 N6 o6)), (.c (.int .i64 0))], h_27) := by kernel_rfl
set_option maxRecDepth 100000 in
theorem vm_New_eq (C : CallF) (L : LoopF) (G : Glo) (l0 : List Cell) (a1 : Int) (h0 : AHeap) :
    vm_New.body C L G [(.agg l0), (.c (.int .i64 a1))] h0 =
    scK (decide (a1 < 1)) false (some ((decide (a1 > 3)), h0)) true h0 fun b_1 h_2 => scK b_1 false (if 0 = 0 ∧ l0.length = 3 then c1 (C 188 [(.agg l0)] h_2) fun y_4 h_3 => asB y_4 fun b_5 => some ((!b_5), h_3) else none) true h_2 fun b_6 h_7 => if b_6 = true then some ([(.c .nilp), (.c (.int .i64 1))], h_7) else if 0 = 0 ∧ l0.length = 3 then c1 (C 189 [(.agg l0)] h_7) fun y_9 h_8 => asA y_9 fun l_10 => if l_10.length = 3 ∧ 0 + 3 ≤ ([Cell.nils, Cell.nils, Cell.nils] ++ List.replicate 325 (Cell.int .i64 0) ++ [Cell.nils]).length then if ([(.int .i64 a1)] : List Cell).length = 1 ∧ 3 + 1 ≤ (splice ([Cell.nils, Cell.nils, Cell.nils] ++ List.replicate 325 (Cell.int .i64 0) ++ [Cell.nils]) 0 l_10).length then (L (vm_New_F1 C L G) (vm_New_s1 a1 h_8.length ((AV.cells (.agg (splice (splice ([Cell.nils, Cell.nils, Cell.nils] ++ List.replicate 325 (Cell.int .i64 0) ++ [Cell.nils]) 0 l_10) 3 ([(.int .i64 a1)] : List Cell)))).length) 0 0 l0 (h_8 ++ [some (Blk.mk true 0 (AV.cells (.agg (splice (splice ([Cell.nils, Cell.nils, Cell.nils] ++ List.replicate 325 (Cell.int .i64 0) ++ [Cell.nils]) 0 l_10) 3 ([(.int .i64 a1)] : List Cell)))))]))).bind fun p_28 => (vm_New_k3 C L G h0) p_28.1 p_28.2 else none else none else none := by kernel_rfl

/- (*jacquard/vm.VM).Enabled: 172 -/
def vm_VM_Enabled_k2 (C : CallF) (L : LoopF) (G : Glo) (h0 : AHeap) : Ex → St → Option (List AV × AHeap) :=
  kSeq (fun st => vm_VM_Enabled_p1.exec C L G st (vm_VM_Enabled.fin G h0)) (vm_VM_Enabled.fin G h0)
def vm_VM_Enabled_k3 (C : CallF) (L : LoopF) (G : Glo) (h0 : AHeap) : Ex → St → Option (List AV × AHeap) :=
  kBlk 0 (vm_VM_Enabled_k2 C L G h0)
def vm_VM_Enabled_s2 (k0 : Nat) (N0 : Nat) (o0 : Nat) (a3 : Int) (a13 : Int) (h : AHeap) : St := ⟨[.v (.c (.ptr k0 N0 o0)), .top, .top, .v (.c (.int .u64 a3)), .top, .top, .top, .top, .top, .top, .top, .top, .top, .v (.c (.int .i64 a13)), .top, .top, .top, .top, .top, .top, .top, .top, .top, .top, .top, .top, .top, .top, .top, .top, .top, .top, .top, .top, .top, .top, .top, .top, .top, .top, .top, .top, .top, .top, .top, .top, .top, .top, .top, .top, .top, .top, .top, .top, .top, .top, .top, .top, .top, .top, .top, .top, .top, .top, .top, .top, .top, .top, .top, .top, .top, .top, .top, .top, .top, .top, .top, .top, .top, .top, .top, .top, .top, .top, .top, .top, .top, .top, .top, .top, .top, .top, .top, .top, .top, .top, .top, .top, .top, .top, .top, .top, .top, .top, .top, .top, .top, .top, .top], [none], h⟩
def vm_VM_Enabled_F2 (C : CallF) (L : LoopF) (G : Glo) : St → Option (Ex × St) :=
  roundF (fun st f => vm_VM_Enabled_b2.exec C L G st f) [0, 3, 13] [] [(1, [3], [])]
def vm_VM_Enabled_k4 (C : CallF) (L : LoopF) (G : Glo) : Ex → St → Option (Ex × St) :=
  kSeq (fun st => vm_VM_Enabled_p2.exec C L G st (kLoop [0, 3, 13] [] [(1, [3], [])])) (kLoop [0, 3, 13] [] [(1, [3], [])])
def vm_VM_Enabled_k5 (C : CallF) (L : LoopF) (G : Glo) : Ex → St → Option (Ex × St) :=
  kBlk 1 (vm_VM_Enabled_k4 C L G)
def vm_VM_Enabled_k6 (C : CallF) (L : LoopF) (G : Glo) : Ex → St → Option (Ex × St) :=
  kSeq (fun st => vm_VM_Enabled_p3.exec C L G st (vm_VM_Enabled_k5 C L G)) (vm_VM_Enabled_k5 C L G)
def vm_VM_Enabled_c1 (k0 : Nat) (N0 : Nat) (o0 : Nat) (a3 : Int) (a4 : Int) (a13 : Int) (h : AHeap) : St := ⟨[.v (.c (.ptr k0 N0 o0)), .top, .top, .v (.c (.int .u64 a3)), .v (.c (.int .i64 a4)), .top, .top, .top, .top, .top, .top, .top, .top, .v (.c (.int .i64 a13)), .top, .top, .top, .top, .top, .top, .top, .top, .top, .top, .top, .top, .top, .top, .top, .top, .top, .top, .top, .top, .top, .top, .top, .top, .top, .top, .top, .top, .top, .top, .top, .top, .top, .top, .top, .top, .top, .top, .top, .top, .top, .top, .top, .top, .top, .top, .top, .top, .top, .top, .top, .top, .top, .top, .top, .top, .top, .top, .top, .top, .top, .top, .top, .top, .top, .top, .top, .top, .top, .top, .top, .top, .top, .top, .top, .top, .top, .top, .top, .top, .top, .top, .top, .top, .top, .top, .top, .top, .top, .top, .top, .top, .top, .top, .top], [none], h⟩
def vm_VM_Enabled_k7 (C : CallF) (L : LoopF) (G : Glo) : Ex → St → Option (Ex × St) :=
  kBlk 2 (vm_VM_Enabled_k5 C L G)
def vm_VM_Enabled_s1 (k0 : Nat) (N0 : Nat) (o0 : Nat) (a3 : Int) (a4 : Int) (a13 : Int) (a75 : Int) (h : AHeap) : St := ⟨[.v (.c (.ptr k0 N0 o0)), .top, .top, .v (.c (.int .u64 a3)), .v (.c (.int .i64 a4)), .top, .top, .top, .top, .top, .top, .top, .top, .v (.c (.int .i64 a13)), .top, .top, .top, .top, .top, .top, .top, .top, .top, .top, .top, .top, .top, .top, .top, .top, .top, .top, .top, .top, .top, .top, .top, .top, .top, .top, .top, .top, .top, .top, .top, .top, .top, .top, .top, .top, .top, .top, .top, .top, .top, .top, .top, .top, .top, .top, .top, .top, .top, .top, .top, .top, .top, .top, .top, .top, .top, .top, .top, .top, .top, .v (.c (.int .i64 a75)), .top, .top, .top, .top, .top, .top, .top, .top, .top, .top, .top, .top, .top, .top, .top, .top, .top, .top, .top, .top, .top, .top, .top, .top, .top, .top, .top, .top, .top, .top, .top, .top, .top], [none], h⟩
def vm_VM_Enabled_F1 (C : CallF) (L : LoopF) (G : Glo) : St → Option (Ex × St) :=
  roundF (fun st f => vm_VM_Enabled_b1.exec C L G st f) [0, 3, 4, 13, 75] [] [(3, [0, 3, 13], [])]
def vm_VM_Enabled_x1_3 (k0 : Nat) (N0 : Nat) (o0 : Nat) (a3 : Int) (a13 : Int) (h : AHeap) : St := ⟨[.v (.c (.ptr k0 N0 o0)), .top, .top, .v (.c (.int .u64 a3)), .top, .top, .top, .top, .top, .top, .top, .top, .top, .v (.c (.int .i64 a13)), .top, .top, .top, .top, .top, .top, .top, .top, .top, .top, .top, .top, .top, .top, .top, .top, .top, .top, .top, .top, .top, .top, .top, .top, .top, .top, .top, .top, .top, .top, .top, .top, .top, .top, .top, .top, .top, .top, .top, .top, .top, .top, .top, .top, .top, .top, .top, .top, .top, .top, .top, .top, .top, .top, .top, .top, .top, .top, .top, .top, .top, .top, .top, .top, .top, .top, .top, .top, .top, .top, .top, .top, .top, .top, .top, .top, .top, .top, .top, .top, .top, .top, .top, .top, .top, .top, .top, .top, .top, .top, .top, .top, .top, .top, .top], [none], h⟩
def vm_VM_Enabled_k8 (C : CallF) (L : LoopF) (G : Glo) : Ex → St → Option (Ex × St) :=
  kBlk 2 (vm_VM_Enabled_k5 C L G)
def vm_VM_Enabled_x2_1 (a3 : Int) (h : AHeap) : St := ⟨[.top, .top, .top, .v (.c (.int .u64 a3)), .top, .top, .top, .top, .top, .top, .top, .top, .top, .top, .top, .top, .top, .top, .top, .top, .top, .top, .top, .top, .top, .top, .top, .top, .top, .top, .top, .top, .top, .top, .top, .top, .top, .top, .top, .top, .top, .top, .top, .top, .top, .top, .top, .top, .top, .top, .top, .top, .top, .top, .top, .top, .top, .top, .top, .top, .top, .top, .top, .top, .top, .top, .top, .top, .top, .top, .top, .top, .top, .top, .top, .top, .top, .top, .top, .top, .top, .top, .top, .top, .top, .top, .top, .top, .top, .top, .top, .top, .top, .top, .top, .top, .top, .top, .top, .top, .top, .top, .top, .top, .top, .top, .top, .top, .top], [none], h⟩
theorem vm_VM_Enabled_r1 (C : CallF) (L : LoopF) (G : Glo) (k0 : Nat) (N0 : Nat) (o0 : Nat) (a3 : Int) (a4 : Int) (a13 : Int) (a75 : Int) (h : AHeap) :
    vm_VM_Enabled_F1 C L G (vm_VM_Enabled_s1 k0 N0 o0 a3 a4 a13 a75 h) =
    if (decide (a75 < 4)) = true then if 0 ≤ a4 ∧ a4 < ((4 : Nat) : Int) then rdH h k0 N0 fun l_37 => if ((o0 + 32) + ((Int.toNat a4) * 74)) + 74 ≤ l_37.length then c4 (C 192 [(.agg ((l_37.drop ((o0 + 32) + ((Int.toNat a4) * 74))).take 74)), (.c (.int .i64 a75))] h) fun y_39 y_40 y_41 y_42 h_38 => asI .i64 y_39 fun n_43 => asI .i64 y_40 fun n_44 => asI .i64 y_41 fun n_45 => asB y_42 fun b_46 => rdH h_38 k0 N0 fun l_47 => atK l_47 (o0 + 3) fun q_48 => asI .i64 (.c q_48) fun n_49 => scK (n_49 == 3) true (some (b_46, h_38)) false h_38 fun b_50 h_51 => if b_50 = true then let v_52 : Int := (G.wrap .i64 (8 + (G.wrap .i64 (4 * a4)))); c1 (C 18 [(.c (.int .u64 a3)), (.c (.int .i64 (G.wrap .i64 (v_52 + a75))))] h_51) fun y_54 h_53 => asI .u64 y_54 fun n_55 => some (.normal, (vm_VM_Enabled_s1 k0 N0 o0 n_55 a4 a13 (G.wrap .i64 (a75 + 1)) h_53)) else some (.normal, (vm_VM_Enabled_s1 k0 N0 o0 a3 a4 a13 (G.wrap .i64 (a75 + 1)) h_51)) else none else none else some ((.exit 2), (vm_VM_Enabled_x1_3 k0 N0 o0 a3 a13 h)) := by kernel_rfl
theorem vm_VM_Enabled_e1_3 (C : CallF) (L : LoopF) (G : Glo) (k0 : Nat) (N0 : Nat) (o0 : Nat) (a3 : Int) (a13 : Int) (h : AHeap) :
    (vm_VM_Enabled_k7 C L G) (.exit 2) (vm_VM_Enabled_x1_3 k0 N0 o0 a3 a13 h) =
    some (.normal, (vm_VM_Enabled_s2 k0 N0 o0 a3 (G.wrap .i64 (a13 + 1)) h)) := by kernel_rfl
theorem vm_VM_Enabled_ec1_n (C : CallF) (L : LoopF) (G : Glo) (k0 : Nat) (N0 : Nat) (o0 : Nat) (a3 : Int) (a4 : Int) (a13 : Int) (h : AHeap) :
    (vm_VM_Enabled_k6 C L G) .normal (vm_VM_Enabled_c1 k0 N0 o0 a3 a4 a13 h) =
    rdH h k0 N0 fun l_25 => atK l_25 (o0 + 3) fun q_26 => asI .i64 (.c q_26) fun n_27 => scK (n_27 == 2) true (if 0 ≤ a4 ∧ a4 < ((4 : Nat) : Int) then rdH h k0 N0 fun l_28 => if ((o0 + 32) + ((Int.toNat a4) * 74)) + 74 ≤ l_28.length then c1 (C 191 [(.agg ((l_28.drop ((o0 + 32) + ((Int.toNat a4) * 74))).take 74))] h) fun y_30 h_29 => asB y_30 fun b_31 => some ((!b_31), h_29) else none else none) false h fun b_32 h_33 => if b_32 = true then c1 (C 18 [(.c (.int .u64 a3)), (.c (.int .i64 (G.wrap .i64 (4 + a4))))] h_33) fun y_35 h_34 => asI .u64 y_35 fun n_36 => (L (vm_VM_Enabled_F1 C L G) (vm_VM_Enabled_s1 k0 N0 o0 n_36 a4 a13 0 h_34)).bind fun p_56 => (vm_VM_Enabled_k7 C L G) p_56.1 p_56.2 else (L (vm_VM_Enabled_F1 C L G) (vm_VM_Enabled_s1 k0 N0 o0 a3 a4 a13 0 h_33)).bind fun p_57 => (vm_VM_Enabled_k8 C L G) p_57.1 p_57.2 := by kernel_rfl
theorem vm_VM_Enabled_r2 (C : CallF) (L : LoopF) (G : Glo) (k0 : Nat) (N0 : Nat) (o0 : Nat) (a3 : Int) (a13 : Int) (h : AHeap) :
    vm_VM_Enabled_F2 C L G (vm_VM_Enabled_s2 k0 N0 o0 a3 a13 h) =
    if (decide (a13 < 4)) = true then rdH h k0 N0 fun l_1 => if (o0 + 0) + 3 ≤ l_1.length then if 0 ≤ a13 ∧ a13 < ((4 : Nat) : Int) then rdH h k0 N0 fun l_2 => if ((o0 + 4) + ((Int.toNat a13) * 5)) + 5 ≤ l_2.length then c2 (qh h (C 105 [(.agg ((l_1.drop (o0 + 0)).take 3)), (.c (.int .i64 a13)), (.agg ((l_2.drop ((o0 + 4) + ((Int.toNat a13) * 5))).take 5))] h)) fun y_4 y_5 h_3 => asA y_4 fun l_6 => asB y_5 fun b_7 => if 0 = 0 ∧ (List.replicate 9 (Cell.int .i64 0)).length = 9 ∧ l_6.length = 9 then atK l_6 0 fun q_8 => asI .i64 (.c q_8) fun n_9 => scK (n_9 == 3) false (atK l_6 0 fun q_10 => asI .i64 (.c q_10) fun n_11 => some ((n_11 == 4), h)) true h fun b_12 h_13 => (scK b_7 true (scK (!b_12) false (if 0 ≤ a13 ∧ a13 < ((4 : Nat) : Int) then rdH h_13 k0 N0 fun l_14 => if ((o0 + 32) + ((Int.toNat a13) * 74)) + 74 ≤ l_14.length then c1 (C 191 [(.agg ((l_14.drop ((o0 + 32) + ((Int.toNat a13) * 74))).take 74))] h_13) fun y_16 h_15 => asB y_16 fun b_17 => some (b_17, h_15) else none else none) true h_13 fun b_18 h_19 => some (b_18, h_19)) false h_13 fun b_20 h_21 => if b_20 = true then c1 (C 18 [(.c (.int .u64 a3)), (.c (.int .i64 a13))] h_21) fun y_23 h_22 => asI .u64 y_23 fun n_24 => some (.normal, (vm_VM_Enabled_c1 k0 N0 o0 n_24 a13 a13 h_22)) else some (.normal, (vm_VM_Enabled_c1 k0 N0 o0 a3 a13 a13 h_21)) : Option (Ex × St)).bind fun p_58 => (vm_VM_Enabled_k6 C L G) p_58.1 p_58.2 else none else none else none else none else some ((.exit 0), (vm_VM_Enabled_x2_1 a3 h)) := by kernel_rfl
theorem vm_VM_Enabled_e2_1 (C : CallF) (L : LoopF) (G : Glo) (h0 : AHeap) (a3 : Int) (h : AHeap) :
    (vm_VM_Enabled_k3 C L G h0) (.exit 0) (vm_VM_Enabled_x2_1 a3 h) =
    some ([(.c (.int .u64 a3))], h) := by kernel_rfl
set_option maxRecDepth 100000 in
theorem vm_VM_Enabled_eq (C : CallF) (L : LoopF) (G : Glo) (k0 : Nat) (N0 : Nat) (o0 : Nat) (h0 : AHeap) :
    vm_VM_Enabled.body C L G [(.c (.ptr k0 N0 o0))] h0 =
    (L (vm_VM_Enabled_F2 C L G) (vm_VM_Enabled_s2 k0 N0 o0 0 0 h0)).bind fun p_59 => (vm_VM_Enabled_k3 C L G h0) p_59.1 p_59.2 := by kernel_rfl

/- (*jacquard/vm.VM).Pick: 173 -/
set_option maxRecDepth 100000 in
theorem vm_VM_Pick_eq (C : CallF) (L : LoopF) (G : Glo) (k0 : Nat) (N0 : Nat) (o0 : Nat) (a1 : Int) (h0 : AHeap) :
    vm_VM_Pick.body C L G [(.c (.ptr k0 N0 o0)), (.c (.int .i64 a1))] h0 =
    c1 (C 172 [(.c (.ptr k0 N0 o0))] h0) fun y_2 h_1 => asI .u64 y_2 fun n_3 => c1 (C 17 [(.c (.int .u64 n_3)), (.c (.int .i64 a1))] h_1) fun y_5 h_4 => asB y_5 fun b_6 => if (!b_6) = true then if 0 = 0 ∧ (List.replicate 7 (Cell.int .i64 0)).length = 7 ∧ (List.replicate 7 (Cell.int .i64 0)).length = 7 then if 0 = 0 ∧ (List.replicate 7 (Cell.int .i64 0)).length = 7 then some ([(.agg (List.replicate 7 (Cell.int .i64 0))), (.c (.bool false))], h_4) else none else none else if (decide (a1 < 4)) = true then c1 (C 193 [(.c (.ptr k0 N0 o0)), (.c (.int .i64 a1))] h_4) fun y_8 h_7 => asA y_8 fun l_9 => if 0 = 0 ∧ (List.replicate 7 (Cell.int .i64 0)).length = 7 ∧ l_9.length = 7 then if 0 < l_9.length then rdH h_7 k0 N0 fun l_10 => atK l_10 (o0 + 328) fun q_11 => if 0 = 0 ∧ (l_9.set 0 (.int .i64 a1)).length = 7 then if (l_9.set 0 (.int .i64 a1)).length = 7 ∧ 0 + 7 ≤ (List.replicate 7 (Cell.int .i64 0)).length then if (splice (List.replicate 7 (Cell.int .i64 0)) 0 (l_9.set 0 (.int .i64 a1))).length = 1 * 7 then appK 7 56 q_11 (splice (List.replicate 7 (Cell.int .i64 0)) 0 (l_9.set 0 (.int .i64 a1))) h_7 fun x_12 h_13 => rdH h_13 k0 N0 fun l_14 => if (o0 + 328) < l_14.length then putH h_13 k0 (l_14.set (o0 + 328) x_12) fun h_15 => if 0 = 0 ∧ (l_9.set 0 (.int .i64 a1)).length = 7 then if 0 = 0 ∧ (List.replicate 7 (Cell.int .i64 0)).length = 7 ∧ (l_9.set 0 (.int .i64 a1)).length = 7 then if 0 = 0 ∧ (l_9.set 0 (.int .i64 a1)).length = 7 then some ([(.agg (l_9.set 0 (.int .i64 a1))), (.c (.bool true))], h_15) else none else none else none else none else none else none else none else none else none else if (decide (a1 < 8)) = true then c1 (C 194 [(.c (.ptr k0 N0 o0)), (.c (.int .i64 (G.wrap .i64 (a1 - 4)))), (.c (.int .i64 0))] h_4) fun y_17 h_16 => asA y_17 fun l_18 => if 0 = 0 ∧ (List.replicate 7 (Cell.int .i64 0)).length = 7 ∧ l_18.length = 7 then if 0 < l_18.length then rdH h_16 k0 N0 fun l_19 => atK l_19 (o0 + 328) fun q_20 => if 0 = 0 ∧ (l_18.set 0 (.int .i64 a1)).length = 7 then if (l_18.set 0 (.int .i64 a1)).length = 7 ∧ 0 + 7 ≤ (List.replicate 7 (Cell.int .i64 0)).length then if (splice (List.replicate 7 (Cell.int .i64 0)) 0 (l_18.set 0 (.int .i64 a1))).length = 1 * 7 then appK 7 56 q_20 (splice (List.replicate 7 (Cell.int .i64 0)) 0 (l_18.set 0 (.int .i64 a1))) h_16 fun x_21 h_22 => rdH h_22 k0 N0 fun l_23 => if (o0 + 328) < l_23.length then putH h_22 k0 (l_23.set (o0 + 328) x_21) fun h_24 => if 0 = 0 ∧ (l_18.set 0 (.int .i64 a1)).length = 7 then if 0 = 0 ∧ (List.replicate 7 (Cell.int .i64 0)).length = 7 ∧ (l_18.set 0 (.int .i64 a1)).length = 7 then if 0 = 0 ∧ (l_18.set 0 (.int .i64 a1)).length = 7 then some ([(.agg (l_18.set 0 (.int .i64 a1))), (.c (.bool true))], h_24) else none else none else none else none else none else none else none else none else none else c1 (C 194 [(.c (.ptr k0 N0 o0)), (.c (.int .i64 (G.quo .i64 (G.wrap .i64 (a1 - 8)) 4))), (.c (.int .i64 (G.rem .i64 (G.wrap .i64 (a1 - 8)) 4)))] h_4) fun y_26 h_25 => asA y_26 fun l_27 => if 0 = 0 ∧ (List.replicate 7 (Cell.int .i64 0)).length = 7 ∧ l_27.length = 7 then if 0 < l_27.length then rdH h_25 k0 N0 fun l_28 => atK l_28 (o0 + 328) fun q_29 => if 0 = 0 ∧ (l_27.set 0 (.int .i64 a1)).length = 7 then if (l_27.set 0 (.int .i64 a1)).length = 7 ∧ 0 + 7 ≤ (List.replicate 7 (Cell.int .i64 0)).length then if (splice (List.replicate 7 (Cell.int .i64 0)) 0 (l_27.set 0 (.int .i64 a1))).length = 1 * 7 then appK 7 56 q_29 (splice (List.replicate 7 (Cell.int .i64 0)) 0 (l_27.set 0 (.int .i64 a1))) h_25 fun x_30 h_31 => rdH h_31 k0 N0 fun l_32 => if (o0 + 328) < l_32.length then putH h_31 k0 (l_32.set (o0 + 328) x_30) fun h_33 => if 0 = 0 ∧ (l_27.set 0 (.int .i64 a1)).length = 7 then if 0 = 0 ∧ (List.replicate 7 (Cell.int .i64 0)).length = 7 ∧ (l_27.set 0 (.int .i64 a1)).length = 7 then if 0 = 0 ∧ (l_27.set 0 (.int .i64 a1)).length = 7 then some ([(.agg (l_27.set 0 (.int .i64 a1))), (.c (.bool true))], h_33) else none else none else none else none else none else none else none else none else none := by kernel_rfl

/- (*jacquard/vm.VM).Done: 174 -/
set_option maxRecDepth 100000 in
theorem vm_VM_Done_eq (C : CallF) (L : LoopF) (G : Glo) (k0 : Nat) (N0 : Nat) (o0 : Nat) (h0 : AHeap) :
    vm_VM_Done.body C L G [(.c (.ptr k0 N0 o0))] h0 =
    c1 (C 172 [(.c (.ptr k0 N0 o0))] h0) fun y_2 h_1 => asI .u64 y_2 fun n_3 => some ([(.c (.bool (n_3 == 0)))], h_1) := by kernel_rfl

/- (*jacquard/vm.VM).Steps: 175 -/
set_option maxRecDepth 100000 in
theorem vm_VM_Steps_eq (C : CallF) (L : LoopF) (G : Glo) (k0 : Nat) (N0 : Nat) (o0 : Nat) (h0 : AHeap) :
    vm_VM_Steps.body C L G [(.c (.ptr k0 N0 o0))] h0 =
    rdH h0 k0 N0 fun l_1 => atK l_1 (o0 + 328) fun q_2 => c1 (C 195 [(.c q_2)] h0) fun y_4 h_3 => asC y_4 fun x_5 => some ([(.c x_5)], h_3) := by kernel_rfl

/- jacquard/vm.copied: 189 -/
def vm_copied_k2 (C : CallF) (L : LoopF) (G : Glo) (h0 : AHeap) : Ex → St → Option (List AV × AHeap) :=
  kSeq (fun st => vm_copied_p1.exec C L G st (vm_copied.fin G h0)) (vm_copied.fin G h0)
def vm_copied_k3 (C : CallF) (L : LoopF) (G : Glo) (h0 : AHeap) : Ex → St → Option (List AV × AHeap) :=
  kBlk 0 (vm_copied_k2 C L G h0)
def vm_copied_s1 (x14 : Cell) (a15 : Int) (a16 : Int) (s1 : List Cell) (s2 : List Cell) (h : AHeap) : St := ⟨[.top, .top, .loc 1 0, .loc 2 0, .top, .top, .top, .top, .top, .top, .top, .top, .top, .top, .v (.c x14), .v (.c (.int .i64 a15)), .v (.c (.int .i64 a16)), .top, .top, .top, .top, .top, .top, .top, .top, .top, .top, .top, .top], [none, some s1, some s2], h⟩
def vm_copied_F1 (C : CallF) (L : LoopF) (G : Glo) : St → Option (Ex × St) :=
  roundF (fun st f => vm_copied_b1.exec C L G st f) [2, 3, 14, 15, 16] [1, 2] [(1, [2, 3], [1, 2])]
def vm_copied_x1_1 (s1 : List Cell) (s2 : List Cell) (h : AHeap) : St := ⟨[.top, .top, .loc 1 0, .loc 2 0, .top, .top, .top, .top, .top, .top, .top, .top, .top, .top, .top, .top, .top, .top, .top, .top, .top, .top, .top, .top, .top, .top, .top, .top, .top], [none, some s1, some s2], h⟩
theorem vm_copied_r1 (C : CallF) (L : LoopF) (G : Glo) (x14 : Cell) (a15 : Int) (a16 : Int) (s1 : List Cell) (s2 : List Cell) (h : AHeap) :
    vm_copied_F1 C L G (vm_copied_s1 x14 a15 a16 s1 s2 h) =
    if (decide (a16 < a15)) = true then idxSK 1 x14 a16 fun k_11 N_12 o_13 => rdH h k_11 N_12 fun l_14 => atK l_14 o_13 fun q_15 => atK s2 2 fun q_16 => c1 (C 119 [(.c q_15)] h) fun y_18 h_17 => asC y_18 fun x_19 => if (splice [Cell.nils] 0 ([x_19] : List Cell)).length = 1 * 1 then appK 1 24 q_16 (splice [Cell.nils] 0 ([x_19] : List Cell)) h_17 fun x_20 h_21 => if 2 < s2.length then some (.normal, (vm_copied_s1 x14 a15 (G.wrap .i64 (a16 + 1)) s1 (s2.set 2 x_20) h_21)) else none else none else some ((.exit 0), (vm_copied_x1_1 s1 s2 h)) := by kernel_rfl
theorem vm_copied_e1_1 (C : CallF) (L : LoopF) (G : Glo) (h0 : AHeap) (s1 : List Cell) (s2 : List Cell) (h : AHeap) :
    (vm_copied_k3 C L G h0) (.exit 0) (vm_copied_x1_1 s1 s2 h) =
    if 0 = 0 ∧ s2.length = 3 then if 0 = 0 ∧ s1.length = 3 ∧ s2.length = 3 then if 0 = 0 ∧ s2.length = 3 then some ([(.agg s2)], h) else none else none else none := by kernel_rfl
set_option maxRecDepth 100000 in
theorem vm_copied_eq (C : CallF) (L : LoopF) (G : Glo) (l0 : List Cell) (h0 : AHeap) :
    vm_copied.body C L G [(.agg l0)] h0 =
    atK l0 0 fun q_1 => c1 (C 202 [(.c q_1)] h0) fun y_3 h_2 => asC y_3 fun x_4 => atK l0 1 fun q_5 => c1 (C 203 [(.c q_5)] h_2) fun y_7 h_6 => asC y_7 fun x_8 => if 0 = 0 ∧ [Cell.nils, Cell.nils, Cell.nils].length = 3 ∧ (splice (splice [Cell.nils, Cell.nils, Cell.nils] 0 ([x_4] : List Cell)) 1 ([x_8] : List Cell)).length = 3 then atK l0 2 fun q_9 => lenK q_9 fun n_10 => (L (vm_copied_F1 C L G) (vm_copied_s1 q_9 n_10 0 [Cell.nils, Cell.nils, Cell.nils] (splice (splice [Cell.nils, Cell.nils, Cell.nils] 0 ([x_4] : List Cell)) 1 ([x_8] : List Cell)) h_6)).bind fun p_22 => (vm_copied_k3 C L G h0) p_22.1 p_22.2 else none := by kernel_rfl

/- (*jacquard/vm.VM).thread: 193 -/
def vm_VM_thread_k2 (C : CallF) (L : LoopF) (G : Glo) (h0 : AHeap) : Ex → St → Option (List AV × AHeap) :=
  kSeq (fun st => vm_VM_thread_p1.exec C L G st (vm_VM_thread.fin G h0)) (vm_VM_thread.fin G h0)
def vm_VM_thread_c1 (k0 : Nat) (N0 : Nat) (o0 : Nat) (a1 : Int) (a8 : Int) (a9 : Int) (s0 : List Cell) (s1 : List Cell) (s2 : List Cell) (h : AHeap) : St := ⟨[.v (.c (.ptr k0 N0 o0)), .v (.c (.int .i64 a1)), .top, .top, .loc 0 0, .loc 1 0, .loc 2 0, .top, .v (.c (.int .i64 a8)), .v (.c (.int .i64 a9)), .top, .top, .top, .top, .top, .top, .top, .top, .top, .top, .top, .top, .top, .top, .top, .top, .top, .top, .top, .top, .top, .top, .top, .top, .top, .top, .top, .top, .top, .top, .top, .top, .top, .top, .top, .top, .top, .top, .top, .top, .top, .top, .top, .top, .top, .top, .top, .top, .top, .top, .top, .top, .top, .top, .top, .top, .top, .top, .top, .top, .top, .top, .top, .top, .top, .top, .top, .top, .top, .top, .top, .top, .top, .top, .top, .top, .top, .top, .top, .top, .top, .top, .top, .top, .top, .top, .top, .top, .top, .top, .top, .top, .top, .top, .top, .top, .top, .top, .top, .top, .top, .top, .top, .top, .top, .top, .top, .top, .top, .top, .top, .top, .top, .top, .top, .top, .top, .top, .top, .top, .top, .top, .top, .top, .top, .top, .top, .top, .top, .top, .top, .top, .top, .top, .top, .top], [some s0, some s1, some s2, none], h⟩
def vm_VM_thread_k3 (C : CallF) (L : LoopF) (G : Glo) (h0 : AHeap) : Ex → St → Option (List AV × AHeap) :=
  kSeq (fun st => vm_VM_thread_p2.exec C L G st (vm_VM_thread.fin G h0)) (vm_VM_thread.fin G h0)
def vm_VM_thread_c2 (k0 : Nat) (N0 : Nat) (o0 : Nat) (a1 : Int) (a8 : Int) (a9 : Int) (s0 : List Cell) (s1 : List Cell) (s3 : List Cell) (h : AHeap) : St := ⟨[.v (.c (.ptr k0 N0 o0)), .v (.c (.int .i64 a1)), .top, .top, .loc 0 0, .loc 1 0, .top, .top, .v (.c (.int .i64 a8)), .v (.c (.int .i64 a9)), .top, .top, .top, .loc 3 0, .top, .top, .top, .top, .top, .top, .top, .top, .top, .top, .top, .top, .top, .top, .top, .top, .top, .top, .top, .top, .top, .top, .top, .top, .top, .top, .top, .top, .top, .top, .top, .top, .top, .top, .top, .top, .top, .top, .top, .top, .top, .top, .top, .top, .top, .top, .top, .top, .top, .top, .top, .top, .top, .top, .top, .top, .top, .top, .top, .top, .top, .top, .top, .top, .top, .top, .top, .top, .top, .top, .top, .top, .top, .top, .top, .top, .top, .top, .top, .top, .top, .top, .top, .top, .top, .top, .top, .top, .top, .top, .top, .top, .top, .top, .top, .top, .top, .top, .top, .top, .top, .top, .top, .top, .top, .top, .top, .top, .top, .top, .top, .top, .top, .top, .top, .top, .top, .top, .top, .top, .top, .top, .top, .top, .top, .top, .top, .top, .top, .top, .top, .top], [some s0, some s1, none, some s3], h⟩
theorem vm_VM_thread_ec2_n (C : CallF) (L : LoopF) (G : Glo) (h0 : AHeap) (k0 : Nat) (N0 : Nat) (o0 : Nat) (a1 : Int) (a8 : Int) (a9 : Int) (s0 : List Cell) (s1 : List Cell) (s3 : List Cell) (h : AHeap) :
    (vm_VM_thread_k3 C L G h0) .normal (vm_VM_thread_c2 k0 N0 o0 a1 a8 a9 s0 s1 s3 h) =
    rdH h k0 N0 fun l_33 => atK l_33 (o0 + 328) fun q_34 => lenK q_34 fun n_35 => atK s3 2 fun q_36 => asI .i64 (.c q_36) fun n_37 => scK (n_37 == 2) true (rdH h k0 N0 fun l_38 => atK l_38 (o0 + 3) fun q_39 => asI .i64 (.c q_39) fun n_40 => some ((n_40 != 1), h)) false h fun b_41 h_42 => if b_41 = true then if 0 ≤ a1 ∧ a1 < ((4 : Nat) : Int) then rdH h_42 k0 N0 fun l_43 => if ((o0 + 32) + ((Int.toNat a1) * 74)) + 74 ≤ l_43.length then atK s3 3 fun q_44 => asI .i64 (.c q_44) fun n_45 => atK s3 5 fun q_46 => asI .i64 (.c q_46) fun n_47 => c1 (qh h_42 (C 206 [(.agg ((l_43.drop ((o0 + 32) + ((Int.toNat a1) * 74))).take 74)), (.c (.int .i64 n_45)), (.c (.int .i64 n_47)), (.c (.int .i64 n_35))] h_42)) fun y_49 h_48 => asA y_49 fun l_50 => if 0 ≤ a1 ∧ a1 < ((4 : Nat) : Int) then rdH h_42 k0 N0 fun l_51 => if ((o0 + 32) + ((Int.toNat a1) * 74)) + 74 ≤ l_51.length ∧ l_50.length = 74 then putH h_42 k0 (splice l_51 ((o0 + 32) + ((Int.toNat a1) * 74)) l_50) fun h_52 => rdH h_52 k0 N0 fun l_53 => if (o0 + 0) + 3 ≤ l_53.length then if 0 = 0 ∧ s1.length = 5 then c1 (qh h_52 (C 106 [(.agg ((l_53.drop (o0 + 0)).take 3)), (.c (.int .i64 a1)), (.agg s1), (.c (.int .i64 a8))] h_52)) fun y_55 h_54 => asA y_55 fun l_56 => if 0 ≤ a1 ∧ a1 < ((4 : Nat) : Int) then rdH h_52 k0 N0 fun l_57 => if ((o0 + 4) + ((Int.toNat a1) * 5)) + 5 ≤ l_57.length ∧ l_56.length = 5 then putH h_52 k0 (splice l_57 ((o0 + 4) + ((Int.toNat a1) * 5)) l_56) fun h_58 => atK s3 2 fun q_59 => asI .i64 (.c q_59) fun n_60 => atK s3 3 fun q_61 => asI .i64 (.c q_61) fun n_62 => atK s3 4 fun q_63 => asI .i64 (.c q_63) fun n_64 => atK s3 5 fun q_65 => asI .i64 (.c q_65) fun n_66 => if 0 = 0 ∧ s0.length = 7 ∧ (splice (splice (splice (splice (splice (splice (List.replicate 7 (Cell.int .i64 0)) 1 ([(.int .i64 a1)] : List Cell)) 2 ([(.int .i64 n_60)] : List Cell)) 3 ([(.int .i64 n_62)] : List Cell)) 4 ([(.int .i64 n_64)] : List Cell)) 5 ([(.int .i64 n_66)] : List Cell)) 6 ([(.int .i64 a9)] : List Cell)).length = 7 then if 0 = 0 ∧ (splice (splice (splice (splice (splice (splice (List.replicate 7 (Cell.int .i64 0)) 1 ([(.int .i64 a1)] : List Cell)) 2 ([(.int .i64 n_60)] : List Cell)) 3 ([(.int .i64 n_62)] : List Cell)) 4 ([(.int .i64 n_64)] : List Cell)) 5 ([(.int .i64 n_66)] : List Cell)) 6 ([(.int .i64 a9)] : List Cell)).length = 7 then some ([(.agg (splice (splice (splice (splice (splice (splice (List.replicate 7 (Cell.int .i64 0)) 1 ([(.int .i64 a1)] : List Cell)) 2 ([(.int .i64 n_60)] : List Cell)) 3 ([(.int .i64 n_62)] : List Cell)) 4 ([(.int .i64 n_64)] : List Cell)) 5 ([(.int .i64 n_66)] : List Cell)) 6 ([(.int .i64 a9)] : List Cell)))], h_58) else none else none else none else none else none else none else none else none else none else none else if 0 = 0 ∧ s3.length = 6 then c1 (C 80 [(.agg s3)] h_42) fun y_68 h_67 => asB y_68 fun b_69 => if b_69 = true then atK s3 3 fun q_70 => asI .i64 (.c q_70) fun n_71 => atK s3 3 fun q_72 => asI .i64 (.c q_72) fun n_73 => atK s3 5 fun q_74 => asI .i64 (.c q_74) fun n_75 => if 0 ≤ n_71 ∧ n_71 < ((4 : Nat) : Int) then rdH h_67 k0 N0 fun l_76 => if ((o0 + 24) + ((Int.toNat n_71) * 1)) < l_76.length then putH h_67 k0 (l_76.set ((o0 + 24) + ((Int.toNat n_71) * 1)) (.int .i64 n_75)) fun h_77 => if 0 ≤ n_73 ∧ n_73 < ((4 : Nat) : Int) then rdH h_77 k0 N0 fun l_78 => if ((o0 + 28) + ((Int.toNat n_73) * 1)) < l_78.length then putH h_77 k0 (l_78.set ((o0 + 28) + ((Int.toNat n_73) * 1)) (.int .i64 n_35)) fun h_79 => rdH h_79 k0 N0 fun l_80 => if (o0 + 0) + 3 ≤ l_80.length then if 0 = 0 ∧ s1.length = 5 then c1 (qh h_79 (C 106 [(.agg ((l_80.drop (o0 + 0)).take 3)), (.c (.int .i64 a1)), (.agg s1), (.c (.int .i64 a8))] h_79)) fun y_82 h_81 => asA y_82 fun l_83 => if 0 ≤ a1 ∧ a1 < ((4 : Nat) : Int) then rdH h_79 k0 N0 fun l_84 => if ((o0 + 4) + ((Int.toNat a1) * 5)) + 5 ≤ l_84.length ∧ l_83.length = 5 then putH h_79 k0 (splice l_84 ((o0 + 4) + ((Int.toNat a1) * 5)) l_83) fun h_85 => atK s3 2 fun q_86 => asI .i64 (.c q_86) fun n_87 => atK s3 3 fun q_88 => asI .i64 (.c q_88) fun n_89 => atK s3 4 fun q_90 => asI .i64 (.c q_90) fun n_91 => atK s3 5 fun q_92 => asI .i64 (.c q_92) fun n_93 => if 0 = 0 ∧ s0.length = 7 ∧ (splice (splice (splice (splice (splice (splice (List.replicate 7 (Cell.int .i64 0)) 1 ([(.int .i64 a1)] : List Cell)) 2 ([(.int .i64 n_87)] : List Cell)) 3 ([(.int .i64 n_89)] : List Cell)) 4 ([(.int .i64 n_91)] : List Cell)) 5 ([(.int .i64 n_93)] : List Cell)) 6 ([(.int .i64 a9)] : List Cell)).length = 7 then if 0 = 0 ∧ (splice (splice (splice (splice (splice (splice (List.replicate 7 (Cell.int .i64 0)) 1 ([(.int .i64 a1)] : List Cell)) 2 ([(.int .i64 n_87)] : List Cell)) 3 ([(.int .i64 n_89)] : List Cell)) 4 ([(.int .i64 n_91)] : List Cell)) 5 ([(.int .i64 n_93)] : List Cell)) 6 ([(.int .i64 a9)] : List Cell)).length = 7 then some ([(.agg (splice (splice (splice (splice (splice (splice (List.replicate 7 (Cell.int .i64 0)) 1 ([(.int .i64 a1)] : List Cell)) 2 ([(.int .i64 n_87)] : List Cell)) 3 ([(.int .i64 n_89)] : List Cell)) 4 ([(.int .i64 n_91)] : List Cell)) 5 ([(.int .i64 n_93)] : List Cell)) 6 ([(.int .i64 a9)] : List Cell)))], h_85) else none else none else none else none else none else none else none else none else none else none else rdH h_67 k0 N0 fun l_94 => if (o0 + 0) + 3 ≤ l_94.length then if 0 = 0 ∧ s1.length = 5 then c1 (qh h_67 (C 106 [(.agg ((l_94.drop (o0 + 0)).take 3)), (.c (.int .i64 a1)), (.agg s1), (.c (.int .i64 a8))] h_67)) fun y_96 h_95 => asA y_96 fun l_97 => if 0 ≤ a1 ∧ a1 < ((4 : Nat) : Int) then rdH h_67 k0 N0 fun l_98 => if ((o0 + 4) + ((Int.toNat a1) * 5)) + 5 ≤ l_98.length ∧ l_97.length = 5 then putH h_67 k0 (splice l_98 ((o0 + 4) + ((Int.toNat a1) * 5)) l_97) fun h_99 => atK s3 2 fun q_100 => asI .i64 (.c q_100) fun n_101 => atK s3 3 fun q_102 => asI .i64 (.c q_102) fun n_103 => atK s3 4 fun q_104 => asI .i64 (.c q_104) fun n_105 => atK s3 5 fun q_106 => asI .i64 (.c q_106) fun n_107 => if 0 = 0 ∧ s0.length = 7 ∧ (splice (splice (splice (splice (splice (splice (List.replicate 7 (Cell.int .i64 0)) 1 ([(.int .i64 a1)] : List Cell)) 2 ([(.int .i64 n_101)] : List Cell)) 3 ([(.int .i64 n_103)] : List Cell)) 4 ([(.int .i64 n_105)] : List Cell)) 5 ([(.int .i64 n_107)] : List Cell)) 6 ([(.int .i64 a9)] : List Cell)).length = 7 then if 0 = 0 ∧ (splice (splice (splice (splice (splice (splice (List.replicate 7 (Cell.int .i64 0)) 1 ([(.int .i64 a1)] : List Cell)) 2 ([(.int .i64 n_101)] : List Cell)) 3 ([(.int .i64 n_103)] : List Cell)) 4 ([(.int .i64 n_105)] : List Cell)) 5 ([(.int .i64 n_107)] : List Cell)) 6 ([(.int .i64 a9)] : List Cell)).length = 7 then some ([(.agg (splice (splice (splice (splice (splice (splice (List.replicate 7 (Cell.int .i64 0)) 1 ([(.int .i64 a1)] : List Cell)) 2 ([(.int .i64 n_101)] : List Cell)) 3 ([(.int .i64 n_103)] : List Cell)) 4 ([(.int .i64 n_105)] : List Cell)) 5 ([(.int .i64 n_107)] : List Cell)) 6 ([(.int .i64 a9)] : List Cell)))], h_99) else none else none else none else none else none else none else none := by kernel_rfl
theorem vm_VM_thread_ec1_n (C : CallF) (L : LoopF) (G : Glo) (h0 : AHeap) (k0 : Nat) (N0 : Nat) (o0 : Nat) (a1 : Int) (a8 : Int) (a9 : Int) (s0 : List Cell) (s1 : List Cell) (s2 : List Cell) (h : AHeap) :
    (vm_VM_thread_k2 C L G h0) .normal (vm_VM_thread_c1 k0 N0 o0 a1 a8 a9 s0 s1 s2 h) =
    if 0 = 0 ∧ s2.length = 9 then if 0 = 0 ∧ s1.length = 5 then c2 (C 109 [(.agg s2), (.agg s1), (.c (.int .i64 a8))] h) fun y_29 y_30 h_28 => asA y_29 fun l_31 => asB y_30 fun b_32 => if 0 = 0 ∧ [Cell.int .i64 0, Cell.int .i64 0, Cell.int .i64 0, Cell.int .i64 0, Cell.int .i64 0, Cell.int .i64 0].length = 6 ∧ l_31.length = 6 then (if (!b_32) = true then some (.normal, (vm_VM_thread_c2 k0 N0 o0 a1 a8 (-1) s0 s1 l_31 h_28)) else some (.normal, (vm_VM_thread_c2 k0 N0 o0 a1 a8 a9 s0 s1 l_31 h_28)) : Option (Ex × St)).bind fun p_108 => (vm_VM_thread_k3 C L G h0) p_108.1 p_108.2 else none else none else none := by kernel_rfl
set_option maxRecDepth 100000 in
theorem vm_VM_thread_eq (C : CallF) (L : LoopF) (G : Glo) (k0 : Nat) (N0 : Nat) (o0 : Nat) (a1 : Int) (h0 : AHeap) :
    vm_VM_thread.body C L G [(.c (.ptr k0 N0 o0)), (.c (.int .i64 a1))] h0 =
    if 0 ≤ a1 ∧ a1 < ((4 : Nat) : Int) then rdH h0 k0 N0 fun l_1 => if ((o0 + 4) + ((Int.toNat a1) * 5)) + 5 ≤ l_1.length then if 0 = 0 ∧ [Cell.int .i64 0, Cell.int .i64 0, Cell.int .i64 0, Cell.int .i64 0, Cell.int .i64 0].length = 5 ∧ ((l_1.drop ((o0 + 4) + ((Int.toNat a1) * 5))).take 5).length = 5 then rdH h0 k0 N0 fun l_2 => if (o0 + 0) + 3 ≤ l_2.length then if 0 = 0 ∧ ((l_1.drop ((o0 + 4) + ((Int.toNat a1) * 5))).take 5).length = 5 then c2 (qh h0 (C 105 [(.agg ((l_2.drop (o0 + 0)).take 3)), (.c (.int .i64 a1)), (.agg ((l_1.drop ((o0 + 4) + ((Int.toNat a1) * 5))).take 5))] h0)) fun y_4 y_5 h_3 => asA y_4 fun l_6 => asB y_5 fun b_7 => if 0 = 0 ∧ (List.replicate 9 (Cell.int .i64 0)).length = 9 ∧ l_6.length = 9 then atK l_6 2 fun q_8 => asI .i64 (.c q_8) fun n_9 => if 0 ≤ n_9 ∧ n_9 < ((4 : Nat) : Int) then rdH h0 k0 N0 fun l_10 => atK l_10 ((o0 + 24) + ((Int.toNat n_9) * 1)) fun q_11 => asI .i64 (.c q_11) fun n_12 => atK l_6 2 fun q_13 => asI .i64 (.c q_13) fun n_14 => if 0 ≤ n_14 ∧ n_14 < ((4 : Nat) : Int) then rdH h0 k0 N0 fun l_15 => atK l_15 ((o0 + 28) + ((Int.toNat n_14) * 1)) fun q_16 => asI .i64 (.c q_16) fun n_17 => (if 0 ≤ a1 ∧ a1 < ((4 : Nat) : Int) then rdH h0 k0 N0 fun l_18 => if ((o0 + 32) + ((Int.toNat a1) * 74)) + 74 ≤ l_18.length then atK l_6 2 fun q_19 => asI .i64 (.c q_19) fun n_20 => c3 (qh h0 (C 205 [(.agg ((l_18.drop ((o0 + 32) + ((Int.toNat a1) * 74))).take 74)), (.c (.int .i64 n_20))] h0)) fun y_22 y_23 y_24 h_21 => asI .i64 y_22 fun n_25 => asI .i64 y_23 fun n_26 => asB y_24 fun b_27 => if b_27 = true then some (.normal, (vm_VM_thread_c1 k0 N0 o0 a1 n_25 n_26 (List.replicate 7 (Cell.int .i64 0)) ((l_1.drop ((o0 + 4) + ((Int.toNat a1) * 5))).take 5) l_6 h0)) else some (.normal, (vm_VM_thread_c1 k0 N0 o0 a1 n_12 n_17 (List.replicate 7 (Cell.int .i64 0)) ((l_1.drop ((o0 + 4) + ((Int.toNat a1) * 5))).take 5) l_6 h0)) else none else none : Option (Ex × St)).bind fun p_109 => (vm_VM_thread_k2 C L G h0) p_109.1 p_109.2 else none else none else none else none else none else none else none else none := by kernel_rfl

/- (*jacquard/vm.VM).flush: 194 -/
set_option maxRecDepth 100000 in
theorem vm_VM_flush_eq (C : CallF) (L : LoopF) (G : Glo) (k0 : Nat) (N0 : Nat) (o0 : Nat) (a1 : Int) (a2 : Int) (h0 : AHeap) :
    vm_VM_flush.body C L G [(.c (.ptr k0 N0 o0)), (.c (.int .i64 a1)), (.c (.int .i64 a2))] h0 =
    if 0 ≤ a1 ∧ a1 < ((4 : Nat) : Int) then rdH h0 k0 N0 fun l_1 => if ((o0 + 32) + ((Int.toNat a1) * 74)) + 74 ≤ l_1.length then c4 (C 192 [(.agg ((l_1.drop ((o0 + 32) + ((Int.toNat a1) * 74))).take 74)), (.c (.int .i64 a2))] h0) fun y_3 y_4 y_5 y_6 h_2 => asI .i64 y_3 fun n_7 => asI .i64 y_4 fun n_8 => asI .i64 y_5 fun n_9 => asB y_6 fun b_10 => if 0 ≤ a1 ∧ a1 < ((4 : Nat) : Int) then rdH h_2 k0 N0 fun l_11 => if ((o0 + 32) + ((Int.toNat a1) * 74)) + 74 ≤ l_11.length then c1 (qh h_2 (C 207 [(.agg ((l_11.drop ((o0 + 32) + ((Int.toNat a1) * 74))).take 74)), (.c (.int .i64 a2))] h_2)) fun y_13 h_12 => asA y_13 fun l_14 => if 0 ≤ a1 ∧ a1 < ((4 : Nat) : Int) then rdH h_2 k0 N0 fun l_15 => if ((o0 + 32) + ((Int.toNat a1) * 74)) + 74 ≤ l_15.length ∧ l_14.length = 74 then putH h_2 k0 (splice l_15 ((o0 + 32) + ((Int.toNat a1) * 74)) l_14) fun h_16 => if 0 ≤ n_7 ∧ n_7 < ((4 : Nat) : Int) then rdH h_16 k0 N0 fun l_17 => if ((o0 + 24) + ((Int.toNat n_7) * 1)) < l_17.length then putH h_16 k0 (l_17.set ((o0 + 24) + ((Int.toNat n_7) * 1)) (.int .i64 n_8)) fun h_18 => if 0 ≤ n_7 ∧ n_7 < ((4 : Nat) : Int) then rdH h_18 k0 N0 fun l_19 => if ((o0 + 28) + ((Int.toNat n_7) * 1)) < l_19.length then putH h_18 k0 (l_19.set ((o0 + 28) + ((Int.toNat n_7) * 1)) (.int .i64 n_9)) fun h_20 => if 0 = 0 ∧ (List.replicate 7 (Cell.int .i64 0)).length = 7 ∧ (splice (splice (splice (splice (splice (List.replicate 7 (Cell.int .i64 0)) 1 ([(.int .i64 a1)] : List Cell)) 2 ([(.int .i64 6)] : List Cell)) 3 ([(.int .i64 n_7)] : List Cell)) 5 ([(.int .i64 n_8)] : List Cell)) 6 ([(.int .i64 n_9)] : List Cell)).length = 7 then if 0 = 0 ∧ (splice (splice (splice (splice (splice (List.replicate 7 (Cell.int .i64 0)) 1 ([(.int .i64 a1)] : List Cell)) 2 ([(.int .i64 6)] : List Cell)) 3 ([(.int .i64 n_7)] : List Cell)) 5 ([(.int .i64 n_8)] : List Cell)) 6 ([(.int .i64 n_9)] : List Cell)).length = 7 then some ([(.agg (splice (splice (splice (splice (splice (List.replicate 7 (Cell.int .i64 0)) 1 ([(.int .i64 a1)] : List Cell)) 2 ([(.int .i64 6)] : List Cell)) 3 ([(.int .i64 n_7)] : List Cell)) 5 ([(.int .i64 n_8)] : List Cell)) 6 ([(.int .i64 n_9)] : List Cell)))], h_20) else none else none else none else none else none else none else none else none else none else none else none else none := by kernel_rfl


end Jq

/- A program in memory of its own. -/
namespace Jq
open Go

/-- A program whose rows are all of their own blocks. -/
def ProgO (n : Nat) (h : AHeap) (cs : List Cell) (P : PProg) : Prop :=
  ∃ x y th, cs = [x, y, th] ∧ Own n h x 1 (intC .u8 P.locs) P.locs.length ∧ Own n h y 1 (intC .i64 P.init) P.init.length ∧ RowsOwn 9 codeC n h th P.thr

theorem ProgO.at {n : Nat} {h : AHeap} {cs : List Cell} {P : PProg} (p : ProgO n h cs P) : ProgAt h cs P := by
  obtain ⟨x, y, th, rfl, o1, o2, rr⟩ := p
  obtain ⟨us, u1, u2, u3⟩ := rr.of
  exact ⟨x, y, th, us, rfl, ⟨o1.at, o1.low⟩, ⟨o2.at, o2.low⟩, ⟨u1, u2⟩, u3⟩

section
variable {E : Env}

theorem copied_S (hE : vm_copied_In E) {cs : List Cell} {P : PProg} {h : AHeap} (p : ProgAt h cs P) (hsm : P.small) (hll : P.locs.length ≤ 1000) (hil : P.init.length ≤ 1000) :
    ∃ cs' h', R E 189 [.agg cs] h = some ([.agg cs'], h') ∧ ProgO h.length h' cs' P ∧ Kp h.length h h' := by
  have p0 := p
  obtain ⟨a, b, c, ts, rfl, ⟨ha, hal⟩, ⟨hb, hbl⟩, ⟨hc, hcl⟩, hts⟩ := p
  obtain ⟨x, h1, r1, o1, k1⟩ := slices_Clone_sbyte_byte_R hE.c202 ha hal hll
  obtain ⟨y, h2, r2, o2, k2⟩ := slices_Clone_sint64_int64_R hE.c203 (hb.keep hbl k1) (Low_mono k1.1 hbl) hil
  have k12 : Kp h.length h h2 := k1.trans (k2.mono k1.1)
  have n2 := hsm.1
  obtain ⟨st, ⟨th, h3, rfl, rr, k3⟩, hL⟩ := Lim_inv (F := vm_copied_F1 (R E) Lim E.glob) (fun t st => ∃ th h', st = vm_copied_s1 c P.thr.length (t : Int) [.nils, .nils, .nils] [x, y, th] h' ∧ RowsOwn 9 codeC h2.length h' th (P.thr.take t) ∧ Kp h2.length h2 h') 0 P.thr.length (by omega)
    (fun t st _ ht => by
      rintro ⟨th, h', rfl, rr, kk⟩
      have hq : P.thr[t]? = some P.thr[t] := List.getElem?_eq_getElem ht
      generalize P.thr[t] = code at hq
      have hcl2 := hsm.2 code (List.mem_of_getElem? hq)
      obtain ⟨z, z1, z2, z3⟩ := hts t code hq
      have kh : Kp h.length h h' := k12.trans (kk.mono k12.1)
      obtain ⟨x', h'', c1', c2', c3'⟩ := Clone_R hE.c119 (z2.keep z3 kh) (Low_mono kh.1 z3) hcl2
      obtain ⟨th2, h4, ap, r4, k4, _⟩ := (rr.keep c3').push (c2'.monoN kk.1) (fun k q1 q2 => by have := (c2'.blkLt q1).2; have := (rr.blkLt q2).1; omega) (Nat.le_trans kk.1 c3'.1) (by rw [List.length_take]; omega)
      refine ⟨vm_copied_s1 c P.thr.length ((t + 1 : Nat) : Int) [.nils, .nils, .nils] [x, y, th2] h4, ?_, th2, h4, rfl, by rw [takeI_succ hq]; exact r4, kk.trans ((c3'.mono kk.1).trans k4)⟩
      rw [vm_copied_r1, if_pos (by simp; omega), (hc.keep hcl kh).get1 ht z1, show ∀ {α : Type} (f : Cell → Option α), atK [x, y, th] 2 f = f th from fun _ => rfl, c1', c1_ok, asC_ok, if_pos (show (splice [Cell.nils] 0 ([x'] : List Cell)).length = 1 * 1 from rfl), show splice [Cell.nils] 0 ([x'] : List Cell) = [x'] from rfl, ap, if_pos (by simp), g_succ (by omega)]
      rfl) (st := vm_copied_s1 c P.thr.length ((0 : Nat) : Int) [.nils, .nils, .nils] [x, y, .nils] h2) ⟨.nils, h2, rfl, by rw [List.take_zero]; exact RowsOwn.nil _, Kp.refl _ _⟩
  have e1 : vm_copied_F1 (R E) Lim E.glob (vm_copied_s1 c P.thr.length (P.thr.length : Int) [.nils, .nils, .nils] [x, y, th] h3) = some (.exit 0, vm_copied_x1_1 [.nils, .nils, .nils] [x, y, th] h3) := by
    rw [vm_copied_r1, if_neg (by simp)]
  have hr := hL _ (Lim_exit e1)
  rw [show ((0 : Nat) : Int) = 0 from rfl] at hr
  rw [List.take_of_length_le (Nat.le_refl _)] at rr
  have kx := k2.trans (k3.mono k2.1)
  refine ⟨[x, y, th], h3, R_intro hE.fn ?_, ⟨x, y, th, rfl, o1.keepK kx, (o2.keepK k3).monoN k1.1, by
    obtain ⟨ts, w1, w2⟩ := rr
    exact ⟨ts, w1.monoN k12.1, fun t r hr => by
      obtain ⟨z, z1, z2, z3⟩ := w2 t r hr
      exact ⟨z, z1, z2.monoN k12.1, z3⟩⟩⟩, k12.trans (k3.mono k12.1)⟩
  rw [vm_copied_eq, show ∀ {α : Type} (f : Cell → Option α), atK [a, b, c] 0 f = f a from fun _ => rfl, r1, c1_ok, asC_ok, show ∀ {α : Type} (f : Cell → Option α), atK [a, b, c] 1 f = f b from fun _ => rfl, r2, c1_ok, asC_ok, if_pos (by exact ⟨rfl, rfl, rfl⟩), show ∀ {α : Type} (f : Cell → Option α), atK [a, b, c] 2 f = f c from fun _ => rfl, hc.len]
  refine Eq.trans (congrArg (fun z => Option.bind z _) hr) ?_
  rw [bind_ok]
  dsimp only
  rw [vm_copied_e1_1, if_pos ⟨rfl, rfl⟩, if_pos ⟨rfl, rfl, rfl⟩, if_pos ⟨rfl, rfl⟩]

end
end Jq

/- Machines: how one lies in memory. -/
namespace Jq
open Go

/-- A machine. -/
structure MV where
  P : PProg
  m : Int
  lc : List Lcl
  mem : List Int
  frm : List Int
  bf : List (List Ent)
  st : List Stp

def bmod (m : Int) : Int := if m = 2 ∨ m = 3 then m else 0

def vmC (pc : List Cell) (V : MV) (x : Cell) : List Cell :=
  pc ++ (([.int .i64 V.m] : List Cell) ++ (V.lc.flatMap Lcl.cs ++ (intC .i64 V.mem ++ (intC .i64 V.frm ++ (V.bf.flatMap (bufC (bmod V.m)) ++ [x])))))

/-- It has the shape of one. -/
structure MV.Fit (V : MV) : Prop where
  m : 1 ≤ V.m ∧ V.m ≤ 3
  lc : V.lc.length = 4
  mem : V.mem.length = 4
  frm : V.frm.length = 4
  bf : V.bf.length = 4
  b : ∀ l ∈ V.bf, l.length ≤ 24

section seg
variable {α : Type}

theorem seg_get {a s b : List α} {n m : Nat} (hn : a.length = n) (hm : s.length = m) : ((a ++ (s ++ b)).drop n).take m = s := by
  subst hn hm
  rw [List.drop_append_of_le_length (Nat.le_refl _), List.drop_length, List.nil_append, List.take_append_of_le_length (Nat.le_refl _), List.take_length]

theorem seg_set {a s b s' : List Cell} {n : Nat} (hn : a.length = n) (hm : s.length = s'.length) : splice (a ++ (s ++ b)) n s' = a ++ (s' ++ b) := by
  subst hn
  unfold splice
  rw [List.take_append_of_le_length (Nat.le_refl _), List.take_length, ← hm, ← List.append_assoc a s b, List.drop_append, List.drop_of_length_le (by rw [List.length_append]; exact Nat.le_refl _), List.nil_append,
    show a.length + s.length - (a ++ s).length = 0 by rw [List.length_append]; omega, List.drop_zero, List.append_assoc]

theorem flat_len {f : α → List Cell} {n : Nat} : ∀ {l : List α}, (∀ x ∈ l, (f x).length = n) → (l.flatMap f).length = l.length * n
  | [], _ => by simp
  | x :: l, h => by
    rw [List.flatMap_cons, List.length_append, h x List.mem_cons_self, flat_len fun y hy => h y (List.mem_cons_of_mem _ hy), List.length_cons, Nat.succ_mul]; omega

theorem flat_split {f : α → List Cell} {l : List α} {i : Nat} {x : α} (h : l[i]? = some x) : l.flatMap f = (l.take i).flatMap f ++ (f x ++ (l.drop (i + 1)).flatMap f) := by
  have hi := getI_lt h
  have he : l = l.take i ++ x :: l.drop (i + 1) := by
    rw [List.getElem?_eq_getElem hi] at h
    cases h
    rw [List.getElem_cons_drop, List.take_append_drop]
  conv => lhs; rw [he]
  rw [List.flatMap_append, List.flatMap_cons]

theorem flat_set {f : α → List Cell} {l : List α} {i : Nat} (hi : i < l.length) (y : α) : (l.set i y).flatMap f = (l.take i).flatMap f ++ (f y ++ (l.drop (i + 1)).flatMap f) := by
  have := flat_split (f := f) (l := l.set i y) (i := i) (x := y) (by rw [List.getElem?_set_self hi])
  rw [this, List.take_set_of_le (Nat.le_refl _), List.drop_set_of_lt (by omega)]

theorem take_flat_len {f : α → List Cell} {n : Nat} {l : List α} (hl : ∀ x ∈ l, (f x).length = n) {i : Nat} (hi : i ≤ l.length) : ((l.take i).flatMap f).length = i * n := by
  rw [flat_len fun x hx => hl x (List.mem_of_mem_take hx), List.length_take, Nat.min_eq_left hi]
end seg

theorem MV.Fit.lcs {V : MV} {pc : List Cell} (_ : V.Fit) (_ : pc.length = 3) : ∀ l ∈ V.lc, (Lcl.cs l).length = 5 := fun _ _ => rfl
theorem MV.Fit.bfs {V : MV} {pc : List Cell} (f : V.Fit) (_ : pc.length = 3) : ∀ l ∈ V.bf, (bufC (bmod V.m) l).length = 74 := fun l hl => bufC_len _ (f.b l hl)
theorem vm_prog {V : MV} {pc : List Cell} {x : Cell} (_ : V.Fit) (hpc : pc.length = 3) : ((vmC pc V x).drop (0 + 0)).take 3 = pc := by
  unfold vmC
  exact seg_get (a := []) rfl hpc
theorem vm_m {V : MV} {pc : List Cell} {x : Cell} (_ : V.Fit) (hpc : pc.length = 3) {α : Type} {g : Cell → Option α} : atK (vmC pc V x) (0 + 3) g = g (.int .i64 V.m) := by
  unfold vmC
  refine atK_ok ?_
  rw [List.getElem?_append_right (by omega), hpc]; rfl

section
variable {V : MV} {pc : List Cell} {x : Cell} (f : V.Fit) (hpc : pc.length = 3)
include f hpc

theorem vm_len : (vmC pc V x).length = 329 := by
  have h1 := flat_len (f.lcs hpc)
  have h2 := flat_len (f.bfs hpc)
  have := f.lc; have := f.mem; have := f.frm; have := f.bf
  unfold vmC
  simp only [List.length_append, intC_len, List.length_cons, List.length_nil]
  omega

theorem vm_lensL {t : Nat} {l : Lcl} (h : V.lc[t]? = some l) : ∃ A B : List Cell, vmC pc V x = A ++ (l.cs ++ B) ∧ A.length = (0 + 4) + t * 5 ∧ ∀ l' : Lcl, vmC pc { V with lc := V.lc.set t l' } x = A ++ (l'.cs ++ B) := by
  have hi := getI_lt h
  have e := take_flat_len (f.lcs hpc) (Nat.le_of_lt hi)
  refine ⟨pc ++ (([.int .i64 V.m] : List Cell) ++ (V.lc.take t).flatMap Lcl.cs), (V.lc.drop (t + 1)).flatMap Lcl.cs ++ (intC .i64 V.mem ++ (intC .i64 V.frm ++ (V.bf.flatMap (bufC (bmod V.m)) ++ [x]))), ?_, ?_, fun l' => ?_⟩
  · unfold vmC; rw [flat_split h]; simp only [List.append_assoc]
  · simp only [List.length_append, e, hpc, List.length_cons, List.length_nil]; omega
  · unfold vmC; dsimp only; rw [flat_set hi]; simp only [List.append_assoc]

theorem vm_lensB {t : Nat} {l : List Ent} (h : V.bf[t]? = some l) : ∃ A B : List Cell, vmC pc V x = A ++ (bufC (bmod V.m) l ++ B) ∧ A.length = (0 + 32) + t * 74 ∧ ∀ l' : List Ent, vmC pc { V with bf := V.bf.set t l' } x = A ++ (bufC (bmod V.m) l' ++ B) := by
  have hi := getI_lt h
  have e := take_flat_len (f.bfs hpc) (Nat.le_of_lt hi)
  have e2 := flat_len (f.lcs hpc)
  have := f.lc; have := f.mem; have := f.frm
  refine ⟨pc ++ (([.int .i64 V.m] : List Cell) ++ (V.lc.flatMap Lcl.cs ++ (intC .i64 V.mem ++ (intC .i64 V.frm ++ (V.bf.take t).flatMap (bufC (bmod V.m)))))), (V.bf.drop (t + 1)).flatMap (bufC (bmod V.m)) ++ [x], ?_, ?_, fun l' => ?_⟩
  · unfold vmC; rw [flat_split h]; simp only [List.append_assoc]
  · simp only [List.length_append, e, e2, hpc, List.length_cons, List.length_nil, intC_len]; omega
  · unfold vmC; dsimp only; rw [flat_set hi]; simp only [List.append_assoc]

theorem vm_lensM : ∃ A B : List Cell, vmC pc V x = A ++ (intC .i64 V.mem ++ B) ∧ A.length = 0 + 24 ∧ ∀ l' : List Int, vmC pc { V with mem := l' } x = A ++ (intC .i64 l' ++ B) := by
  have e2 := flat_len (f.lcs hpc)
  have := f.lc
  refine ⟨pc ++ (([.int .i64 V.m] : List Cell) ++ V.lc.flatMap Lcl.cs), intC .i64 V.frm ++ (V.bf.flatMap (bufC (bmod V.m)) ++ [x]), ?_, ?_, fun l' => ?_⟩
  · unfold vmC; simp only [List.append_assoc]
  · simp only [List.length_append, e2, hpc, List.length_cons, List.length_nil]; omega
  · unfold vmC; simp only [List.append_assoc]

theorem vm_lensF : ∃ A B : List Cell, vmC pc V x = A ++ (intC .i64 V.frm ++ B) ∧ A.length = 0 + 28 ∧ ∀ l' : List Int, vmC pc { V with frm := l' } x = A ++ (intC .i64 l' ++ B) := by
  have e2 := flat_len (f.lcs hpc)
  have := f.lc; have := f.mem
  refine ⟨pc ++ (([.int .i64 V.m] : List Cell) ++ (V.lc.flatMap Lcl.cs ++ intC .i64 V.mem)), V.bf.flatMap (bufC (bmod V.m)) ++ [x], ?_, ?_, fun l' => ?_⟩
  · unfold vmC; simp only [List.append_assoc]
  · simp only [List.length_append, e2, hpc, List.length_cons, List.length_nil, intC_len]; omega
  · unfold vmC; simp only [List.append_assoc]

theorem vm_lensX : ∃ A : List Cell, (∀ y, vmC pc V y = A ++ [y]) ∧ A.length = 328 := by
  have h1 := flat_len (f.lcs hpc)
  have h2 := flat_len (f.bfs hpc)
  have := f.lc; have := f.mem; have := f.frm; have := f.bf
  refine ⟨pc ++ (([.int .i64 V.m] : List Cell) ++ (V.lc.flatMap Lcl.cs ++ (intC .i64 V.mem ++ (intC .i64 V.frm ++ V.bf.flatMap (bufC (bmod V.m)))))), fun y => ?_, ?_⟩
  · unfold vmC; simp only [List.append_assoc]
  · simp only [List.length_append, h1, h2, hpc, List.length_cons, List.length_nil, intC_len]; omega

theorem vm_lcl {t : Nat} {l : Lcl} (h : V.lc[t]? = some l) : ((vmC pc V x).drop ((0 + 4) + t * 5)).take 5 = l.cs := by
  obtain ⟨A, B, e, hA, _⟩ := vm_lensL (x := x) f hpc h
  rw [e]; exact seg_get hA rfl

theorem vm_setL {t : Nat} (ht : t < 4) (l : Lcl) : splice (vmC pc V x) ((0 + 4) + t * 5) l.cs = vmC pc { V with lc := V.lc.set t l } x := by
  obtain ⟨A, B, e, hA, h2⟩ := vm_lensL (x := x) f hpc (List.getElem?_eq_getElem (show t < V.lc.length by rw [f.lc]; exact ht))
  rw [e, h2]; exact seg_set hA rfl

theorem vm_buf {t : Nat} {l : List Ent} (h : V.bf[t]? = some l) : ((vmC pc V x).drop ((0 + 32) + t * 74)).take 74 = bufC (bmod V.m) l := by
  obtain ⟨A, B, e, hA, _⟩ := vm_lensB (x := x) f hpc h
  rw [e]; exact seg_get hA (bufC_len _ (f.b _ (List.mem_of_getElem? h)))

theorem vm_setB {t : Nat} (ht : t < 4) {l : List Ent} (hl : l.length ≤ 24) : splice (vmC pc V x) ((0 + 32) + t * 74) (bufC (bmod V.m) l) = vmC pc { V with bf := V.bf.set t l } x := by
  have hq := List.getElem?_eq_getElem (show t < V.bf.length by rw [f.bf]; exact ht)
  obtain ⟨A, B, e, hA, h2⟩ := vm_lensB (x := x) f hpc hq
  rw [e, h2]; exact seg_set hA (by rw [bufC_len _ (f.b _ (List.mem_of_getElem? hq)), bufC_len _ hl])

theorem vm_mem {α : Type} {i : Nat} {v : Int} (h : V.mem[i]? = some v) {g : Cell → Option α} : atK (vmC pc V x) ((0 + 24) + i * 1) g = g (.int .i64 v) := by
  obtain ⟨A, B, e, hA, _⟩ := vm_lensM (x := x) f hpc
  have hi := getI_lt h
  refine atK_ok ?_
  rw [e, List.getElem?_append_right (by omega), List.getElem?_append_left (by rw [intC_len]; omega), show 0 + 24 + i * 1 - A.length = i by omega]
  exact intC_get h

theorem vm_frm {α : Type} {i : Nat} {v : Int} (h : V.frm[i]? = some v) {g : Cell → Option α} : atK (vmC pc V x) ((0 + 28) + i * 1) g = g (.int .i64 v) := by
  obtain ⟨A, B, e, hA, _⟩ := vm_lensF (x := x) f hpc
  have hi := getI_lt h
  refine atK_ok ?_
  rw [e, List.getElem?_append_right (by omega), List.getElem?_append_left (by rw [intC_len]; omega), show 0 + 28 + i * 1 - A.length = i by omega]
  exact intC_get h

theorem vm_setM {i : Nat} (hi : i < 4) (v : Int) : (vmC pc V x).set ((0 + 24) + i * 1) (.int .i64 v) = vmC pc { V with mem := V.mem.set i v } x := by
  obtain ⟨A, B, e, hA, h2⟩ := vm_lensM (x := x) f hpc
  have := f.mem
  rw [e, h2, List.set_append_right _ _ (by omega), List.set_append_left _ _ (by rw [intC_len]; omega), show 0 + 24 + i * 1 - A.length = i by omega]
  unfold intC
  rw [List.map_set]

theorem vm_setF {i : Nat} (hi : i < 4) (v : Int) : (vmC pc V x).set ((0 + 28) + i * 1) (.int .i64 v) = vmC pc { V with frm := V.frm.set i v } x := by
  obtain ⟨A, B, e, hA, h2⟩ := vm_lensF (x := x) f hpc
  have := f.frm
  rw [e, h2, List.set_append_right _ _ (by omega), List.set_append_left _ _ (by rw [intC_len]; omega), show 0 + 28 + i * 1 - A.length = i by omega]
  unfold intC
  rw [List.map_set]

theorem vm_steps {α : Type} {g : Cell → Option α} : atK (vmC pc V x) (0 + 328) g = g x := by
  obtain ⟨A, e, hA⟩ := vm_lensX f hpc
  refine atK_ok ?_
  rw [e, List.getElem?_append_right (by omega), hA]; rfl

theorem vm_setX (y : Cell) : (vmC pc V x).set (0 + 328) y = vmC pc V y := by
  obtain ⟨A, e, hA⟩ := vm_lensX f hpc
  rw [e, e, List.set_append_right _ _ (by omega), hA]; rfl
end

/- What may be picked. -/
def MV.l (V : MV) (t : Nat) : Lcl := V.lc.getD t Lcl.zero
def MV.b (V : MV) (t : Nat) : List Ent := V.bf.getD t []
def MV.nxt (V : MV) (t : Nat) : Option Ins := nextI (V.P.code t) (V.l t)
def MV.mayT (V : MV) (t : Nat) : Bool := match V.nxt t with
  | none => false
  | some i => !(i.kind == 3 || i.kind == 4) || (V.b t).length == 0
def MV.mayF (V : MV) (t : Nat) : Bool := V.m == 2 && !((V.b t).length == 0)
def MV.mayL (V : MV) (t loc : Nat) : Bool := V.m == 3 && ((V.b t).find? (oldP 3 (loc : Int))).isSome
def MV.may (V : MV) (i : Nat) : Bool :=
  if i < 4 then V.mayT i else if i < 8 then V.mayF (i - 4) else if i < 24 then V.mayL ((i - 8) / 4) ((i - 8) % 4) else false

/-- A word of what is so. -/
def wordOf (p : Nat → Bool) : Nat → Nat
  | 0 => 0
  | n + 1 => if p n = true then wordOf p n ||| 2 ^ n else wordOf p n

theorem wordOf_bit (p : Nat → Bool) : ∀ n i, (wordOf p n).testBit i = (decide (i < n) && p i)
  | 0, i => by simp [wordOf]
  | n + 1, i => by
    have ih := wordOf_bit p n i
    rw [wordOf]
    split
    · rename_i hp
      rw [Nat.testBit_or, ih, Nat.testBit_two_pow]
      by_cases h : n = i
      · subst h; simp [hp]
      · rw [decide_eq_false h, Bool.or_false]; congr 1; simp; omega
    · rename_i hp
      rw [ih]
      by_cases h : n = i
      · subst h; simp [hp]
      · congr 1; simp; omega

theorem wordOf_lt (p : Nat → Bool) {n : Nat} (hn : n ≤ 64) : wordOf p n < 2 ^ 64 := by
  refine Nat.lt_pow_two_of_testBit _ fun i hi => ?_
  rw [wordOf_bit, decide_eq_false (by omega)]; rfl

def MV.word (V : MV) : Nat := wordOf V.may 24

theorem MV.may_out {V : MV} {i : Nat} (h : 24 ≤ i) : V.may i = false := by
  unfold MV.may
  rw [if_neg (by omega), if_neg (by omega), if_neg (by omega)]

theorem MV.word_bit (V : MV) (i : Nat) : V.word.testBit i = V.may i := by
  unfold MV.word
  rw [wordOf_bit]
  by_cases h : i < 24
  · rw [decide_eq_true h, Bool.true_and]
  · rw [MV.may_out (by omega), Bool.and_false]

theorem MV.l_at {V : MV} {t : Nat} (h : t < V.lc.length) : V.lc[t]? = some (V.l t) := by
  unfold MV.l; rw [List.getD_eq_getElem?_getD, List.getElem?_eq_getElem h]; rfl
theorem MV.b_at {V : MV} {t : Nat} (h : t < V.bf.length) : V.bf[t]? = some (V.b t) := by
  unfold MV.b; rw [List.getD_eq_getElem?_getD, List.getElem?_eq_getElem h]; rfl
end Jq

/- Machines: what may be picked. -/
namespace Jq
open Go

/-- Which picks have been looked at. -/
def Dn (a b c i : Nat) : Bool := if i < 4 then decide (i < a) else if i < 8 then decide (i - 4 < b) else decide (i - 8 < c)

theorem Dn_t {a b c : Nat} (ha : a < 4) (i : Nat) : Dn (a + 1) b c i = (Dn a b c i || decide (i = a)) := by
  unfold Dn
  rw [Bool.eq_iff_iff]
  split
  · simp; omega
  · split <;> simp <;> omega
theorem Dn_f {a b c : Nat} (hb : b < 4) (i : Nat) : Dn a (b + 1) c i = (Dn a b c i || decide (i = 4 + b)) := by
  unfold Dn
  rw [Bool.eq_iff_iff]
  split
  · simp; omega
  · split <;> simp <;> omega
theorem Dn_l {a b c : Nat} (i : Nat) : Dn a b (c + 1) i = (Dn a b c i || decide (i = 8 + c)) := by
  unfold Dn
  rw [Bool.eq_iff_iff]
  split
  · simp; omega
  · split <;> simp <;> omega

theorem bits_add {M D D' : Nat → Bool} {s p : Nat} (hp : p < 64) (hs : s < 2 ^ 64) (hb : ∀ i, s.testBit i = (M i && D i)) (hD : ∀ i, D' i = (D i || decide (i = p))) :
    (if M p = true then s ||| bitI (p : Int) else s) < 2 ^ 64 ∧ ∀ i, (if M p = true then s ||| bitI (p : Int) else s).testBit i = (M i && D' i) := by
  have e : bitI (p : Int) = 2 ^ p := by unfold bitI; rw [if_pos ⟨by omega, by omega⟩, Int.toNat_natCast]
  have hlt := bitI_lt (p : Int)
  rw [e] at hlt ⊢
  refine ⟨?_, fun i => ?_⟩
  · split
    · exact or_lt hs hlt
    · exact hs
  · rw [hD]
    split
    · rename_i hm
      rw [Nat.testBit_or, hb, Nat.testBit_two_pow]
      by_cases h : p = i
      · subst h; simp [hm]
      · rw [decide_eq_false h, decide_eq_false (fun q => h q.symm)]; simp
    · rename_i hm
      rw [hb]
      by_cases h : p = i
      · subst h; simp [hm]
      · rw [decide_eq_false (fun q => h q.symm)]; simp

section
variable {E : Env}

theorem Enabled_R (hE : vm_VM_Enabled_In E) {h : AHeap} {k : Nat} {x : Cell} {pc : List Cell} {V : MV} (hb : blk? h k = some ⟨true, 0, vmC pc V x⟩) (f : V.Fit) (p : ProgAt h pc V.P) :
    R E 172 [.c (.ptr k 329 0)] h = some ([.c (.int .u64 (V.word : Int))], h) := by
  refine R_intro hE.fn ?_
  have hpc := p.len
  have hl := vm_len (x := x) f hpc
  have rd : ∀ {α : Type} {F : List Cell → Option α}, rdH h k 329 F = F (vmC pc V x) := fun {α F} => rdH_ok hb hl
  have inner : ∀ (t : Nat) (s : Nat), t < 4 → s < 2 ^ 64 → (∀ i, s.testBit i = (V.may i && Dn (t + 1) (t + 1) (4 * t) i)) →
      ∃ s' : Nat, Lim (vm_VM_Enabled_F1 (R E) Lim E.glob) (vm_VM_Enabled_s1 k 329 0 (s : Int) (t : Int) (t : Int) 0 h) = some (.exit 2, vm_VM_Enabled_x1_3 k 329 0 (s' : Int) (t : Int) h) ∧ s' < 2 ^ 64 ∧ ∀ i, s'.testBit i = (V.may i && Dn (t + 1) (t + 1) (4 * (t + 1)) i) := by
    intro t s ht hs hbit
    obtain ⟨st, ⟨s', rfl, hs', hbit'⟩, hL⟩ := Lim_inv (F := vm_VM_Enabled_F1 (R E) Lim E.glob) (fun j st => ∃ s' : Nat, st = vm_VM_Enabled_s1 k 329 0 (s' : Int) (t : Int) (t : Int) (j : Int) h ∧ s' < 2 ^ 64 ∧ ∀ i, s'.testBit i = (V.may i && Dn (t + 1) (t + 1) (4 * t + j) i)) 0 4 (by omega)
      (fun j st _ hj => by
        rintro ⟨s', rfl, hs', hbit'⟩
        obtain ⟨n1, n2⟩ := bits_add (p := 8 + (4 * t + j)) (by omega) hs' hbit' (fun i => Dn_l i)
        have hm : V.may (8 + (4 * t + j)) = V.mayL t j := by
          unfold MV.may
          rw [if_neg (by omega), if_neg (by omega), if_pos (by omega), show (8 + (4 * t + j) - 8) / 4 = t by omega, show (8 + (4 * t + j) - 8) % 4 = j by omega]
        rw [hm] at n1 n2
        refine ⟨vm_VM_Enabled_s1 k 329 0 ((if V.mayL t j = true then s' ||| bitI ((8 + (4 * t + j) : Nat) : Int) else s' : Nat) : Int) (t : Int) (t : Int) ((j + 1 : Nat) : Int) h, ?_, _, rfl, n1, n2⟩
        have hq := MV.b_at (V := V) (t := t) (by rw [f.bf]; exact ht)
        have hbl := f.b _ (List.mem_of_getElem? hq)
        rw [vm_VM_Enabled_r1, if_pos (by simp; omega), if_pos ⟨by omega, by omega⟩, rd, Int.toNat_natCast, if_pos (by rw [hl]; omega), vm_buf f hpc hq, bufOldest_R hE.c192 hbl]
        have key : ∀ (n1 n2 n3 : Int) (b : Bool) (hb : V.m = 3 → b = ((V.b t).find? (oldP 3 (j : Int))).isSome),
            (c4 (some ([AV.c (.int .i64 n1), .c (.int .i64 n2), .c (.int .i64 n3), .c (.bool b)], h)) fun y_39 y_40 y_41 y_42 h_38 => asI .i64 y_39 fun n_43 => asI .i64 y_40 fun n_44 => asI .i64 y_41 fun n_45 => asB y_42 fun b_46 => rdH h_38 k 329 fun l_47 => atK l_47 (0 + 3) fun q_48 => asI .i64 (.c q_48) fun n_49 => scK (n_49 == 3) true (some (b_46, h_38)) false h_38 fun b_50 h_51 => if b_50 = true then let v_52 : Int := (E.glob.wrap .i64 (8 + (E.glob.wrap .i64 (4 * (t : Int))))); c1 (R E 18 [(.c (.int .u64 (s' : Int))), (.c (.int .i64 (E.glob.wrap .i64 (v_52 + (j : Int)))))] h_51) fun y_54 h_53 => asI .u64 y_54 fun n_55 => some (Ex.normal, (vm_VM_Enabled_s1 k 329 0 n_55 t t (E.glob.wrap .i64 ((j : Int) + 1)) h_53)) else some (.normal, (vm_VM_Enabled_s1 k 329 0 (s' : Int) t t (E.glob.wrap .i64 ((j : Int) + 1)) h_51))) =
            some (.normal, vm_VM_Enabled_s1 k 329 0 ((if V.mayL t j = true then s' ||| bitI ((8 + (4 * t + j) : Nat) : Int) else s' : Nat) : Int) (t : Int) (t : Int) ((j + 1 : Nat) : Int) h) := by
          intro n1 n2 n3 b hbb
          rw [c4_ok, asI_ok, asI_ok, asI_ok, asB_ok, rd, vm_m f hpc, asI_ok, scK_and, g_succ (by omega)]
          have e : V.mayL t j = ((V.m == 3) && b) := by
            unfold MV.mayL
            by_cases h3 : V.m = 3
            · rw [hbb h3]
            · rw [beq_false_of_ne h3]; rfl
          rw [e]
          cases hv : ((V.m == 3) && b) with
          | false => rfl
          | true =>
            simp only [if_true]
            rw [g_wrap_i64 (x := 4 * (t : Int)) (by omega) (by omega), g_wrap_i64 (x := 8 + 4 * (t : Int)) (by omega) (by omega), g_wrap_i64 (by omega) (by omega), show (8 + 4 * (t : Int) + (j : Int)) = ((8 + (4 * t + j) : Nat) : Int) by omega, With_R hE.c18 hs', c1_ok, asI_ok]
        have e3 : V.m = 3 → bmod V.m = 3 := fun h => by unfold bmod; rw [h]; rfl
        cases hf : (V.b t).find? (oldP (bmod V.m) (j : Int)) with
        | none => exact key _ _ _ _ fun h3 => by rw [e3 h3] at hf; rw [hf]; rfl
        | some e => exact key _ _ _ _ fun h3 => by rw [e3 h3] at hf; rw [hf]; rfl) (st := vm_VM_Enabled_s1 k 329 0 (s : Int) (t : Int) (t : Int) ((0 : Nat) : Int) h) ⟨s, rfl, hs, hbit⟩
    refine ⟨s', hL _ (Lim_exit ?_), hs', fun i => by rw [hbit', Nat.mul_succ]⟩
    rw [vm_VM_Enabled_r1, if_neg (by simp)]
  obtain ⟨st, ⟨s, rfl, hs, hbit⟩, hL⟩ := Lim_inv (F := vm_VM_Enabled_F2 (R E) Lim E.glob) (fun t st => ∃ s : Nat, st = vm_VM_Enabled_s2 k 329 0 (s : Int) (t : Int) h ∧ s < 2 ^ 64 ∧ ∀ i, s.testBit i = (V.may i && Dn t t (4 * t) i)) 0 4 (by omega)
    (fun t st _ ht => by
      rintro ⟨s, rfl, hs, hbit⟩
      have hq := MV.b_at (V := V) (t := t) (by rw [f.bf]; exact ht)
      have hbl := f.b _ (List.mem_of_getElem? hq)
      have hql := MV.l_at (V := V) (t := t) (by rw [f.lc]; exact ht)
      obtain ⟨a1, a2⟩ := bits_add (p := t) (by omega) hs hbit (fun i => Dn_t ht i)
      have hm1 : V.may t = V.mayT t := by unfold MV.may; rw [if_pos ht]
      rw [hm1] at a1 a2
      obtain ⟨b1, b2⟩ := bits_add (p := 4 + t) (by omega) a1 a2 (fun i => Dn_f ht i)
      have hm2 : V.may (4 + t) = V.mayF t := by unfold MV.may; rw [if_neg (by omega), if_pos (by omega), show 4 + t - 4 = t by omega]
      rw [hm2] at b1 b2
      generalize hs1 : (if V.mayT t = true then s ||| bitI (t : Int) else s) = s1 at *
      generalize hs2 : (if V.mayF t = true then s1 ||| bitI ((4 + t : Nat) : Int) else s1) = s2 at *
      obtain ⟨s3, l1, l2, l3⟩ := inner t s2 ht b1 b2
      refine ⟨vm_VM_Enabled_s2 k 329 0 (s3 : Int) ((t + 1 : Nat) : Int) h, ?_, s3, rfl, l2, l3⟩
      have hr : 0 ≤ (t : Int) ∧ (t : Int) < ((4 : Nat) : Int) := ⟨by omega, by omega⟩
      have h74 : (0 + 32) + t * 74 + 74 ≤ (vmC pc V x).length := by rw [hl]; omega
      have hemp : ∀ {β : Type} (g : Bool → AHeap → Option β), (c1 (R E 191 [(.agg (bufC (bmod V.m) (V.b t)))] h) fun y h' => asB y fun b => g b h') = g ((V.b t).length == 0) h := fun g => by
        rw [bufEmpty_R hE.c191, c1_ok, asB_ok]
      have hk : (vm_VM_Enabled_k6 (R E) Lim E.glob) .normal (vm_VM_Enabled_c1 k 329 0 (s1 : Int) (t : Int) (t : Int) h) = some (.normal, vm_VM_Enabled_s2 k 329 0 (s3 : Int) ((t + 1 : Nat) : Int) h) := by
        have fin : ∀ w : Nat, w = s2 → (Lim (vm_VM_Enabled_F1 (R E) Lim E.glob) (vm_VM_Enabled_s1 k 329 0 (w : Int) (t : Int) (t : Int) 0 h)).bind (fun p_56 => (vm_VM_Enabled_k7 (R E) Lim E.glob) p_56.1 p_56.2) = some (.normal, vm_VM_Enabled_s2 k 329 0 (s3 : Int) ((t + 1 : Nat) : Int) h) := by
          rintro w rfl
          rw [l1, bind_ok]
          dsimp only
          rw [vm_VM_Enabled_e1_3, g_succ (by omega)]
        rw [vm_VM_Enabled_ec1_n, rd, vm_m f hpc, asI_ok]
        simp only [rd, Int.toNat_natCast, if_pos hr, if_pos h74, vm_buf f hpc hq, bufEmpty_R hE.c191, c1_ok, asB_ok, scK_and]
        rw [show (V.m == 2 && !((V.b t).length == 0)) = V.mayF t from rfl]
        cases hv : V.mayF t with
        | false =>
          rw [hv] at hs2
          exact fin s1 hs2
        | true =>
          rw [hv, if_pos rfl] at hs2
          rw [if_pos rfl, g_wrap_i64 (by omega) (by omega), show (4 + (t : Int)) = ((4 + t : Nat) : Int) by omega, With_R hE.c18 a1, c1_ok, asI_ok]
          exact fin _ hs2
      rw [vm_VM_Enabled_r2, if_pos (by simp; omega), rd, if_pos (by rw [hl]; omega), if_pos hr, rd, Int.toNat_natCast, if_pos (by rw [hl]; omega), vm_prog f hpc, vm_lcl f hpc hql, PNext_R hE.c105 p, qh_ok, c2_ok, asA_ok, asB_ok, if_pos (by exact ⟨rfl, rfl, rfl⟩)]
      simp only [ins_kind, asI_ok, scK_or, rd, if_pos hr, if_pos h74, vm_buf f hpc hq, bufEmpty_R hE.c191, c1_ok, asB_ok]
      have step : ∀ b : Bool, b = V.mayT t → ((if b = true then c1 (R E 18 [(.c (.int .u64 (s : Int))), (.c (.int .i64 (t : Int)))] h) fun y_23 h_22 => asI .u64 y_23 fun n_24 => some (Ex.normal, (vm_VM_Enabled_c1 k 329 0 n_24 t t h_22)) else some (.normal, (vm_VM_Enabled_c1 k 329 0 (s : Int) t t h)) : Option (Ex × St)).bind fun p_58 => (vm_VM_Enabled_k6 (R E) Lim E.glob) p_58.1 p_58.2) = some (.normal, vm_VM_Enabled_s2 k 329 0 (s3 : Int) ((t + 1 : Nat) : Int) h) := by
        rintro b rfl
        cases hv : V.mayT t with
        | false =>
          rw [hv] at hs1
          rw [if_neg (by simp), bind_ok]
          rw [if_neg (by simp)] at hs1
          rw [hs1]; exact hk
        | true =>
          rw [hv, if_pos rfl] at hs1
          rw [if_pos rfl, With_R hE.c18 hs, c1_ok, asI_ok, bind_ok, hs1]
          exact hk
      have hT : V.mayT t = match nextI (V.P.code t) (V.l t) with | none => false | some i => !(i.kind == 3 || i.kind == 4) || (V.b t).length == 0 := rfl
      cases hn : nextI (V.P.code t) (V.l t) with
      | none =>
        rw [hn] at hT
        exact step false hT.symm
      | some i =>
        rw [hn] at hT
        dsimp only at hT
        simp only [Option.getD_some, Option.isSome_some]
        cases hkk : (i.kind == 3 || i.kind == 4) with
        | false => exact step true (by rw [hT, hkk]; rfl)
        | true => exact step _ (by rw [hT, hkk])) (st := vm_VM_Enabled_s2 k 329 0 ((0 : Nat) : Int) ((0 : Nat) : Int) h) ⟨0, rfl, by decide, fun i => by
        rw [show Dn 0 0 (4 * 0) i = false by unfold Dn; split <;> (try split) <;> simp, Bool.and_false]; simp⟩
  have hw : s = V.word := by
    refine Nat.eq_of_testBit_eq fun i => ?_
    rw [hbit, MV.word_bit]
    by_cases hi : i < 24
    · rw [show Dn 4 4 (4 * 4) i = true by unfold Dn; split; (· exact decide_eq_true (by omega)); split <;> exact decide_eq_true (by omega), Bool.and_true]
    · rw [MV.may_out (by omega)]; rfl
  subst hw
  have e1 : vm_VM_Enabled_F2 (R E) Lim E.glob (vm_VM_Enabled_s2 k 329 0 (V.word : Int) ((4 : Nat) : Int) h) = some (.exit 0, vm_VM_Enabled_x2_1 (V.word : Int) h) := by
    rw [vm_VM_Enabled_r2, if_neg (by simp)]
  have hr := hL _ (Lim_exit e1)
  rw [show (((0 : Nat) : Int)) = 0 from rfl] at hr
  rw [vm_VM_Enabled_eq, hr, bind_ok]
  dsimp only
  rw [vm_VM_Enabled_e2_1]
end
end Jq

/- Machines: what a thread does, what comes to memory. -/
namespace Jq
open Go

theorem prog_at {n : Nat} {h h' : AHeap} {pc : List Cell} {P : PProg} (p : ProgAt (h.take n) pc P) (hn : n ≤ h.length) (hk : Kp n h h') : ProgAt h' pc P := by
  have hl : (h.take n).length = n := by rw [List.length_take]; omega
  refine p.keep ⟨by rw [hl]; exact Nat.le_trans hn hk.1, fun k hk2 => ?_⟩
  rw [hl] at hk2
  rw [hk.2 k hk2, List.getElem?_take, if_pos hk2]

theorem putB {α : Type} {h : AHeap} {k : Nat} {l : List Cell} (hb : blk? h k = some ⟨true, 0, l⟩) {cs : List Cell} {F : AHeap → Option α} : putH h k cs F = F (setBlk h k (some ⟨true, 0, cs⟩)) := putH_ok hb rfl

/-- What a thread would read, and whose it is. -/
def MV.val (V : MV) (t : Nat) (i : Ins) : Int × Int := match newE i.loc (V.b t) with
  | some e => (e.val, e.id)
  | none => (V.mem.getD i.loc.toNat 0, V.frm.getD i.loc.toNat 0)

/-- What an event does to memory. -/
def MV.wr (V : MV) (t : Nat) (e : Evt) : MV :=
  if e.kind = 2 ∧ V.m ≠ 1 then { V with bf := V.bf.set t (V.b t ++ [⟨e.loc, e.w, V.st.length⟩]) }
  else if evWr e = true then { V with mem := V.mem.set e.loc.toNat e.w, frm := V.frm.set e.loc.toNat V.st.length }
  else V

/-- A thread's next instruction is done. -/
def MV.thrM (V : MV) (t : Nat) (i : Ins) : MV :=
  { V.wr t (evOf i (V.l t) (V.val t i).1) with lc := V.lc.set t (afterL (V.P.code t) (V.l t) (V.val t i).1) }
def MV.thrS (V : MV) (t : Nat) (i : Ins) : Stp :=
  ⟨0, t, (evOf i (V.l t) (V.val t i).1).kind, (evOf i (V.l t) (V.val t i).1).loc, (evOf i (V.l t) (V.val t i).1).r, (evOf i (V.l t) (V.val t i).1).w, if rdI i = true then (V.val t i).2 else -1⟩

theorem evt_kind {α : Type} {e : Evt} {f : Cell → Option α} : atK e.cs 2 f = f (.int .i64 e.kind) := rfl
theorem evt_loc {α : Type} {e : Evt} {f : Cell → Option α} : atK e.cs 3 f = f (.int .i64 e.loc) := rfl
theorem evt_r {α : Type} {e : Evt} {f : Cell → Option α} : atK e.cs 4 f = f (.int .i64 e.r) := rfl
theorem evt_w {α : Type} {e : Evt} {f : Cell → Option α} : atK e.cs 5 f = f (.int .i64 e.w) := rfl

theorem evOf_loc {i : Ins} {l : Lcl} {v : Int} (h : 0 ≤ i.loc ∧ i.loc < 4) : 0 ≤ (evOf i l v).loc ∧ (evOf i l v).loc < 4 := by
  unfold evOf
  split
  · exact h
  · split
    · exact h
    · split
      · split <;> exact h
      · exact ⟨by decide, by decide⟩

section
variable {E : Env}

set_option maxHeartbeats 1000000 in
theorem thread_R' (hE : vm_VM_thread_In E) {n k : Nat} {h : AHeap} {x : Cell} {pc : List Cell} {V : MV} (hb : blk? h k = some ⟨true, 0, vmC pc V x⟩) (f : V.Fit) (hp : ProgAt (h.take n) pc V.P) (hn : n ≤ h.length) (hnk : n ≤ k)
    (hP : V.P.fits) (hx : Own n h x 7 (stepsC V.st) V.st.length) {t : Nat} (ht : t < 4) {i : Ins} (hi : V.nxt t = some i) (hloc : 0 ≤ i.loc ∧ i.loc < 4) (hbl : (V.b t).length < 24) :
    R E 193 [.c (.ptr k 329 0), .c (.int .i64 (t : Int))] h = some ([.agg (V.thrS t i).cs], setBlk h k (some ⟨true, 0, vmC pc (V.thrM t i) x⟩)) := by
  refine R_intro hE.fn ?_
  have hpc := hp.len
  have hl := vm_len (x := x) f hpc
  have rd : ∀ {α : Type} {F : List Cell → Option α}, rdH h k 329 F = F (vmC pc V x) := fun {α F} => rdH_ok hb hl
  have p := prog_at hp hn (Kp.refl n h)
  have hr : 0 ≤ (t : Int) ∧ (t : Int) < ((4 : Nat) : Int) := ⟨by omega, by omega⟩
  have h74 : (0 + 32) + t * 74 + 74 ≤ (vmC pc V x).length := by rw [hl]; omega
  have hq := MV.b_at (V := V) (t := t) (by rw [f.bf]; exact ht)
  have hql := MV.l_at (V := V) (t := t) (by rw [f.lc]; exact ht)
  have hil : 0 ≤ i.loc ∧ i.loc < ((4 : Nat) : Int) := ⟨hloc.1, by omega⟩
  have hi4 : i.loc.toNat < 4 := by omega
  have hmem : V.mem[i.loc.toNat]? = some (V.mem.getD i.loc.toNat 0) := by
    rw [List.getD_eq_getElem?_getD, List.getElem?_eq_getElem (by rw [f.mem]; exact hi4)]; rfl
  have hfrm : V.frm[i.loc.toNat]? = some (V.frm.getD i.loc.toNat 0) := by
    rw [List.getD_eq_getElem?_getD, List.getElem?_eq_getElem (by rw [f.frm]; exact hi4)]; rfl
  have hk : k < h.length := blk_lt' hb
  have hlcs : (Lcl.cs (V.l t)).length = 5 := rfl
  -- what is left when the value is known
  have two : ∀ (v fr : Int), v = (V.val t i).1 → fr = (V.val t i).2 →
      (vm_VM_thread_k2 (R E) Lim E.glob h) .normal (vm_VM_thread_c1 k 329 0 (t : Int) v fr (List.replicate 7 (Cell.int .i64 0)) (V.l t).cs i.cs h) = some ([.agg (V.thrS t i).cs], setBlk h k (some ⟨true, 0, vmC pc (V.thrM t i) x⟩)) := by
    rintro v fr hv hfr
    have three : ∀ a9 : Int, a9 = (if rdI i = true then fr else -1) →
        (vm_VM_thread_k3 (R E) Lim E.glob h) .normal (vm_VM_thread_c2 k 329 0 (t : Int) v a9 (List.replicate 7 (Cell.int .i64 0)) (V.l t).cs (evOf i (V.l t) v).cs h) = some ([.agg (V.thrS t i).cs], setBlk h k (some ⟨true, 0, vmC pc (V.thrM t i) x⟩)) := by
      intro a9 h9
      have hev := evOf_loc (l := V.l t) (v := v) hloc
      have hS : V.thrS t i = ⟨0, t, (evOf i (V.l t) v).kind, (evOf i (V.l t) v).loc, (evOf i (V.l t) v).r, (evOf i (V.l t) v).w, a9⟩ := by unfold MV.thrS; rw [← hv, ← hfr, h9]
      have hM : V.thrM t i = { V.wr t (evOf i (V.l t) v) with lc := V.lc.set t (afterL (V.P.code t) (V.l t) v) } := by unfold MV.thrM; rw [← hv]
      rw [hS, hM]
      generalize evOf i (V.l t) v = e at hev
      have he : 0 ≤ e.loc ∧ e.loc < ((4 : Nat) : Int) := ⟨hev.1, by omega⟩
      have he4 : e.loc.toNat < 4 := by omega
      rw [vm_VM_thread_ec2_n, rd, vm_steps f hpc, hx.at.len, evt_kind, asI_ok]
      simp only [rd, vm_m f hpc, asI_ok, scK_and]
      unfold MV.wr
      by_cases h2 : e.kind = 2 ∧ V.m ≠ 1
      · have hm0 : bmod V.m ≠ 0 := by have := f.m; unfold bmod; rw [if_pos (by omega)]; omega
        rw [if_pos (by rw [Bool.and_eq_true]; exact ⟨beq_iff_eq.2 h2.1, bne_iff_ne.2 h2.2⟩), if_pos h2]
        have hbl2 : (V.b t ++ [(⟨e.loc, e.w, V.st.length⟩ : Ent)]).length ≤ 24 := by rw [List.length_append, List.length_singleton]; omega
        rw [if_pos hr, Int.toNat_natCast, if_pos h74, evt_loc, asI_ok, evt_w, asI_ok, vm_buf f hpc hq, bufPut_R hE.c206 hbl hm0 hev, qh_ok, c1_ok, asA_ok, if_pos hr, if_pos (by exact ⟨h74, bufC_len _ hbl2⟩), vm_setB f hpc ht hbl2, putB hb]
        have fW : MV.Fit { V with bf := V.bf.set t (V.b t ++ [⟨e.loc, e.w, V.st.length⟩]) } := ⟨f.m, f.lc, f.mem, f.frm, by rw [List.length_set]; exact f.bf, fun l hl => by
          rcases List.mem_or_eq_of_mem_set hl with hl | rfl
          · exact f.b l hl
          · exact hbl2⟩
        have hb2 : blk? (setBlk h k (some ⟨true, 0, vmC pc { V with bf := V.bf.set t (V.b t ++ [⟨e.loc, e.w, V.st.length⟩]) } x⟩)) k = some ⟨true, 0, vmC pc { V with bf := V.bf.set t (V.b t ++ [⟨e.loc, e.w, V.st.length⟩]) } x⟩ := blk_set_self hk _
        rw [rdH_ok hb2 (vm_len fW hpc), if_pos (by rw [vm_len fW hpc]; omega), if_pos (by exact ⟨by trivial, rfl⟩), vm_prog fW hpc, PAfter_R hE.c106 hP (prog_at hp hn (Kp.set hnk _)), qh_ok, c1_ok, asA_ok, if_pos hr, rdH_ok hb2 (vm_len fW hpc), if_pos (by exact ⟨by rw [vm_len fW hpc]; omega, rfl⟩)]
        try rw [Int.toNat_natCast]
        rw [vm_setL fW hpc ht, putB hb2]
        simp only [evt_kind, evt_loc, evt_r, evt_w, asI_ok]
        rw [if_pos (by exact ⟨by trivial, rfl, rfl⟩), if_pos (by exact ⟨by trivial, rfl⟩)]
        rw [setBlk_set]
        rfl
      · rw [if_neg (by rw [Bool.and_eq_true]; intro q; exact h2 ⟨beq_iff_eq.1 q.1, bne_iff_ne.1 q.2⟩), if_neg h2, if_pos (by exact ⟨by trivial, rfl⟩), evWrites_R hE.c80, c1_ok, asB_ok]
        cases hw : evWr e with
        | true =>
          rw [if_pos rfl, if_pos rfl]
          simp only [evt_loc, evt_w, asI_ok]
          have fW1 : MV.Fit { V with mem := V.mem.set e.loc.toNat e.w } := ⟨f.m, f.lc, by rw [List.length_set]; exact f.mem, f.frm, f.bf, f.b⟩
          have hb1 : blk? (setBlk h k (some ⟨true, 0, vmC pc { V with mem := V.mem.set e.loc.toNat e.w } x⟩)) k = some ⟨true, 0, vmC pc { V with mem := V.mem.set e.loc.toNat e.w } x⟩ := blk_set_self hk _
          have fW : MV.Fit { V with mem := V.mem.set e.loc.toNat e.w, frm := V.frm.set e.loc.toNat V.st.length } := ⟨f.m, f.lc, by rw [List.length_set]; exact f.mem, by rw [List.length_set]; exact f.frm, f.bf, f.b⟩
          have hb2 : blk? (setBlk h k (some ⟨true, 0, vmC pc { V with mem := V.mem.set e.loc.toNat e.w, frm := V.frm.set e.loc.toNat V.st.length } x⟩)) k = some ⟨true, 0, vmC pc { V with mem := V.mem.set e.loc.toNat e.w, frm := V.frm.set e.loc.toNat V.st.length } x⟩ := blk_set_self hk _
          rw [if_pos he, rd, if_pos (by rw [hl]; omega), vm_setM f hpc he4, putB hb, if_pos he, rdH_ok hb1 (vm_len fW1 hpc), if_pos (by rw [vm_len fW1 hpc]; omega), vm_setF fW1 hpc he4, putB hb1, setBlk_set]
          rw [rdH_ok hb2 (vm_len fW hpc), if_pos (by rw [vm_len fW hpc]; omega), if_pos (by exact ⟨by trivial, rfl⟩), vm_prog fW hpc, PAfter_R hE.c106 hP (prog_at hp hn (Kp.set hnk _)), qh_ok, c1_ok, asA_ok, if_pos hr, rdH_ok hb2 (vm_len fW hpc), if_pos (by exact ⟨by rw [vm_len fW hpc]; omega, rfl⟩)]
          try rw [Int.toNat_natCast]
          rw [vm_setL fW hpc ht, putB hb2]
          simp only [evt_kind, evt_r, asI_ok]
          rw [if_pos (by exact ⟨by trivial, rfl, rfl⟩), if_pos (by exact ⟨by trivial, rfl⟩)]
          rw [setBlk_set]
          rfl
        | false =>
          rw [if_neg (by simp), if_neg (by simp)]
          rw [rdH_ok hb (vm_len f hpc), if_pos (by rw [vm_len f hpc]; omega), if_pos (by exact ⟨by trivial, rfl⟩), vm_prog f hpc, PAfter_R hE.c106 hP (prog_at hp hn (Kp.refl n h)), qh_ok, c1_ok, asA_ok, if_pos hr, rdH_ok hb (vm_len f hpc), if_pos (by exact ⟨by rw [vm_len f hpc]; omega, rfl⟩)]
          try rw [Int.toNat_natCast]
          rw [vm_setL f hpc ht, putB hb]
          simp only [evt_kind, evt_loc, evt_r, evt_w, asI_ok]
          rw [if_pos (by exact ⟨by trivial, rfl, rfl⟩), if_pos (by exact ⟨by trivial, rfl⟩)]
          rfl
    rw [vm_VM_thread_ec1_n, if_pos (by exact ⟨by trivial, rfl⟩), if_pos (by exact ⟨by trivial, rfl⟩), evOf_prog hE.c109, c2_ok, asA_ok, asB_ok, if_pos (by exact ⟨by trivial, rfl, rfl⟩)]
    cases hrd : rdI i with
    | false => exact three (-1) (by rw [hrd]; rfl)
    | true => exact three fr (by rw [hrd]; rfl)
  rw [vm_VM_thread_eq, if_pos hr, rd, Int.toNat_natCast, if_pos (by rw [hl]; omega), vm_lcl f hpc hql, if_pos (by exact ⟨by trivial, rfl, rfl⟩), rd, if_pos (by rw [hl]; omega), if_pos (by exact ⟨by trivial, rfl⟩), vm_prog f hpc, PNext_R hE.c105 p, qh_ok, c2_ok, asA_ok, asB_ok, if_pos (by exact ⟨by trivial, rfl, rfl⟩)]
  rw [show nextI (V.P.code t) (V.l t) = some i from hi]
  simp only [Option.getD_some, ins_loc, asI_ok]
  rw [if_pos hil, rd, vm_mem f hpc hmem, asI_ok, if_pos hil, rd, vm_frm f hpc hfrm, asI_ok, if_pos hr, rd, if_pos h74, vm_buf f hpc hq, bufNewest_R hE.c205 (Nat.le_of_lt hbl)]
  have hv : V.val t i = match newE i.loc (V.b t) with | some e => (e.val, e.id) | none => (V.mem.getD i.loc.toNat 0, V.frm.getD i.loc.toNat 0) := rfl
  cases hnw : newE i.loc (V.b t) with
  | none =>
    rw [hnw] at hv
    dsimp only
    rw [qh_ok, c3_ok, asI_ok, asI_ok, asB_ok, if_neg (by simp), bind_ok]
    exact two _ _ (by rw [hv]) (by rw [hv])
  | some e =>
    rw [hnw] at hv
    dsimp only
    rw [qh_ok, c3_ok, asI_ok, asI_ok, asB_ok, if_pos rfl, bind_ok]
    exact two _ _ (by rw [hv]) (by rw [hv])
end
end Jq

/- Machines: a pick is taken. -/
namespace Jq
open Go

def MV.fluE (V : MV) (t : Nat) (loc : Int) : Ent := ((V.b t).find? (oldP (bmod V.m) loc)).getD ⟨0, 0, 0⟩
def MV.fluM (V : MV) (t : Nat) (loc : Int) : MV :=
  { V with bf := V.bf.set t ((V.b t).eraseP (oldP (bmod V.m) loc)), mem := V.mem.set (V.fluE t loc).loc.toNat (V.fluE t loc).val, frm := V.frm.set (V.fluE t loc).loc.toNat (V.fluE t loc).id }
def MV.fluS (V : MV) (t : Nat) (loc : Int) : Stp := ⟨0, t, 6, (V.fluE t loc).loc, 0, (V.fluE t loc).val, (V.fluE t loc).id⟩

def MV.thrI (V : MV) (t : Nat) : Ins := (V.nxt t).getD Ins.zero
/-- The step of a pick, and how the machine stands behind it. -/
def MV.stp (V : MV) (i : Nat) : Stp :=
  { (if i < 4 then V.thrS i (V.thrI i) else if i < 8 then V.fluS (i - 4) 0 else V.fluS ((i - 8) / 4) (((i - 8) % 4 : Nat) : Int)) with pick := i }
def MV.nx (V : MV) (i : Nat) : MV :=
  { (if i < 4 then V.thrM i (V.thrI i) else if i < 8 then V.fluM (i - 4) 0 else V.fluM ((i - 8) / 4) (((i - 8) % 4 : Nat) : Int)) with st := V.st ++ [V.stp i] }

/-- What stays so from pick to pick. -/
structure MV.Inv (V : MV) : Prop where
  fit : V.Fit
  small : V.P.small
  fld : ∀ c ∈ V.P.thr, ∀ i ∈ c, fldB (hasB V.P) i = true
  locs : V.P.locs.length ≤ 4
  c10 : ∀ c ∈ V.P.thr, c.length ≤ 10
  ents : ∀ b ∈ V.bf, ∀ e ∈ b, 0 ≤ e.loc ∧ e.loc < 4
  pcs : ∀ t, t < 4 → ((V.b t).length : Int) ≤ (V.l t).pc

theorem fldV_loc {P : PProg} (h4 : P.locs.length ≤ 4) {i : Ins} (h : fldB (hasB P) i = true) (hk : 1 ≤ i.kind ∧ i.kind ≤ 4) : 0 ≤ i.loc ∧ i.loc < 4 := by
  unfold fldB hasB at h
  split at h
  · simp at h; omega
  · split at h
    · simp at h; omega
    · split at h
      · have h := of_decide_eq_true h
        unfold Ins.cs at h
        simp at h
        omega
      · split at h
        · simp at h; omega
        · omega

theorem MV.Inv.code10 {V : MV} (v : V.Inv) (t : Int) : (V.P.code t).length ≤ 10 := by
  unfold PProg.code
  split
  · rw [List.getD_eq_getElem?_getD]
    cases hq : V.P.thr[t.toNat]? with
    | none => simp
    | some c => exact v.c10 c (List.mem_of_getElem? hq)
  · simp

theorem MV.Inv.nxt {V : MV} (v : V.Inv) {t : Nat} {i : Ins} (h : V.nxt t = some i) : (0 ≤ i.loc ∧ i.loc < 4) ∧ (1 ≤ i.kind ∧ i.kind ≤ 4) ∧ 0 ≤ (V.l t).pc ∧ (V.l t).pc < 10 ∧ i ∈ V.P.code t := by
  obtain ⟨h1, h2, h3, h4, h5⟩ := nextI_kind h
  have hm : i ∈ V.P.code t := List.mem_of_getElem? h3
  have := v.code10 t
  refine ⟨fldV_loc v.locs ?_ ⟨h4, h5⟩, ⟨h4, h5⟩, h1, by omega, hm⟩
  unfold PProg.code at hm
  split at hm
  · rw [List.getD_eq_getElem?_getD] at hm
    cases hq : V.P.thr[(t : Int).toNat]? with
    | none => rw [hq] at hm; simp at hm
    | some c => rw [hq] at hm; exact v.fld c (List.mem_of_getElem? hq) i hm
  · simp at hm

theorem MV.Inv.blen {V : MV} (v : V.Inv) {t : Nat} (ht : t < 4) : (V.b t).length ≤ 24 := v.fit.b _ (List.mem_of_getElem? (MV.b_at (by rw [v.fit.bf]; exact ht)))

/-- It lies there. -/
structure VmAt (n : Nat) (h : AHeap) (k : Nat) (x : Cell) (pc : List Cell) (V : MV) : Prop where
  hn : n ≤ h.length
  nk : n ≤ k
  prog : ProgAt (h.take n) pc V.P
  blk : blk? h k = some ⟨true, 0, vmC pc V x⟩
  st : Own n h x 7 (stepsC V.st) V.st.length
  sep : ¬ isBlk x k

/-- What a machine's call leaves as it was. -/
structure KpV (n k : Nat) (x x' : Cell) (h h' : AHeap) : Prop where
  kp : Kp n h h'
  old : ∀ j b, blk? h j = some b → j ≠ k → ¬ isBlk x j → blk? h' j = some b ∧ ¬ isBlk x' j

theorem Own.setO {n : Nat} {h : AHeap} {x : Cell} {esz len : Nat} {cs : List Cell} (o : Own n h x esz cs len) {k : Nat} (hk : ¬ isBlk x k) (b : Option Blk) : Own n (setBlk h k b) x esz cs len := by
  refine ⟨o.1, o.2.imp id ?_⟩
  rintro ⟨k', rfl, h1, h2⟩
  exact ⟨k', rfl, h1, by rw [blk_set_ne (fun e => hk e.symm)]; exact h2⟩

theorem MV.word_lt (V : MV) : V.word < 2 ^ 64 := wordOf_lt _ (by omega)

section
variable {E : Env}

theorem flush_R' (hE : vm_VM_flush_In E) {k : Nat} {h : AHeap} {x : Cell} {pc : List Cell} {V : MV} (hb : blk? h k = some ⟨true, 0, vmC pc V x⟩) (v : V.Inv) (hpc : pc.length = 3)
    {t : Nat} (ht : t < 4) {loc : Int} (hf : ((V.b t).find? (oldP (bmod V.m) loc)).isSome = true) :
    R E 194 [.c (.ptr k 329 0), .c (.int .i64 (t : Int)), .c (.int .i64 loc)] h = some ([.agg (V.fluS t loc).cs], setBlk h k (some ⟨true, 0, vmC pc (V.fluM t loc) x⟩)) := by
  refine R_intro hE.fn ?_
  have f := v.fit
  have hl := vm_len (x := x) f hpc
  have rd : ∀ {α : Type} {F : List Cell → Option α}, rdH h k 329 F = F (vmC pc V x) := fun {α F} => rdH_ok hb hl
  have hr : 0 ≤ (t : Int) ∧ (t : Int) < ((4 : Nat) : Int) := ⟨by omega, by omega⟩
  have h74 : (0 + 32) + t * 74 + 74 ≤ (vmC pc V x).length := by rw [hl]; omega
  have hq := MV.b_at (V := V) (t := t) (by rw [f.bf]; exact ht)
  have hbl := v.blen ht
  have hk : k < h.length := blk_lt' hb
  cases he : (V.b t).find? (oldP (bmod V.m) loc) with
  | none => rw [he] at hf; cases hf
  | some e =>
    have hee : V.fluE t loc = e := by unfold MV.fluE; rw [he]; rfl
    have hel := v.ents _ (List.mem_of_getElem? hq) e (List.mem_of_find?_eq_some he)
    have hel' : 0 ≤ e.loc ∧ e.loc < ((4 : Nat) : Int) := ⟨hel.1, by omega⟩
    have he4 : e.loc.toNat < 4 := by omega
    obtain ⟨j, hj⟩ : ∃ j, (V.b t).findIdx? (oldP (bmod V.m) loc) = some j := by
      cases hx : (V.b t).findIdx? (oldP (bmod V.m) loc) with
      | some j => exact ⟨j, rfl⟩
      | none =>
        rw [List.findIdx?_eq_none_iff] at hx
        have := hx e (List.mem_of_find?_eq_some he)
        rw [List.find?_some he] at this; cases this
    have hep : (V.b t).eraseP (oldP (bmod V.m) loc) = (V.b t).eraseIdx j := by rw [List.eraseP_eq_eraseIdx, hj]
    have hlen2 : ((V.b t).eraseIdx j).length ≤ 24 := by rw [List.length_eraseIdx]; split <;> omega
    unfold MV.fluM MV.fluS
    rw [hee, hep]
    have f1 : MV.Fit { V with bf := V.bf.set t ((V.b t).eraseIdx j) } := ⟨f.m, f.lc, f.mem, f.frm, by rw [List.length_set]; exact f.bf, fun l hl => by
      rcases List.mem_or_eq_of_mem_set hl with hl | rfl
      · exact f.b l hl
      · exact hlen2⟩
    have f2 : MV.Fit { V with bf := V.bf.set t ((V.b t).eraseIdx j), mem := V.mem.set e.loc.toNat e.val } := ⟨f1.m, f1.lc, by rw [List.length_set]; exact f1.mem, f1.frm, f1.bf, f1.b⟩
    have b1 : ∀ l, blk? (setBlk h k (some ⟨true, 0, l⟩)) k = some ⟨true, 0, l⟩ := fun l => blk_set_self hk _
    have rd1 : ∀ (W : MV) (fW : W.Fit) {α : Type} {F : List Cell → Option α}, rdH (setBlk h k (some ⟨true, 0, vmC pc W x⟩)) k 329 F = F (vmC pc W x) := fun W fW {α F} => rdH_ok (b1 _) (vm_len fW hpc)
    rw [vm_VM_flush_eq, if_pos hr, rd, Int.toNat_natCast, if_pos h74, vm_buf f hpc hq, bufOldest_R hE.c192 hbl, he]
    dsimp only
    rw [c4_ok, asI_ok, asI_ok, asI_ok, asB_ok, if_pos hr, rd, if_pos h74, vm_buf f hpc hq, bufDrop_R hE.c207 hbl hj, qh_ok, c1_ok, asA_ok, if_pos hr, rd, if_pos ⟨h74, bufC_len _ hlen2⟩, vm_setB f hpc ht hlen2, putB hb,
      if_pos hel', rd1 _ f1, if_pos (by rw [vm_len f1 hpc]; omega), vm_setM f1 hpc he4, putB (b1 _), setBlk_set, if_pos hel', rd1 _ f2, if_pos (by rw [vm_len f2 hpc]; omega), vm_setF f2 hpc he4, putB (b1 _), setBlk_set,
      if_pos (by exact ⟨by trivial, rfl, rfl⟩), if_pos (by exact ⟨by trivial, rfl⟩)]
    rfl

theorem Pick_no (hE : vm_VM_Pick_In E) {n k : Nat} {h : AHeap} {x : Cell} {pc : List Cell} {V : MV} (a : VmAt n h k x pc V) (v : V.Inv) {i : Int} (hi : hasI V.word i = false) :
    R E 173 [.c (.ptr k 329 0), .c (.int .i64 i)] h = some ([.agg (Stp.cs ⟨0, 0, 0, 0, 0, 0, 0⟩), .c (.bool false)], h) := by
  refine R_intro hE.fn ?_
  rw [vm_VM_Pick_eq, Enabled_R hE.c172 a.blk v.fit (prog_at a.prog a.hn (Kp.refl n h)), c1_ok, asI_ok, Has_R hE.c17 V.word_lt, c1_ok, asB_ok, hi, if_pos (by simp), if_pos (by exact ⟨by trivial, rfl, rfl⟩), if_pos (by exact ⟨by trivial, rfl⟩)]
  rfl

theorem MV.may_lt {V : MV} {i : Nat} (h : V.may i = true) : i < 24 := by
  rcases Nat.lt_or_ge i 24 with h1 | h1
  · exact h1
  · rw [MV.may_out h1] at h; cases h

set_option maxHeartbeats 1000000 in
theorem Pick_R (hE : vm_VM_Pick_In E) {n k : Nat} {h : AHeap} {x : Cell} {pc : List Cell} {V : MV} (a : VmAt n h k x pc V) (v : V.Inv) (hst : V.st.length < 100000) {i : Nat} (hi : V.may i = true) :
    ∃ x' h', R E 173 [.c (.ptr k 329 0), .c (.int .i64 (i : Int))] h = some ([.agg (V.stp i).cs, .c (.bool true)], h') ∧ VmAt n h' k x' pc (V.nx i) ∧ KpV n k x x' h h' := by
  have hi24 := MV.may_lt hi
  have f := v.fit
  have hpc := a.prog.len
  have hk : k < h.length := blk_lt' a.blk
  have hb : maxBytes ≥ 200000 * 56 := by unfold maxBytes; omega
  have hfits := v.small.fits
  -- the row of steps goes on
  have push : ∀ (W : MV) (s : Stp), W.Fit → W.P = V.P → W.st = V.st → ∃ x' h', (∀ {α : Type} (F : Cell → AHeap → Option α), appK 7 56 x s.cs (setBlk h k (some ⟨true, 0, vmC pc W x⟩)) F = F x' h') ∧ blk? h' k = some ⟨true, 0, vmC pc W x⟩ ∧
      VmAt n (setBlk h' k (some ⟨true, 0, vmC pc W x'⟩)) k x' pc { W with st := V.st ++ [s] } ∧ KpV n k x x' h (setBlk h' k (some ⟨true, 0, vmC pc W x'⟩)) := by
    intro W s fW hWP hWs
    have b1 : blk? (setBlk h k (some ⟨true, 0, vmC pc W x⟩)) k = some ⟨true, 0, vmC pc W x⟩ := blk_set_self hk _
    obtain ⟨x', h', e1, o1, k1, r1⟩ := (a.st.setO a.sep (some ⟨true, 0, vmC pc W x⟩)).app (bytes := 56) (by rw [setBlk_len]; exact a.hn) (stp_len s) (by omega) (by omega) (by omega)
    obtain ⟨c1, c2⟩ := r1 k _ b1 a.sep
    have kp1 : Kp n h h' := (Kp.set a.nk _).trans k1
    have kp2 : Kp n h (setBlk h' k (some ⟨true, 0, vmC pc W x'⟩)) := kp1.trans (Kp.set a.nk _)
    refine ⟨x', h', e1, c1, ⟨Nat.le_trans a.hn kp2.1, a.nk, ?_, blk_set_self (blk_lt' c1) _, ?_, c2⟩, kp2, fun j b hj hne hnx => ?_⟩
    · have : (setBlk h' k (some ⟨true, 0, vmC pc W x'⟩)).take n = h.take n := by
        refine List.ext_getElem? fun j => ?_
        rw [List.getElem?_take, List.getElem?_take]
        split
        · exact kp2.2 j (by assumption)
        · rfl
      rw [this]
      show ProgAt (h.take n) pc W.P
      rw [hWP]; exact a.prog
    · show Own n _ x' 7 (stepsC (V.st ++ [s])) (V.st ++ [s]).length
      rw [stepsC_snoc, List.length_append, List.length_singleton]
      exact o1.setO c2 _
    · obtain ⟨d1, d2⟩ := r1 j b (by rw [blk_set_ne (fun e => hne e.symm)]; exact hj) hnx
      exact ⟨by rw [blk_set_ne (fun e => hne e.symm)]; exact d1, d2⟩
  have hhas : hasI V.word (i : Int) = true := by rw [hasI_nat (by omega), MV.word_bit, hi]
  have en := Enabled_R hE.c172 a.blk f (prog_at a.prog a.hn (Kp.refl n h))
  have s7 : ∀ s : Stp, (s.cs.set 0 (.int .i64 (i : Int))) = ({ s with pick := i } : Stp).cs := fun _ => rfl
  have s7' : ∀ s : Stp, splice (List.replicate 7 (Cell.int .i64 0)) 0 s.cs = s.cs := fun _ => rfl
  have fluW : ∀ (t : Nat) (loc : Int), t < 4 → (V.fluM t loc).Fit := fun t loc ht => by
    have hbl := v.blen ht
    refine ⟨f.m, f.lc, by show (V.mem.set _ _).length = 4; rw [List.length_set]; exact f.mem, by show (V.frm.set _ _).length = 4; rw [List.length_set]; exact f.frm, by show (V.bf.set _ _).length = 4; rw [List.length_set]; exact f.bf, fun l hl => ?_⟩
    rcases List.mem_or_eq_of_mem_set hl with hl | rfl
    · exact f.b l hl
    · exact Nat.le_trans List.length_eraseP_le hbl
  by_cases h4 : i < 4
  · have hm : V.mayT i = true := by unfold MV.may at hi; rw [if_pos h4] at hi; exact hi
    obtain ⟨q, hq⟩ : ∃ q, V.nxt i = some q := by
      unfold MV.mayT at hm
      cases hq : V.nxt i with
      | none => rw [hq] at hm; cases hm
      | some q => exact ⟨q, rfl⟩
    have hqI : V.thrI i = q := by unfold MV.thrI; rw [hq]; rfl
    obtain ⟨q1, q2, q3, q4, q5⟩ := v.nxt hq
    have hpb := v.pcs i h4
    have th := thread_R' hE.c193 a.blk f a.prog a.hn a.nk hfits a.st h4 hq q1 (by omega)
    have fW : (V.thrM i q).Fit := by
      have hfw : (V.wr i (evOf q (V.l i) (V.val i q).1)).Fit := by
        unfold MV.wr
        split
        · refine ⟨f.m, f.lc, f.mem, f.frm, by rw [List.length_set]; exact f.bf, fun l hl => ?_⟩
          rcases List.mem_or_eq_of_mem_set hl with hl | rfl
          · exact f.b l hl
          · rw [List.length_append, List.length_singleton]; omega
        · split
          · exact ⟨f.m, f.lc, by rw [List.length_set]; exact f.mem, by rw [List.length_set]; exact f.frm, f.bf, f.b⟩
          · exact f
      exact ⟨hfw.m, by show (V.lc.set _ _).length = 4; rw [List.length_set]; exact f.lc, hfw.mem, hfw.frm, hfw.bf, hfw.b⟩
    have hPP : (V.thrM i q).P = V.P := by unfold MV.thrM MV.wr; split <;> (try split) <;> rfl
    have hSS : (V.thrM i q).st = V.st := by unfold MV.thrM MV.wr; split <;> (try split) <;> rfl
    obtain ⟨x', h', e1, c1, c2, c3⟩ := push (V.thrM i q) { V.thrS i q with pick := i } fW hPP hSS
    have e2 : V.stp i = { V.thrS i q with pick := i } := by unfold MV.stp; rw [if_pos h4, hqI]
    have e3 : V.nx i = { V.thrM i q with st := V.st ++ [{ V.thrS i q with pick := i }] } := by unfold MV.nx; rw [if_pos h4, hqI, e2]
    rw [e2, e3]
    have b1 : blk? (setBlk h k (some ⟨true, 0, vmC pc (V.thrM i q) x⟩)) k = some ⟨true, 0, vmC pc (V.thrM i q) x⟩ := blk_set_self hk _
    have l1 := vm_len (x := x) fW hpc
    refine ⟨x', _, R_intro hE.fn ?_, c2, c3⟩
    rw [vm_VM_Pick_eq, en, c1_ok, asI_ok, Has_R hE.c17 V.word_lt, c1_ok, asB_ok, hhas, if_neg (by simp), if_pos (by simp; omega), th, c1_ok, asA_ok, if_pos (by exact ⟨by trivial, rfl, rfl⟩), if_pos (by rw [stp_len]; omega), rdH_ok b1 l1, vm_steps fW hpc]
    simp only [s7, s7', e1]
    rw [if_pos (by exact ⟨by trivial, rfl⟩), if_pos (by exact ⟨rfl, by decide⟩), if_pos (by exact rfl), rdH_ok c1 l1, if_pos (by rw [l1]; omega), vm_setX fW hpc, putB c1, if_pos (by exact ⟨by trivial, rfl⟩), if_pos (by exact ⟨by trivial, rfl, rfl⟩), if_pos (by exact ⟨by trivial, rfl⟩)]
  · have flu : ∀ (t : Nat) (loc : Int), t < 4 → ((V.b t).find? (oldP (bmod V.m) loc)).isSome = true → V.stp i = { V.fluS t loc with pick := i } → V.nx i = { V.fluM t loc with st := V.st ++ [V.stp i] } →
        (((i : Int) < 8 ∧ R E 194 [(.c (.ptr k 329 0)), (.c (.int .i64 (E.glob.wrap .i64 ((i : Int) - 4)))), (.c (.int .i64 0))] h = R E 194 [.c (.ptr k 329 0), .c (.int .i64 (t : Int)), .c (.int .i64 loc)] h) ∨
         (¬ (i : Int) < 8 ∧ R E 194 [(.c (.ptr k 329 0)), (.c (.int .i64 (E.glob.quo .i64 (E.glob.wrap .i64 ((i : Int) - 8)) 4))), (.c (.int .i64 (E.glob.rem .i64 (E.glob.wrap .i64 ((i : Int) - 8)) 4)))] h = R E 194 [.c (.ptr k 329 0), .c (.int .i64 (t : Int)), .c (.int .i64 loc)] h)) →
        ∃ x' h', R E 173 [.c (.ptr k 329 0), .c (.int .i64 (i : Int))] h = some ([.agg (V.stp i).cs, .c (.bool true)], h') ∧ VmAt n h' k x' pc (V.nx i) ∧ KpV n k x x' h h' := by
      intro t loc ht hf e2 e3 hF
      have fW := fluW t loc ht
      have fl := flush_R' hE.c194 a.blk v hpc ht hf
      obtain ⟨x', h', e1, c1, c2, c3⟩ := push (V.fluM t loc) { V.fluS t loc with pick := i } fW rfl rfl
      rw [e3, e2]
      have b1 : blk? (setBlk h k (some ⟨true, 0, vmC pc (V.fluM t loc) x⟩)) k = some ⟨true, 0, vmC pc (V.fluM t loc) x⟩ := blk_set_self hk _
      have l1 := vm_len (x := x) fW hpc
      refine ⟨x', _, R_intro hE.fn ?_, c2, c3⟩
      rw [vm_VM_Pick_eq, en, c1_ok, asI_ok, Has_R hE.c17 V.word_lt, c1_ok, asB_ok, hhas, if_neg (by simp), if_neg (by simp; omega)]
      rcases hF with ⟨h8, hF⟩ | ⟨h8, hF⟩
      · rw [if_pos (decide_eq_true h8), hF]
        rw [fl, c1_ok, asA_ok, if_pos (by exact ⟨by trivial, rfl, rfl⟩), if_pos (by rw [stp_len]; omega), rdH_ok b1 l1, vm_steps fW hpc]
        simp only [s7, s7', e1]
        rw [if_pos (by exact ⟨by trivial, rfl⟩), if_pos (by exact ⟨rfl, by decide⟩), if_pos (by exact rfl), rdH_ok c1 l1, if_pos (by rw [l1]; omega), vm_setX fW hpc, putB c1, if_pos (by exact ⟨by trivial, rfl⟩), if_pos (by exact ⟨by trivial, rfl, rfl⟩), if_pos (by exact ⟨by trivial, rfl⟩)]
      · rw [if_neg (by rw [decide_eq_false h8]; simp), hF]
        rw [fl, c1_ok, asA_ok, if_pos (by exact ⟨by trivial, rfl, rfl⟩), if_pos (by rw [stp_len]; omega), rdH_ok b1 l1, vm_steps fW hpc]
        simp only [s7, s7', e1]
        rw [if_pos (by exact ⟨by trivial, rfl⟩), if_pos (by exact ⟨rfl, by decide⟩), if_pos (by exact rfl), rdH_ok c1 l1, if_pos (by rw [l1]; omega), vm_setX fW hpc, putB c1, if_pos (by exact ⟨by trivial, rfl⟩), if_pos (by exact ⟨by trivial, rfl, rfl⟩), if_pos (by exact ⟨by trivial, rfl⟩)]
    by_cases h8 : i < 8
    · have hm : V.mayF (i - 4) = true := by unfold MV.may at hi; rw [if_neg h4, if_pos h8] at hi; exact hi
      unfold MV.mayF at hm
      rw [Bool.and_eq_true] at hm
      have hm2 : V.m = 2 := beq_iff_eq.1 hm.1
      have hne : (V.b (i - 4)).length ≠ 0 := by simpa using hm.2
      refine flu (i - 4) 0 (by omega) ?_ (by unfold MV.stp; rw [if_neg h4, if_pos h8]) (by unfold MV.nx; rw [if_neg h4, if_pos h8]) (.inl ⟨by omega, ?_⟩)
      · rw [hm2]
        cases hbb : V.b (i - 4) with
        | nil => rw [hbb] at hne; exact absurd rfl hne
        | cons e l => rfl
      · rw [g_wrap_i64 (by omega) (by omega), show ((i : Int) - 4) = ((i - 4 : Nat) : Int) by omega]
    · have hm : V.mayL ((i - 8) / 4) ((i - 8) % 4) = true := by unfold MV.may at hi; rw [if_neg h4, if_neg h8, if_pos hi24] at hi; exact hi
      unfold MV.mayL at hm
      rw [Bool.and_eq_true] at hm
      have hm3 : V.m = 3 := beq_iff_eq.1 hm.1
      refine flu ((i - 8) / 4) (((i - 8) % 4 : Nat) : Int) (by omega) ?_ (by unfold MV.stp; rw [if_neg h4, if_neg h8]) (by unfold MV.nx; rw [if_neg h4, if_neg h8]) (.inr ⟨by omega, ?_⟩)
      · rw [hm3]; exact hm.2
      · rw [g_wrap_i64 (by omega) (by omega), show ((i : Int) - 8) = ((i - 8 : Nat) : Int) by omega, g_quo, g_rem, Int.tdiv_eq_ediv_of_nonneg (by omega), Int.tmod_eq_emod_of_nonneg (by omega),
          show (((i - 8 : Nat) : Int) / 4) = (((i - 8) / 4 : Nat) : Int) by omega, show (((i - 8 : Nat) : Int) % 4) = (((i - 8) % 4 : Nat) : Int) by omega, wrap_i64 (by omega) (by omega)]
end
end Jq

