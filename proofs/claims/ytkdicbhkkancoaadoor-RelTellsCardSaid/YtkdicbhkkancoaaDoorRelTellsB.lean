/- YtkdicbhkkancoaaDoorRelTellsB: a part of the proof; no conditions of its own. -/
import Derived.KernelRfl
import Derived.Test.YtkdicbhkkancoaaDoorRows
import Derived.WalkKit
import Derived.ProofKit
import Derived.OpenShut
import Derived.ShutString
import Derived.ChangeOld
import Derived.Below
import Derived.Carry
import Derived.Test.YtkdicbhkkancoaaDoorCards
import Derived.Test.YtkdicbhkkancoaaDoorTie
import Derived.SevenTiedAt
import Derived.LaidMore
import Derived.Stop.Joined
import Derived.Lib.LaidTab
import Derived.MakeChecks
import Derived.LaidHandle
import Derived.Test.YtkdicbhkkancoaaDoorRelTellsA
set_option linter.unusedVariables false
set_option linter.unusedSimpArgs false

namespace Jq
open Go

/- jacquard/jacquardlaw8.Of: 1 -/
def jacquardlaw8_Of_k2 (C : CallF) (L : LoopF) (G : Glo) (h0 : AHeap) : Ex → St → Option (List AV × AHeap) :=
  kSeq (fun st => jacquardlaw8_Of_p1.exec C L G st (jacquardlaw8_Of.fin G h0)) (jacquardlaw8_Of.fin G h0)
def jacquardlaw8_Of_k3 (C : CallF) (L : LoopF) (G : Glo) (h0 : AHeap) : Ex → St → Option (List AV × AHeap) :=
  kBlk 0 (jacquardlaw8_Of_k2 C L G h0)
def jacquardlaw8_Of_s1 (x1 : Cell) (k7 : Nat) (N7 : Nat) (o7 : Nat) (a8 : Int) (s0 : List Cell) (s1 : List Cell) (s2 : List Cell) (h : AHeap) : St := ⟨[.top, .v (.c x1), .top, .top, .loc 0 0, .loc 1 0, .loc 2 0, .v (.c (.ptr k7 N7 o7)), .v (.c (.int .i64 a8)), .top, .top, .top, .top, .top, .top, .top, .top, .top, .top, .top, .top, .top, .top, .top, .top, .top, .top, .top, .top, .top, .top, .top, .top, .top, .top, .top, .top, .top, .top, .top, .top, .top, .top, .top, .top, .top, .top, .top, .top, .top, .top, .top, .top, .top, .top, .top, .top, .top, .top, .top, .top, .top, .top, .top], [some s0, some s1, some s2], h⟩
def jacquardlaw8_Of_F1 (C : CallF) (L : LoopF) (G : Glo) : St → Option (Ex × St) :=
  roundF (fun st f => jacquardlaw8_Of_b1.exec C L G st f) [1, 4, 5, 6, 7, 8] [0, 1, 2] [(1, [4, 5, 6, 7], [0, 1, 2])]
def jacquardlaw8_Of_x1_1 (k7 : Nat) (N7 : Nat) (o7 : Nat) (s0 : List Cell) (s1 : List Cell) (s2 : List Cell) (h : AHeap) : St := ⟨[.top, .top, .top, .top, .loc 0 0, .loc 1 0, .loc 2 0, .v (.c (.ptr k7 N7 o7)), .top, .top, .top, .top, .top, .top, .top, .top, .top, .top, .top, .top, .top, .top, .top, .top, .top, .top, .top, .top, .top, .top, .top, .top, .top, .top, .top, .top, .top, .top, .top, .top, .top, .top, .top, .top, .top, .top, .top, .top, .top, .top, .top, .top, .top, .top, .top, .top, .top, .top, .top, .top, .top, .top, .top, .top], [some s0, some s1, some s2], h⟩
theorem jacquardlaw8_Of_r1 (C : CallF) (L : LoopF) (G : Glo) (x1 : Cell) (k7 : Nat) (N7 : Nat) (o7 : Nat) (a8 : Int) (s0 : List Cell) (s1 : List Cell) (s2 : List Cell) (h : AHeap) :
    jacquardlaw8_Of_F1 C L G (jacquardlaw8_Of_s1 x1 k7 N7 o7 a8 s0 s1 s2 h) =
    lenK x1 fun n_7 => scK (decide (a8 < n_7)) true (some ((decide (a8 < 200)), h)) false h fun b_8 h_9 => if b_8 = true then idxSK 2 x1 a8 fun k_10 N_11 o_12 => rdH h_9 k_10 N_11 fun l_13 => atK l_13 (o_12 + 0) fun q_14 => asI .i64 (.c q_14) fun n_15 => idxSK 2 x1 a8 fun k_16 N_17 o_18 => rdH h_9 k_16 N_17 fun l_19 => atK l_19 (o_18 + 1) fun q_20 => asI .i64 (.c q_20) fun n_21 => if 0 = 0 ∧ s2.length = 65 then c1 (C 10 [(.agg s2), (.c (.int .i64 n_15)), (.c (.int .i64 n_21))] h_9) fun y_23 h_22 => asA y_23 fun l_24 => if 0 = 0 ∧ s2.length = 65 ∧ l_24.length = 65 then scK (decide (n_15 ≥ 0)) true (rdH h_22 k7 N7 fun l_25 => atK l_25 (o7 + 0) fun q_26 => asI .i64 (.c q_26) fun n_27 => some ((decide (n_15 < n_27)), h_22)) false h_22 fun b_28 h_29 => scK b_28 true (some ((decide (n_21 ≥ 0)), h_29)) false h_29 fun b_30 h_31 => scK b_30 true (rdH h_31 k7 N7 fun l_32 => atK l_32 (o7 + 0) fun q_33 => asI .i64 (.c q_33) fun n_34 => some ((decide (n_21 < n_34)), h_31)) false h_31 fun b_35 h_36 => if b_35 = true then c0 (C 13 [(.c (.ptr k7 N7 o7)), (.c (.int .i64 n_15)), (.c (.int .i64 n_21))] h_36) fun h_37 => some (.normal, (jacquardlaw8_Of_s1 x1 k7 N7 o7 (G.wrap .i64 (a8 + 1)) s0 s1 l_24 h_37)) else some (.normal, (jacquardlaw8_Of_s1 x1 k7 N7 o7 (G.wrap .i64 (a8 + 1)) s0 s1 l_24 h_36)) else none else none else some ((.exit 0), (jacquardlaw8_Of_x1_1 k7 N7 o7 s0 s1 s2 h_9)) := by kernel_rfl
theorem jacquardlaw8_Of_e1_1 (C : CallF) (L : LoopF) (G : Glo) (h0 : AHeap) (k7 : Nat) (N7 : Nat) (o7 : Nat) (s0 : List Cell) (s1 : List Cell) (s2 : List Cell) (h : AHeap) :
    (jacquardlaw8_Of_k3 C L G h0) (.exit 0) (jacquardlaw8_Of_x1_1 k7 N7 o7 s0 s1 s2 h) =
    if 0 = 0 ∧ s2.length = 65 then rdH h k7 N7 fun l_38 => if o7 = 0 ∧ l_38.length = 65 then if 0 = 0 ∧ s0.length = 65 ∧ s2.length = 65 then if 0 = 0 ∧ s1.length = 65 ∧ l_38.length = 65 then if 0 = 0 ∧ s2.length = 65 then if 0 = 0 ∧ l_38.length = 65 then finish true h0 [(.agg s2), (.agg l_38)] h else none else none else none else none else none else none := by kernel_rfl
set_option maxRecDepth 100000 in
theorem jacquardlaw8_Of_eq (C : CallF) (L : LoopF) (G : Glo) (a0 : Int) (x1 : Cell) (h0 : AHeap) :
    jacquardlaw8_Of.body C L G [(.c (.int .i64 a0)), (.c x1)] h0 =
    c1 (C 9 [(.c (.int .i64 a0))] h0) fun y_2 h_1 => asA y_2 fun l_3 => if 0 = 0 ∧ ([Cell.int .i64 0] ++ List.replicate 64 (Cell.int .u64 0)).length = 65 ∧ l_3.length = 65 then let v_4 : Int := (if 64 < (if 0 > a0 then 0 else a0) then 64 else (if 0 > a0 then 0 else a0)); rdH (h_1 ++ [some (Blk.mk true 0 ([Cell.int .i64 0] ++ List.replicate 64 (Cell.int .u64 0)))]) h_1.length (([Cell.int .i64 0] ++ List.replicate 64 (Cell.int .u64 0)).length) fun l_5 => if 0 = 0 ∧ l_5.length = 65 ∧ (splice ([Cell.int .i64 0] ++ List.replicate 64 (Cell.int .u64 0)) 0 ([(.int .i64 v_4)] : List Cell)).length = 65 then putH (h_1 ++ [some (Blk.mk true 0 ([Cell.int .i64 0] ++ List.replicate 64 (Cell.int .u64 0)))]) h_1.length (splice ([Cell.int .i64 0] ++ List.replicate 64 (Cell.int .u64 0)) 0 ([(.int .i64 v_4)] : List Cell)) fun h_6 => (L (jacquardlaw8_Of_F1 C L G) (jacquardlaw8_Of_s1 x1 h_1.length (([Cell.int .i64 0] ++ List.replicate 64 (Cell.int .u64 0)).length) 0 0 ([Cell.int .i64 0] ++ List.replicate 64 (Cell.int .u64 0)) ([Cell.int .i64 0] ++ List.replicate 64 (Cell.int .u64 0)) l_3 h_6)).bind fun p_39 => (jacquardlaw8_Of_k3 C L G h0) p_39.1 p_39.2 else none else none := by kernel_rfl

/- jacquard/jacquardlaw8.awake: 55 -/
set_option maxRecDepth 100000 in
theorem jacquardlaw8_awake_eq (C : CallF) (L : LoopF) (G : Glo)  (h0 : AHeap) :
    jacquardlaw8_awake.body C L G [] h0 =
    c1 (C 9 [(.c (.int .i64 3))] h0) fun y_2 h_1 => asA y_2 fun l_3 => c1 (C 10 [(.agg l_3), (.c (.int .i64 0)), (.c (.int .i64 1))] h_1) fun y_5 h_4 => asA y_5 fun l_6 => c1 (C 10 [(.agg l_6), (.c (.int .i64 1)), (.c (.int .i64 2))] h_4) fun y_8 h_7 => asA y_8 fun l_9 => if 0 = 0 ∧ ([Cell.int .i64 0] ++ List.replicate 64 (Cell.int .u64 0)).length = 65 ∧ l_9.length = 65 then if 0 = 0 ∧ l_9.length = 65 then c1 (C 12 [(.agg l_9)] h_7) fun y_11 h_10 => asA y_11 fun l_12 => c1 (C 3 [(.agg l_12), (.c (.int .i64 0)), (.c (.int .i64 2))] h_10) fun y_14 h_13 => asB y_14 fun b_15 => scK b_15 true (if 0 = 0 ∧ l_9.length = 65 then c1 (C 3 [(.agg l_9), (.c (.int .i64 0)), (.c (.int .i64 2))] h_13) fun y_17 h_16 => asB y_17 fun b_18 => some ((!b_18), h_16) else none) false h_13 fun b_19 h_20 => scK b_19 true (if 0 = 0 ∧ l_9.length = 65 then c1 (C 26 [(.agg l_9)] h_20) fun y_22 h_21 => asB y_22 fun b_23 => some (b_23, h_21) else none) false h_20 fun b_24 h_25 => scK b_24 true (if 0 = 0 ∧ l_9.length = 65 then c1 (C 10 [(.agg l_9), (.c (.int .i64 2)), (.c (.int .i64 0))] h_25) fun y_27 h_26 => asA y_27 fun l_28 => c1 (C 26 [(.agg l_28)] h_26) fun y_30 h_29 => asB y_30 fun b_31 => some ((!b_31), h_29) else none) false h_25 fun b_32 h_33 => scK b_32 true (if 0 = 0 ∧ l_9.length = 65 then c1 (C 14 [(.agg l_9)] h_33) fun y_35 h_34 => asI .i64 y_35 fun n_36 => some ((n_36 == 3), h_34) else none) false h_33 fun b_37 h_38 => some ([(.c (.bool b_37))], h_38) else none else none := by kernel_rfl

/- jacquard/jacquardlaw8.Same: 69 -/
def jacquardlaw8_Same_k2 (C : CallF) (L : LoopF) (G : Glo) (h0 : AHeap) : Ex → St → Option (List AV × AHeap) :=
  kSeq (fun st => jacquardlaw8_Same_p1.exec C L G st (jacquardlaw8_Same.fin G h0)) (jacquardlaw8_Same.fin G h0)
def jacquardlaw8_Same_k3 (C : CallF) (L : LoopF) (G : Glo) (h0 : AHeap) : Ex → St → Option (List AV × AHeap) :=
  kBlk 0 (jacquardlaw8_Same_k2 C L G h0)
def jacquardlaw8_Same_s1 (a5 : Int) (s0 : List Cell) (s1 : List Cell) (h : AHeap) : St := ⟨[.top, .top, .loc 0 0, .loc 1 0, .top, .v (.c (.int .i64 a5)), .top, .top, .top, .top, .top, .top, .top, .top, .top, .top, .top, .top, .top, .top, .top, .top, .top], [some s0, some s1], h⟩
def jacquardlaw8_Same_F1 (C : CallF) (L : LoopF) (G : Glo) : St → Option (Ex × St) :=
  roundF (fun st f => jacquardlaw8_Same_b1.exec C L G st f) [2, 3, 5] [0, 1] [(0, [4], []), (1, [], [])]
def jacquardlaw8_Same_x1_0 (b4 : Bool) (h : AHeap) : St := ⟨[.top, .top, .top, .top, .v (.c (.bool b4)), .top, .top, .top, .top, .top, .top, .top, .top, .top, .top, .top, .top, .top, .top, .top, .top, .top, .top], [none, none], h⟩
def jacquardlaw8_Same_x1_1 (h : AHeap) : St := ⟨[.top, .top, .top, .top, .top, .top, .top, .top, .top, .top, .top, .top, .top, .top, .top, .top, .top, .top, .top, .top, .top, .top, .top], [none, none], h⟩
theorem jacquardlaw8_Same_r1 (C : CallF) (L : LoopF) (G : Glo) (a5 : Int) (s0 : List Cell) (s1 : List Cell) (h : AHeap) :
    jacquardlaw8_Same_F1 C L G (jacquardlaw8_Same_s1 a5 s0 s1 h) =
    if (decide (a5 < 64)) = true then if 0 = 0 ∧ s0.length = 65 then c1 (qh h (C 41 [(.agg s0), (.c (.int .i64 a5))] h)) fun y_7 h_6 => asI .u64 y_7 fun n_8 => if 0 ≤ a5 ∧ a5 < ((64 : Nat) : Int) then atK s1 (1 + ((Int.toNat a5) * 1)) fun q_9 => asI .u64 (.c q_9) fun n_10 => if (n_8 != n_10) = true then some (.ret, (jacquardlaw8_Same_x1_0 false h)) else some (.normal, (jacquardlaw8_Same_s1 (G.wrap .i64 (a5 + 1)) s0 s1 h)) else none else none else some ((.exit 0), (jacquardlaw8_Same_x1_1 h)) := by kernel_rfl
theorem jacquardlaw8_Same_e1_0 (C : CallF) (L : LoopF) (G : Glo) (h0 : AHeap) (b4 : Bool) (h : AHeap) :
    (jacquardlaw8_Same_k3 C L G h0) .ret (jacquardlaw8_Same_x1_0 b4 h) =
    some ([(.c (.bool b4))], h) := by kernel_rfl
theorem jacquardlaw8_Same_e1_1 (C : CallF) (L : LoopF) (G : Glo) (h0 : AHeap) (h : AHeap) :
    (jacquardlaw8_Same_k3 C L G h0) (.exit 0) (jacquardlaw8_Same_x1_1 h) =
    some ([(.c (.bool true))], h) := by kernel_rfl
set_option maxRecDepth 100000 in
theorem jacquardlaw8_Same_eq (C : CallF) (L : LoopF) (G : Glo) (l0 : List Cell) (l1 : List Cell) (h0 : AHeap) :
    jacquardlaw8_Same.body C L G [(.agg l0), (.agg l1)] h0 =
    if 0 = 0 ∧ l0.length = 65 then c1 (qh h0 (C 14 [(.agg l0)] h0)) fun y_2 h_1 => asI .i64 y_2 fun n_3 => atK l1 0 fun q_4 => asI .i64 (.c q_4) fun n_5 => if (n_3 != n_5) = true then some ([(.c (.bool false))], h0) else (L (jacquardlaw8_Same_F1 C L G) (jacquardlaw8_Same_s1 0 l0 l1 h0)).bind fun p_11 => (jacquardlaw8_Same_k3 C L G h0) p_11.1 p_11.2 else none := by kernel_rfl

/- jacquard/jacquardlaw8.cut: 70 -/
def jacquardlaw8_cut_k2 (C : CallF) (L : LoopF) (G : Glo) (h0 : AHeap) : Ex → St → Option (List AV × AHeap) :=
  kSeq (fun st => jacquardlaw8_cut_p1.exec C L G st (jacquardlaw8_cut.fin G h0)) (jacquardlaw8_cut.fin G h0)
def jacquardlaw8_cut_k3 (C : CallF) (L : LoopF) (G : Glo) (h0 : AHeap) : Ex → St → Option (List AV × AHeap) :=
  kBlk 0 (jacquardlaw8_cut_k2 C L G h0)
def jacquardlaw8_cut_s2 (k2 : Nat) (N2 : Nat) (o2 : Nat) (k5 : Nat) (N5 : Nat) (o5 : Nat) (a6 : Int) (s0 : List Cell) (h : AHeap) : St := ⟨[.top, .top, .v (.c (.ptr k2 N2 o2)), .top, .loc 0 0, .v (.c (.ptr k5 N5 o5)), .v (.c (.int .i64 a6)), .top, .top, .top, .top, .top, .top, .top, .top, .top, .top, .top, .top, .top, .top, .top, .top, .top, .top, .top, .top, .top, .top, .top, .top, .top], [some s0], h⟩
def jacquardlaw8_cut_F2 (C : CallF) (L : LoopF) (G : Glo) : St → Option (Ex × St) :=
  roundF (fun st f => jacquardlaw8_cut_b2.exec C L G st f) [2, 4, 5, 6] [0] [(1, [4, 5], [0])]
def jacquardlaw8_cut_k4 (C : CallF) (L : LoopF) (G : Glo) : Ex → St → Option (Ex × St) :=
  kSeq (fun st => jacquardlaw8_cut_p2.exec C L G st (kLoop [2, 4, 5, 6] [0] [(1, [4, 5], [0])])) (kLoop [2, 4, 5, 6] [0] [(1, [4, 5], [0])])
def jacquardlaw8_cut_k5 (C : CallF) (L : LoopF) (G : Glo) : Ex → St → Option (Ex × St) :=
  kBlk 1 (jacquardlaw8_cut_k4 C L G)
def jacquardlaw8_cut_k6 (C : CallF) (L : LoopF) (G : Glo) : Ex → St → Option (Ex × St) :=
  kBlk 2 (jacquardlaw8_cut_k5 C L G)
def jacquardlaw8_cut_s1 (k2 : Nat) (N2 : Nat) (o2 : Nat) (k5 : Nat) (N5 : Nat) (o5 : Nat) (a6 : Int) (a7 : Int) (s0 : List Cell) (h : AHeap) : St := ⟨[.top, .top, .v (.c (.ptr k2 N2 o2)), .top, .loc 0 0, .v (.c (.ptr k5 N5 o5)), .v (.c (.int .i64 a6)), .v (.c (.int .i64 a7)), .top, .top, .top, .top, .top, .top, .top, .top, .top, .top, .top, .top, .top, .top, .top, .top, .top, .top, .top, .top, .top, .top, .top, .top], [some s0], h⟩
def jacquardlaw8_cut_F1 (C : CallF) (L : LoopF) (G : Glo) : St → Option (Ex × St) :=
  roundF (fun st f => jacquardlaw8_cut_b1.exec C L G st f) [2, 4, 5, 6, 7] [0] [(3, [2, 4, 5, 6], [0])]
def jacquardlaw8_cut_x1_3 (k2 : Nat) (N2 : Nat) (o2 : Nat) (k5 : Nat) (N5 : Nat) (o5 : Nat) (a6 : Int) (s0 : List Cell) (h : AHeap) : St := ⟨[.top, .top, .v (.c (.ptr k2 N2 o2)), .top, .loc 0 0, .v (.c (.ptr k5 N5 o5)), .v (.c (.int .i64 a6)), .top, .top, .top, .top, .top, .top, .top, .top, .top, .top, .top, .top, .top, .top, .top, .top, .top, .top, .top, .top, .top, .top, .top, .top, .top], [some s0], h⟩
def jacquardlaw8_cut_x2_1 (k5 : Nat) (N5 : Nat) (o5 : Nat) (s0 : List Cell) (h : AHeap) : St := ⟨[.top, .top, .top, .top, .loc 0 0, .v (.c (.ptr k5 N5 o5)), .top, .top, .top, .top, .top, .top, .top, .top, .top, .top, .top, .top, .top, .top, .top, .top, .top, .top, .top, .top, .top, .top, .top, .top, .top, .top], [some s0], h⟩
theorem jacquardlaw8_cut_r1 (C : CallF) (L : LoopF) (G : Glo) (k2 : Nat) (N2 : Nat) (o2 : Nat) (k5 : Nat) (N5 : Nat) (o5 : Nat) (a6 : Int) (a7 : Int) (s0 : List Cell) (h : AHeap) :
    jacquardlaw8_cut_F1 C L G (jacquardlaw8_cut_s1 k2 N2 o2 k5 N5 o5 a6 a7 s0 h) =
    rdH h k5 N5 fun l_9 => atK l_9 (o5 + 0) fun q_10 => asI .i64 (.c q_10) fun n_11 => if (decide (a7 < n_11)) = true then c1 (C 7 [(.c (.ptr k2 N2 o2)), (.c (.int .i64 a6)), (.c (.int .i64 a7))] h) fun y_13 h_12 => asB y_13 fun b_14 => if b_14 = true then c0 (C 13 [(.c (.ptr k5 N5 o5)), (.c (.int .i64 a6)), (.c (.int .i64 a7))] h_12) fun h_15 => some (.normal, (jacquardlaw8_cut_s1 k2 N2 o2 k5 N5 o5 a6 (G.wrap .i64 (a7 + 1)) s0 h_15)) else some (.normal, (jacquardlaw8_cut_s1 k2 N2 o2 k5 N5 o5 a6 (G.wrap .i64 (a7 + 1)) s0 h_12)) else some ((.exit 2), (jacquardlaw8_cut_x1_3 k2 N2 o2 k5 N5 o5 a6 s0 h)) := by kernel_rfl
theorem jacquardlaw8_cut_e1_3 (C : CallF) (L : LoopF) (G : Glo) (k2 : Nat) (N2 : Nat) (o2 : Nat) (k5 : Nat) (N5 : Nat) (o5 : Nat) (a6 : Int) (s0 : List Cell) (h : AHeap) :
    (jacquardlaw8_cut_k6 C L G) (.exit 2) (jacquardlaw8_cut_x1_3 k2 N2 o2 k5 N5 o5 a6 s0 h) =
    some (.normal, (jacquardlaw8_cut_s2 k2 N2 o2 k5 N5 o5 (G.wrap .i64 (a6 + 1)) s0 h)) := by kernel_rfl
theorem jacquardlaw8_cut_r2 (C : CallF) (L : LoopF) (G : Glo) (k2 : Nat) (N2 : Nat) (o2 : Nat) (k5 : Nat) (N5 : Nat) (o5 : Nat) (a6 : Int) (s0 : List Cell) (h : AHeap) :
    jacquardlaw8_cut_F2 C L G (jacquardlaw8_cut_s2 k2 N2 o2 k5 N5 o5 a6 s0 h) =
    rdH h k5 N5 fun l_6 => atK l_6 (o5 + 0) fun q_7 => asI .i64 (.c q_7) fun n_8 => if (decide (a6 < n_8)) = true then (L (jacquardlaw8_cut_F1 C L G) (jacquardlaw8_cut_s1 k2 N2 o2 k5 N5 o5 a6 0 s0 h)).bind fun p_16 => (jacquardlaw8_cut_k6 C L G) p_16.1 p_16.2 else some ((.exit 0), (jacquardlaw8_cut_x2_1 k5 N5 o5 s0 h)) := by kernel_rfl
theorem jacquardlaw8_cut_e2_1 (C : CallF) (L : LoopF) (G : Glo) (h0 : AHeap) (k5 : Nat) (N5 : Nat) (o5 : Nat) (s0 : List Cell) (h : AHeap) :
    (jacquardlaw8_cut_k3 C L G h0) (.exit 0) (jacquardlaw8_cut_x2_1 k5 N5 o5 s0 h) =
    rdH h k5 N5 fun l_17 => if o5 = 0 ∧ l_17.length = 65 then if 0 = 0 ∧ s0.length = 65 ∧ l_17.length = 65 then if 0 = 0 ∧ l_17.length = 65 then finish true h0 [(.agg l_17)] h else none else none else none := by kernel_rfl
set_option maxRecDepth 100000 in
theorem jacquardlaw8_cut_eq (C : CallF) (L : LoopF) (G : Glo) (l0 : List Cell) (a1 : Int) (h0 : AHeap) :
    jacquardlaw8_cut.body C L G [(.agg l0), (.c (.int .i64 a1))] h0 =
    rdH (h0 ++ [some (Blk.mk true 0 (AV.cells (.agg l0)))]) h0.length ((AV.cells (.agg l0)).length) fun l_1 => atK l_1 0 fun q_2 => asI .i64 (.c q_2) fun n_3 => rdH ((h0 ++ [some (Blk.mk true 0 (AV.cells (.agg l0)))]) ++ [some (Blk.mk true 0 ([Cell.int .i64 0] ++ List.replicate 64 (Cell.int .u64 0)))]) ((h0 ++ [some (Blk.mk true 0 (AV.cells (.agg l0)))]).length) (([Cell.int .i64 0] ++ List.replicate 64 (Cell.int .u64 0)).length) fun l_4 => if 0 = 0 ∧ l_4.length = 65 ∧ (splice ([Cell.int .i64 0] ++ List.replicate 64 (Cell.int .u64 0)) 0 ([(.int .i64 (if a1 < n_3 then a1 else n_3))] : List Cell)).length = 65 then putH ((h0 ++ [some (Blk.mk true 0 (AV.cells (.agg l0)))]) ++ [some (Blk.mk true 0 ([Cell.int .i64 0] ++ List.replicate 64 (Cell.int .u64 0)))]) ((h0 ++ [some (Blk.mk true 0 (AV.cells (.agg l0)))]).length) (splice ([Cell.int .i64 0] ++ List.replicate 64 (Cell.int .u64 0)) 0 ([(.int .i64 (if a1 < n_3 then a1 else n_3))] : List Cell)) fun h_5 => (L (jacquardlaw8_cut_F2 C L G) (jacquardlaw8_cut_s2 h0.length ((AV.cells (.agg l0)).length) 0 ((h0 ++ [some (Blk.mk true 0 (AV.cells (.agg l0)))]).length) (([Cell.int .i64 0] ++ List.replicate 64 (Cell.int .u64 0)).length) 0 0 ([Cell.int .i64 0] ++ List.replicate 64 (Cell.int .u64 0)) h_5)).bind fun p_18 => (jacquardlaw8_cut_k3 C L G h0) p_18.1 p_18.2 else none := by kernel_rfl

/- jacquard/jacquardlaw8.RelPairs: 240 -/
def jacquardlaw8_RelPairs_k2 (C : CallF) (L : LoopF) (G : Glo) (h0 : AHeap) : Ex → St → Option (List AV × AHeap) :=
  kSeq (fun st => jacquardlaw8_RelPairs_p1.exec C L G st (jacquardlaw8_RelPairs.fin G h0)) (jacquardlaw8_RelPairs.fin G h0)
def jacquardlaw8_RelPairs_k3 (C : CallF) (L : LoopF) (G : Glo) (h0 : AHeap) : Ex → St → Option (List AV × AHeap) :=
  kBlk 0 (jacquardlaw8_RelPairs_k2 C L G h0)
def jacquardlaw8_RelPairs_s2 (a0 : Int) (k6 : Nat) (N6 : Nat) (o6 : Nat) (x7 : Cell) (a8 : Int) (a9 : Int) (s0 : List Cell) (h : AHeap) : St := ⟨[.v (.c (.int .i64 a0)), .top, .top, .top, .top, .loc 0 0, .v (.c (.ptr k6 N6 o6)), .v (.c x7), .v (.c (.int .i64 a8)), .v (.c (.int .i64 a9)), .top, .top, .top, .top, .top, .top, .top, .top, .top, .top, .top, .top, .top, .top, .top, .top, .top, .top, .top, .top, .top, .top, .top, .top, .top, .top, .top, .top, .top, .top, .top, .top, .top, .top, .top, .top, .top, .top, .top, .top, .top, .top, .top, .top, .top, .top, .top, .top, .top, .top, .top, .top, .top, .top, .top, .top, .top, .top, .top, .top, .top, .top, .top, .top, .top, .top, .top, .top, .top, .top, .top, .top, .top, .top, .top, .top, .top, .top, .top, .top, .top, .top, .top, .top, .top, .top, .top, .top, .top, .top, .top, .top, .top, .top], [some s0, none, none], h⟩
def jacquardlaw8_RelPairs_F2 (C : CallF) (L : LoopF) (G : Glo) : St → Option (Ex × St) :=
  roundF (fun st f => jacquardlaw8_RelPairs_b2.exec C L G st f) [0, 5, 6, 7, 8, 9] [0] [(0, [4], []), (1, [0, 5, 7, 8], [0])]
def jacquardlaw8_RelPairs_k4 (C : CallF) (L : LoopF) (G : Glo) : Ex → St → Option (Ex × St) :=
  kSeq (fun st => jacquardlaw8_RelPairs_p2.exec C L G st (kLoop [0, 5, 6, 7, 8, 9] [0] [(0, [4], []), (1, [0, 5, 7, 8], [0])])) (kLoop [0, 5, 6, 7, 8, 9] [0] [(0, [4], []), (1, [0, 5, 7, 8], [0])])
def jacquardlaw8_RelPairs_k5 (C : CallF) (L : LoopF) (G : Glo) : Ex → St → Option (Ex × St) :=
  kBlk 1 (jacquardlaw8_RelPairs_k4 C L G)
def jacquardlaw8_RelPairs_k6 (C : CallF) (L : LoopF) (G : Glo) : Ex → St → Option (Ex × St) :=
  kBlk 2 (jacquardlaw8_RelPairs_k5 C L G)
def jacquardlaw8_RelPairs_s1 (a0 : Int) (k6 : Nat) (N6 : Nat) (o6 : Nat) (x7 : Cell) (a8 : Int) (a9 : Int) (a10 : Int) (s0 : List Cell) (h : AHeap) : St := ⟨[.v (.c (.int .i64 a0)), .top, .top, .top, .top, .loc 0 0, .v (.c (.ptr k6 N6 o6)), .v (.c x7), .v (.c (.int .i64 a8)), .v (.c (.int .i64 a9)), .v (.c (.int .i64 a10)), .top, .top, .top, .top, .top, .top, .top, .top, .top, .top, .top, .top, .top, .top, .top, .top, .top, .top, .top, .top, .top, .top, .top, .top, .top, .top, .top, .top, .top, .top, .top, .top, .top, .top, .top, .top, .top, .top, .top, .top, .top, .top, .top, .top, .top, .top, .top, .top, .top, .top, .top, .top, .top, .top, .top, .top, .top, .top, .top, .top, .top, .top, .top, .top, .top, .top, .top, .top, .top, .top, .top, .top, .top, .top, .top, .top, .top, .top, .top, .top, .top, .top, .top, .top, .top, .top, .top, .top, .top, .top, .top, .top, .top], [some s0, none, none], h⟩
def jacquardlaw8_RelPairs_F1 (C : CallF) (L : LoopF) (G : Glo) : St → Option (Ex × St) :=
  roundF (fun st f => jacquardlaw8_RelPairs_b1.exec C L G st f) [0, 5, 6, 7, 8, 9, 10] [0] [(0, [4], []), (3, [0, 5, 6, 7, 8, 9], [0])]
def jacquardlaw8_RelPairs_x1_0 (b4 : Bool) (h : AHeap) : St := ⟨[.top, .top, .top, .top, .v (.c (.bool b4)), .top, .top, .top, .top, .top, .top, .top, .top, .top, .top, .top, .top, .top, .top, .top, .top, .top, .top, .top, .top, .top, .top, .top, .top, .top, .top, .top, .top, .top, .top, .top, .top, .top, .top, .top, .top, .top, .top, .top, .top, .top, .top, .top, .top, .top, .top, .top, .top, .top, .top, .top, .top, .top, .top, .top, .top, .top, .top, .top, .top, .top, .top, .top, .top, .top, .top, .top, .top, .top, .top, .top, .top, .top, .top, .top, .top, .top, .top, .top, .top, .top, .top, .top, .top, .top, .top, .top, .top, .top, .top, .top, .top, .top, .top, .top, .top, .top, .top, .top], [none, none, none], h⟩
def jacquardlaw8_RelPairs_x1_3 (a0 : Int) (k6 : Nat) (N6 : Nat) (o6 : Nat) (x7 : Cell) (a8 : Int) (a9 : Int) (s0 : List Cell) (h : AHeap) : St := ⟨[.v (.c (.int .i64 a0)), .top, .top, .top, .top, .loc 0 0, .v (.c (.ptr k6 N6 o6)), .v (.c x7), .v (.c (.int .i64 a8)), .v (.c (.int .i64 a9)), .top, .top, .top, .top, .top, .top, .top, .top, .top, .top, .top, .top, .top, .top, .top, .top, .top, .top, .top, .top, .top, .top, .top, .top, .top, .top, .top, .top, .top, .top, .top, .top, .top, .top, .top, .top, .top, .top, .top, .top, .top, .top, .top, .top, .top, .top, .top, .top, .top, .top, .top, .top, .top, .top, .top, .top, .top, .top, .top, .top, .top, .top, .top, .top, .top, .top, .top, .top, .top, .top, .top, .top, .top, .top, .top, .top, .top, .top, .top, .top, .top, .top, .top, .top, .top, .top, .top, .top, .top, .top, .top, .top, .top, .top], [some s0, none, none], h⟩
def jacquardlaw8_RelPairs_x2_0 (b4 : Bool) (h : AHeap) : St := ⟨[.top, .top, .top, .top, .v (.c (.bool b4)), .top, .top, .top, .top, .top, .top, .top, .top, .top, .top, .top, .top, .top, .top, .top, .top, .top, .top, .top, .top, .top, .top, .top, .top, .top, .top, .top, .top, .top, .top, .top, .top, .top, .top, .top, .top, .top, .top, .top, .top, .top, .top, .top, .top, .top, .top, .top, .top, .top, .top, .top, .top, .top, .top, .top, .top, .top, .top, .top, .top, .top, .top, .top, .top, .top, .top, .top, .top, .top, .top, .top, .top, .top, .top, .top, .top, .top, .top, .top, .top, .top, .top, .top, .top, .top, .top, .top, .top, .top, .top, .top, .top, .top, .top, .top, .top, .top, .top, .top], [none, none, none], h⟩
def jacquardlaw8_RelPairs_x2_1 (a0 : Int) (x7 : Cell) (a8 : Int) (s0 : List Cell) (h : AHeap) : St := ⟨[.v (.c (.int .i64 a0)), .top, .top, .top, .top, .loc 0 0, .top, .v (.c x7), .v (.c (.int .i64 a8)), .top, .top, .top, .top, .top, .top, .top, .top, .top, .top, .top, .top, .top, .top, .top, .top, .top, .top, .top, .top, .top, .top, .top, .top, .top, .top, .top, .top, .top, .top, .top, .top, .top, .top, .top, .top, .top, .top, .top, .top, .top, .top, .top, .top, .top, .top, .top, .top, .top, .top, .top, .top, .top, .top, .top, .top, .top, .top, .top, .top, .top, .top, .top, .top, .top, .top, .top, .top, .top, .top, .top, .top, .top, .top, .top, .top, .top, .top, .top, .top, .top, .top, .top, .top, .top, .top, .top, .top, .top, .top, .top, .top, .top, .top, .top], [some s0, none, none], h⟩
theorem jacquardlaw8_RelPairs_r1 (C : CallF) (L : LoopF) (G : Glo) (a0 : Int) (k6 : Nat) (N6 : Nat) (o6 : Nat) (x7 : Cell) (a8 : Int) (a9 : Int) (a10 : Int) (s0 : List Cell) (h : AHeap) :
    jacquardlaw8_RelPairs_F1 C L G (jacquardlaw8_RelPairs_s1 a0 k6 N6 o6 x7 a8 a9 a10 s0 h) =
    if (decide (a10 < a0)) = true then if 0 = 0 ∧ s0.length = 65 then c1 (C 3 [(.agg s0), (.c (.int .i64 a9)), (.c (.int .i64 a10))] h) fun y_13 h_12 => asB y_13 fun b_14 => c1 (C 7 [(.c (.ptr k6 N6 o6)), (.c (.int .i64 a9)), (.c (.int .i64 a10))] h_12) fun y_16 h_15 => asB y_16 fun b_17 => if (!(b_14 == b_17)) = true then some (.ret, (jacquardlaw8_RelPairs_x1_0 false h_15)) else c1 (C 7 [(.c (.ptr k6 N6 o6)), (.c (.int .i64 a9)), (.c (.int .i64 a10))] h_15) fun y_19 h_18 => asB y_19 fun b_20 => if (!b_20) = true then some (.normal, (jacquardlaw8_RelPairs_s1 a0 k6 N6 o6 x7 a8 a9 (G.wrap .i64 (a10 + 1)) s0 h_18)) else lenK x7 fun n_21 => scK (decide (a8 ≥ n_21)) false (idxSK 2 x7 a8 fun k_22 N_23 o_24 => rdH h_18 k_22 N_23 fun l_25 => if o_24 + 2 ≤ l_25.length then if alike ((l_25.drop o_24).take 2) ([Cell.int .i64 0, Cell.int .i64 0]) = true ∧ alike (splice (splice [Cell.int .i64 0, Cell.int .i64 0] 0 ([(.int .i64 a9)] : List Cell)) 1 ([(.int .i64 a10)] : List Cell)) ([Cell.int .i64 0, Cell.int .i64 0]) = true then some ((!(decide (((l_25.drop o_24).take 2) = (splice (splice [Cell.int .i64 0, Cell.int .i64 0] 0 ([(.int .i64 a9)] : List Cell)) 1 ([(.int .i64 a10)] : List Cell))))), h_18) else none else none) true h_18 fun b_26 h_27 => if b_26 = true then some (.ret, (jacquardlaw8_RelPairs_x1_0 false h_27)) else some (.normal, (jacquardlaw8_RelPairs_s1 a0 k6 N6 o6 x7 (G.wrap .i64 (a8 + 1)) a9 (G.wrap .i64 (a10 + 1)) s0 h_27)) else none else some ((.exit 2), (jacquardlaw8_RelPairs_x1_3 a0 k6 N6 o6 x7 a8 a9 s0 h)) := by kernel_rfl
theorem jacquardlaw8_RelPairs_e1_0 (C : CallF) (L : LoopF) (G : Glo) (b4 : Bool) (h : AHeap) :
    (jacquardlaw8_RelPairs_k6 C L G) .ret (jacquardlaw8_RelPairs_x1_0 b4 h) =
    some (.ret, (jacquardlaw8_RelPairs_x2_0 b4 h)) := by kernel_rfl
theorem jacquardlaw8_RelPairs_e1_3 (C : CallF) (L : LoopF) (G : Glo) (a0 : Int) (k6 : Nat) (N6 : Nat) (o6 : Nat) (x7 : Cell) (a8 : Int) (a9 : Int) (s0 : List Cell) (h : AHeap) :
    (jacquardlaw8_RelPairs_k6 C L G) (.exit 2) (jacquardlaw8_RelPairs_x1_3 a0 k6 N6 o6 x7 a8 a9 s0 h) =
    some (.normal, (jacquardlaw8_RelPairs_s2 a0 k6 N6 o6 x7 a8 (G.wrap .i64 (a9 + 1)) s0 h)) := by kernel_rfl
theorem jacquardlaw8_RelPairs_r2 (C : CallF) (L : LoopF) (G : Glo) (a0 : Int) (k6 : Nat) (N6 : Nat) (o6 : Nat) (x7 : Cell) (a8 : Int) (a9 : Int) (s0 : List Cell) (h : AHeap) :
    jacquardlaw8_RelPairs_F2 C L G (jacquardlaw8_RelPairs_s2 a0 k6 N6 o6 x7 a8 a9 s0 h) =
    if (decide (a9 < a0)) = true then (L (jacquardlaw8_RelPairs_F1 C L G) (jacquardlaw8_RelPairs_s1 a0 k6 N6 o6 x7 a8 a9 0 s0 h)).bind fun p_28 => (jacquardlaw8_RelPairs_k6 C L G) p_28.1 p_28.2 else some ((.exit 0), (jacquardlaw8_RelPairs_x2_1 a0 x7 a8 s0 h)) := by kernel_rfl
theorem jacquardlaw8_RelPairs_e2_0 (C : CallF) (L : LoopF) (G : Glo) (h0 : AHeap) (b4 : Bool) (h : AHeap) :
    (jacquardlaw8_RelPairs_k3 C L G h0) .ret (jacquardlaw8_RelPairs_x2_0 b4 h) =
    finish true h0 [(.c (.bool b4))] h := by kernel_rfl
theorem jacquardlaw8_RelPairs_e2_1 (C : CallF) (L : LoopF) (G : Glo) (h0 : AHeap) (a0 : Int) (x7 : Cell) (a8 : Int) (s0 : List Cell) (h : AHeap) :
    (jacquardlaw8_RelPairs_k3 C L G h0) (.exit 0) (jacquardlaw8_RelPairs_x2_1 a0 x7 a8 s0 h) =
    c2 (C 1 [(.c (.int .i64 a0)), (.c x7)] h) fun y_30 y_31 h_29 => asA y_30 fun l_32 => asA y_31 fun l_33 => if 0 = 0 ∧ ([Cell.int .i64 0] ++ List.replicate 64 (Cell.int .u64 0)).length = 65 ∧ l_32.length = 65 then if 0 = 0 ∧ ([Cell.int .i64 0] ++ List.replicate 64 (Cell.int .u64 0)).length = 65 ∧ l_33.length = 65 then lenK x7 fun n_34 => scK (a8 == n_34) true (scK (decide (a8 > 200)) false (if 0 = 0 ∧ l_32.length = 65 then if 0 = 0 ∧ s0.length = 65 then if alike l_32 ([Cell.int .i64 0] ++ List.replicate 64 (Cell.int .u64 0)) = true ∧ alike s0 ([Cell.int .i64 0] ++ List.replicate 64 (Cell.int .u64 0)) = true then some ((decide (l_32 = s0)), h_29) else none else none else none) true h_29 fun b_35 h_36 => some (b_35, h_36)) false h_29 fun b_37 h_38 => scK b_37 true (if 0 = 0 ∧ s0.length = 65 then c1 (C 3 [(.agg s0), (.c (.int .i64 (-1))), (.c (.int .i64 0))] h_38) fun y_40 h_39 => asB y_40 fun b_41 => some ((!b_41), h_39) else none) false h_38 fun b_42 h_43 => scK b_42 true (if 0 = 0 ∧ s0.length = 65 then c1 (C 3 [(.agg s0), (.c (.int .i64 0)), (.c (.int .i64 64))] h_43) fun y_45 h_44 => asB y_45 fun b_46 => some ((!b_46), h_44) else none) false h_43 fun b_47 h_48 => scK b_47 true (if 0 = 0 ∧ s0.length = 65 then c1 (C 41 [(.agg s0), (.c (.int .i64 (-1)))] h_48) fun y_50 h_49 => asI .u64 y_50 fun n_51 => some ((n_51 == 0), h_49) else none) false h_48 fun b_52 h_53 => scK b_52 true (if 0 = 0 ∧ s0.length = 65 then c1 (C 41 [(.agg s0), (.c (.int .i64 64))] h_53) fun y_55 h_54 => asI .u64 y_55 fun n_56 => some ((n_56 == 0), h_54) else none) false h_53 fun b_57 h_58 => scK b_57 true (c1 (C 55 [] h_58) fun y_60 h_59 => asB y_60 fun b_61 => some (b_61, h_59)) false h_58 fun b_62 h_63 => finish true h0 [(.c (.bool b_62))] h_63 else none else none := by kernel_rfl
set_option maxRecDepth 100000 in
theorem jacquardlaw8_RelPairs_eq (C : CallF) (L : LoopF) (G : Glo) (a0 : Int) (x1 : Cell) (h0 : AHeap) :
    jacquardlaw8_RelPairs.body C L G [(.c (.int .i64 a0)), (.c x1)] h0 =
    let v_1 : Int := (if 64 < (if 0 > a0 then 0 else a0) then 64 else (if 0 > a0 then 0 else a0)); c2 (C 1 [(.c (.int .i64 v_1)), (.c x1)] h0) fun y_3 y_4 h_2 => asA y_3 fun l_5 => asA y_4 fun l_6 => if 0 = 0 ∧ ([Cell.int .i64 0] ++ List.replicate 64 (Cell.int .u64 0)).length = 65 ∧ l_5.length = 65 then rdH (h_2 ++ [some (Blk.mk true 0 ([Cell.int .i64 0] ++ List.replicate 64 (Cell.int .u64 0)))]) h_2.length (([Cell.int .i64 0] ++ List.replicate 64 (Cell.int .u64 0)).length) fun l_7 => if 0 = 0 ∧ l_7.length = 65 ∧ l_6.length = 65 then putH (h_2 ++ [some (Blk.mk true 0 ([Cell.int .i64 0] ++ List.replicate 64 (Cell.int .u64 0)))]) h_2.length l_6 fun h_8 => if 0 = 0 ∧ l_5.length = 65 then c1 (C 20 [(.agg l_5)] h_8) fun y_10 h_9 => asC y_10 fun x_11 => (L (jacquardlaw8_RelPairs_F2 C L G) (jacquardlaw8_RelPairs_s2 v_1 h_2.length (([Cell.int .i64 0] ++ List.replicate 64 (Cell.int .u64 0)).length) 0 x_11 0 0 l_5 h_9)).bind fun p_64 => (jacquardlaw8_RelPairs_k3 C L G h0) p_64.1 p_64.2 else none else none else none := by kernel_rfl

/- jacquard/jacquardlaw8.RelThen: 241 -/
def jacquardlaw8_RelThen_k2 (C : CallF) (L : LoopF) (G : Glo) (h0 : AHeap) : Ex → St → Option (List AV × AHeap) :=
  kSeq (fun st => jacquardlaw8_RelThen_p1.exec C L G st (jacquardlaw8_RelThen.fin G h0)) (jacquardlaw8_RelThen.fin G h0)
def jacquardlaw8_RelThen_k3 (C : CallF) (L : LoopF) (G : Glo) (h0 : AHeap) : Ex → St → Option (List AV × AHeap) :=
  kBlk 0 (jacquardlaw8_RelThen_k2 C L G h0)
def jacquardlaw8_RelThen_s1 (a0 : Int) (a4 : Int) (a5 : Int) (b19 : Bool) (a20 : Int) (s0 : List Cell) (s2 : List Cell) (s4 : List Cell) (h : AHeap) : St := ⟨[.v (.c (.int .i64 a0)), .top, .top, .top, .v (.c (.int .i64 a4)), .v (.c (.int .i64 a5)), .top, .top, .top, .top, .top, .top, .top, .loc 0 0, .top, .loc 2 0, .top, .loc 4 0, .top, .v (.c (.bool b19)), .v (.c (.int .i64 a20)), .top, .top, .top, .top, .top, .top, .top, .top, .top, .top, .top, .top, .top, .top, .top, .top, .top, .top, .top, .top, .top, .top, .top, .top, .top, .top, .top, .top, .top, .top, .top, .top, .top, .top, .top, .top, .top, .top, .top, .top, .top, .top, .top, .top, .top, .top, .top, .top, .top, .top, .top, .top, .top, .top, .top, .top, .top, .top, .top, .top, .top, .top, .top, .top, .top, .top, .top, .top, .top, .top, .top, .top, .top, .top, .top, .top, .top, .top, .top, .top, .top, .top, .top, .top, .top, .top, .top], [some s0, none, some s2, none, some s4, none], h⟩
def jacquardlaw8_RelThen_F1 (C : CallF) (L : LoopF) (G : Glo) : St → Option (Ex × St) :=
  roundF (fun st f => jacquardlaw8_RelThen_b1.exec C L G st f) [0, 4, 5, 13, 15, 17, 19, 20] [0, 2, 4] [(1, [4, 5, 13, 15, 17, 19], [0, 2, 4])]
def jacquardlaw8_RelThen_x1_1 (a4 : Int) (a5 : Int) (b19 : Bool) (s0 : List Cell) (s2 : List Cell) (s4 : List Cell) (h : AHeap) : St := ⟨[.top, .top, .top, .top, .v (.c (.int .i64 a4)), .v (.c (.int .i64 a5)), .top, .top, .top, .top, .top, .top, .top, .loc 0 0, .top, .loc 2 0, .top, .loc 4 0, .top, .v (.c (.bool b19)), .top, .top, .top, .top, .top, .top, .top, .top, .top, .top, .top, .top, .top, .top, .top, .top, .top, .top, .top, .top, .top, .top, .top, .top, .top, .top, .top, .top, .top, .top, .top, .top, .top, .top, .top, .top, .top, .top, .top, .top, .top, .top, .top, .top, .top, .top, .top, .top, .top, .top, .top, .top, .top, .top, .top, .top, .top, .top, .top, .top, .top, .top, .top, .top, .top, .top, .top, .top, .top, .top, .top, .top, .top, .top, .top, .top, .top, .top, .top, .top, .top, .top, .top, .top, .top, .top, .top, .top], [some s0, none, some s2, none, some s4, none], h⟩
theorem jacquardlaw8_RelThen_r1 (C : CallF) (L : LoopF) (G : Glo) (a0 : Int) (a4 : Int) (a5 : Int) (b19 : Bool) (a20 : Int) (s0 : List Cell) (s2 : List Cell) (s4 : List Cell) (h : AHeap) :
    jacquardlaw8_RelThen_F1 C L G (jacquardlaw8_RelThen_s1 a0 a4 a5 b19 a20 s0 s2 s4 h) =
    if (decide (a20 < a0)) = true then scK b19 false (if 0 = 0 ∧ s0.length = 65 then c1 (C 3 [(.agg s0), (.c (.int .i64 a4)), (.c (.int .i64 a20))] h) fun y_18 h_17 => asB y_18 fun b_19 => scK b_19 true (if 0 = 0 ∧ s2.length = 65 then c1 (C 3 [(.agg s2), (.c (.int .i64 a20)), (.c (.int .i64 a5))] h_17) fun y_21 h_20 => asB y_21 fun b_22 => some (b_22, h_20) else none) false h_17 fun b_23 h_24 => some (b_23, h_24) else none) true h fun b_25 h_26 => some (.normal, (jacquardlaw8_RelThen_s1 a0 a4 a5 b_25 (G.wrap .i64 (a20 + 1)) s0 s2 s4 h_26)) else some ((.exit 0), (jacquardlaw8_RelThen_x1_1 a4 a5 b19 s0 s2 s4 h)) := by kernel_rfl
theorem jacquardlaw8_RelThen_e1_1 (C : CallF) (L : LoopF) (G : Glo) (h0 : AHeap) (a4 : Int) (a5 : Int) (b19 : Bool) (s0 : List Cell) (s2 : List Cell) (s4 : List Cell) (h : AHeap) :
    (jacquardlaw8_RelThen_k3 C L G h0) (.exit 0) (jacquardlaw8_RelThen_x1_1 a4 a5 b19 s0 s2 s4 h) =
    if 0 = 0 ∧ s0.length = 65 then if 0 = 0 ∧ s2.length = 65 then c1 (qh h (C 58 [(.agg s0), (.agg s2)] h)) fun y_28 h_27 => asA y_28 fun l_29 => c1 (qh h (C 3 [(.agg l_29), (.c (.int .i64 a4)), (.c (.int .i64 a5))] h)) fun y_31 h_30 => asB y_31 fun b_32 => scK (b_32 == b19) true (if 0 = 0 ∧ s0.length = 65 then if 0 = 0 ∧ s2.length = 65 then c1 (qh h (C 58 [(.agg s0), (.agg s2)] h)) fun y_34 h_33 => asA y_34 fun l_35 => if 0 = 0 ∧ s4.length = 65 then c1 (qh h (C 58 [(.agg l_35), (.agg s4)] h)) fun y_37 h_36 => asA y_37 fun l_38 => if 0 = 0 ∧ s0.length = 65 then if 0 = 0 ∧ s2.length = 65 then if 0 = 0 ∧ s4.length = 65 then c1 (qh h (C 58 [(.agg s2), (.agg s4)] h)) fun y_40 h_39 => asA y_40 fun l_41 => c1 (qh h (C 58 [(.agg s0), (.agg l_41)] h)) fun y_43 h_42 => asA y_43 fun l_44 => if alike l_38 ([Cell.int .i64 0] ++ List.replicate 64 (Cell.int .u64 0)) = true ∧ alike l_44 ([Cell.int .i64 0] ++ List.replicate 64 (Cell.int .u64 0)) = true then some ((decide (l_38 = l_44)), h) else none else none else none else none else none else none else none) false h fun b_45 h_46 => scK b_45 true (if 0 = 0 ∧ s0.length = 65 then if 0 = 0 ∧ s2.length = 65 then c1 (qh h_46 (C 59 [(.agg s0), (.agg s2)] h_46)) fun y_48 h_47 => asA y_48 fun l_49 => if 0 = 0 ∧ s4.length = 65 then c1 (qh h_46 (C 58 [(.agg l_49), (.agg s4)] h_46)) fun y_51 h_50 => asA y_51 fun l_52 => if 0 = 0 ∧ s0.length = 65 then if 0 = 0 ∧ s4.length = 65 then c1 (qh h_46 (C 58 [(.agg s0), (.agg s4)] h_46)) fun y_54 h_53 => asA y_54 fun l_55 => if 0 = 0 ∧ s2.length = 65 then if 0 = 0 ∧ s4.length = 65 then c1 (qh h_46 (C 58 [(.agg s2), (.agg s4)] h_46)) fun y_57 h_56 => asA y_57 fun l_58 => c1 (qh h_46 (C 59 [(.agg l_55), (.agg l_58)] h_46)) fun y_60 h_59 => asA y_60 fun l_61 => if alike l_52 ([Cell.int .i64 0] ++ List.replicate 64 (Cell.int .u64 0)) = true ∧ alike l_61 ([Cell.int .i64 0] ++ List.replicate 64 (Cell.int .u64 0)) = true then some ((decide (l_52 = l_61)), h_46) else none else none else none else none else none else none else none else none) false h_46 fun b_62 h_63 => scK b_62 true (c1 (qh h_63 (C 55 [] h_63)) fun y_65 h_64 => asB y_65 fun b_66 => some (b_66, h_63)) false h_63 fun b_67 h_68 => some ([(.c (.bool b_67))], h_68) else none else none := by kernel_rfl
set_option maxRecDepth 100000 in
theorem jacquardlaw8_RelThen_eq (C : CallF) (L : LoopF) (G : Glo) (a0 : Int) (x1 : Cell) (x2 : Cell) (x3 : Cell) (a4 : Int) (a5 : Int) (h0 : AHeap) :
    jacquardlaw8_RelThen.body C L G [(.c (.int .i64 a0)), (.c x1), (.c x2), (.c x3), (.c (.int .i64 a4)), (.c (.int .i64 a5))] h0 =
    let v_1 : Int := (G.wrap .i64 ((G.rem .i64 (G.band .i64 a0 255) 20) + 1)); if v_1 = 0 then none else if v_1 = 0 then none else c2 (C 1 [(.c (.int .i64 v_1)), (.c x1)] h0) fun y_3 y_4 h_2 => asA y_3 fun l_5 => asA y_4 fun l_6 => if 0 = 0 ∧ ([Cell.int .i64 0] ++ List.replicate 64 (Cell.int .u64 0)).length = 65 ∧ l_5.length = 65 then if 0 = 0 ∧ ([Cell.int .i64 0] ++ List.replicate 64 (Cell.int .u64 0)).length = 65 ∧ l_6.length = 65 then c2 (C 1 [(.c (.int .i64 v_1)), (.c x2)] h_2) fun y_8 y_9 h_7 => asA y_8 fun l_10 => asA y_9 fun l_11 => if 0 = 0 ∧ ([Cell.int .i64 0] ++ List.replicate 64 (Cell.int .u64 0)).length = 65 ∧ l_10.length = 65 then if 0 = 0 ∧ ([Cell.int .i64 0] ++ List.replicate 64 (Cell.int .u64 0)).length = 65 ∧ l_11.length = 65 then c2 (C 1 [(.c (.int .i64 v_1)), (.c x3)] h_7) fun y_13 y_14 h_12 => asA y_13 fun l_15 => asA y_14 fun l_16 => if 0 = 0 ∧ ([Cell.int .i64 0] ++ List.replicate 64 (Cell.int .u64 0)).length = 65 ∧ l_15.length = 65 then if 0 = 0 ∧ ([Cell.int .i64 0] ++ List.replicate 64 (Cell.int .u64 0)).length = 65 ∧ l_16.length = 65 then (L (jacquardlaw8_RelThen_F1 C L G) (jacquardlaw8_RelThen_s1 v_1 (G.rem .i64 (G.band .i64 a4 255) v_1) (G.rem .i64 (G.band .i64 a5 255) v_1) false 0 l_5 l_10 l_15 h_12)).bind fun p_69 => (jacquardlaw8_RelThen_k3 C L G h0) p_69.1 p_69.2 else none else none else none else none else none else none := by kernel_rfl

/- jacquard/jacquardlaw8.RelAlgebra: 243 -/
set_option maxRecDepth 100000 in
theorem jacquardlaw8_RelAlgebra_eq (C : CallF) (L : LoopF) (G : Glo) (a0 : Int) (x1 : Cell) (x2 : Cell) (h0 : AHeap) :
    jacquardlaw8_RelAlgebra.body C L G [(.c (.int .i64 a0)), (.c x1), (.c x2)] h0 =
    let v_1 : Int := (if 64 < (if 0 > a0 then 0 else a0) then 64 else (if 0 > a0 then 0 else a0)); c2 (C 1 [(.c (.int .i64 v_1)), (.c x1)] h0) fun y_3 y_4 h_2 => asA y_3 fun l_5 => asA y_4 fun l_6 => if 0 = 0 ∧ ([Cell.int .i64 0] ++ List.replicate 64 (Cell.int .u64 0)).length = 65 ∧ l_5.length = 65 then if 0 = 0 ∧ ([Cell.int .i64 0] ++ List.replicate 64 (Cell.int .u64 0)).length = 65 ∧ l_6.length = 65 then c2 (C 1 [(.c (.int .i64 v_1)), (.c x2)] h_2) fun y_8 y_9 h_7 => asA y_8 fun l_10 => asA y_9 fun l_11 => if 0 = 0 ∧ ([Cell.int .i64 0] ++ List.replicate 64 (Cell.int .u64 0)).length = 65 ∧ l_10.length = 65 then if 0 = 0 ∧ ([Cell.int .i64 0] ++ List.replicate 64 (Cell.int .u64 0)).length = 65 ∧ l_11.length = 65 then if 0 = 0 ∧ l_5.length = 65 then c1 (C 12 [(.agg l_5)] h_7) fun y_13 h_12 => asA y_13 fun l_14 => if 0 = 0 ∧ ([Cell.int .i64 0] ++ List.replicate 64 (Cell.int .u64 0)).length = 65 ∧ l_14.length = 65 then if 0 = 0 ∧ l_5.length = 65 then if 0 = 0 ∧ l_10.length = 65 then c1 (qh h_12 (C 59 [(.agg l_5), (.agg l_10)] h_12)) fun y_16 h_15 => asA y_16 fun l_17 => if 0 = 0 ∧ l_10.length = 65 then if 0 = 0 ∧ l_5.length = 65 then c1 (qh h_12 (C 59 [(.agg l_10), (.agg l_5)] h_12)) fun y_19 h_18 => asA y_19 fun l_20 => if alike l_17 ([Cell.int .i64 0] ++ List.replicate 64 (Cell.int .u64 0)) = true ∧ alike l_20 ([Cell.int .i64 0] ++ List.replicate 64 (Cell.int .u64 0)) = true then scK (decide (l_17 = l_20)) true (if 0 = 0 ∧ l_5.length = 65 then if 0 = 0 ∧ l_10.length = 65 then c1 (qh h_12 (C 67 [(.agg l_5), (.agg l_10)] h_12)) fun y_22 h_21 => asA y_22 fun l_23 => if 0 = 0 ∧ l_10.length = 65 then if 0 = 0 ∧ l_5.length = 65 then c1 (qh h_12 (C 67 [(.agg l_10), (.agg l_5)] h_12)) fun y_25 h_24 => asA y_25 fun l_26 => if alike l_23 ([Cell.int .i64 0] ++ List.replicate 64 (Cell.int .u64 0)) = true ∧ alike l_26 ([Cell.int .i64 0] ++ List.replicate 64 (Cell.int .u64 0)) = true then some ((decide (l_23 = l_26)), h_12) else none else none else none else none else none) false h_12 fun b_27 h_28 => scK b_27 true (if 0 = 0 ∧ l_5.length = 65 then c1 (qh h_28 (C 40 [(.agg l_5)] h_28)) fun y_30 h_29 => asA y_30 fun l_31 => c1 (qh h_28 (C 40 [(.agg l_31)] h_28)) fun y_33 h_32 => asA y_33 fun l_34 => if 0 = 0 ∧ l_5.length = 65 then if alike l_34 ([Cell.int .i64 0] ++ List.replicate 64 (Cell.int .u64 0)) = true ∧ alike l_5 ([Cell.int .i64 0] ++ List.replicate 64 (Cell.int .u64 0)) = true then some ((decide (l_34 = l_5)), h_28) else none else none else none) false h_28 fun b_35 h_36 => scK b_35 true (if 0 = 0 ∧ l_14.length = 65 then c1 (qh h_36 (C 12 [(.agg l_14)] h_36)) fun y_38 h_37 => asA y_38 fun l_39 => if 0 = 0 ∧ l_14.length = 65 then if alike l_39 ([Cell.int .i64 0] ++ List.replicate 64 (Cell.int .u64 0)) = true ∧ alike l_14 ([Cell.int .i64 0] ++ List.replicate 64 (Cell.int .u64 0)) = true then some ((decide (l_39 = l_14)), h_36) else none else none else none) false h_36 fun b_40 h_41 => scK b_40 true (if 0 = 0 ∧ l_5.length = 65 then if 0 = 0 ∧ l_10.length = 65 then c1 (qh h_41 (C 58 [(.agg l_5), (.agg l_10)] h_41)) fun y_43 h_42 => asA y_43 fun l_44 => c1 (qh h_41 (C 40 [(.agg l_44)] h_41)) fun y_46 h_45 => asA y_46 fun l_47 => if 0 = 0 ∧ l_10.length = 65 then c1 (qh h_41 (C 40 [(.agg l_10)] h_41)) fun y_49 h_48 => asA y_49 fun l_50 => if 0 = 0 ∧ l_5.length = 65 then c1 (qh h_41 (C 40 [(.agg l_5)] h_41)) fun y_52 h_51 => asA y_52 fun l_53 => c1 (qh h_41 (C 58 [(.agg l_50), (.agg l_53)] h_41)) fun y_55 h_54 => asA y_55 fun l_56 => if alike l_47 ([Cell.int .i64 0] ++ List.replicate 64 (Cell.int .u64 0)) = true ∧ alike l_56 ([Cell.int .i64 0] ++ List.replicate 64 (Cell.int .u64 0)) = true then some ((decide (l_47 = l_56)), h_41) else none else none else none else none else none) false h_41 fun b_57 h_58 => scK b_57 true (if 0 = 0 ∧ l_5.length = 65 then if 0 = 0 ∧ l_10.length = 65 then c1 (qh h_58 (C 68 [(.agg l_5), (.agg l_10)] h_58)) fun y_60 h_59 => asA y_60 fun l_61 => if 0 = 0 ∧ l_5.length = 65 then if 0 = 0 ∧ l_10.length = 65 then c1 (qh h_58 (C 67 [(.agg l_5), (.agg l_10)] h_58)) fun y_63 h_62 => asA y_63 fun l_64 => c1 (qh h_58 (C 59 [(.agg l_61), (.agg l_64)] h_58)) fun y_66 h_65 => asA y_66 fun l_67 => if 0 = 0 ∧ l_5.length = 65 then if alike l_67 ([Cell.int .i64 0] ++ List.replicate 64 (Cell.int .u64 0)) = true ∧ alike l_5 ([Cell.int .i64 0] ++ List.replicate 64 (Cell.int .u64 0)) = true then some ((decide (l_67 = l_5)), h_58) else none else none else none else none else none else none) false h_58 fun b_68 h_69 => scK b_68 true (if 0 = 0 ∧ l_14.length = 65 then if 0 = 0 ∧ l_14.length = 65 then c1 (qh h_69 (C 58 [(.agg l_14), (.agg l_14)] h_69)) fun y_71 h_70 => asA y_71 fun l_72 => if 0 = 0 ∧ l_14.length = 65 then c1 (qh h_69 (C 59 [(.agg l_72), (.agg l_14)] h_69)) fun y_74 h_73 => asA y_74 fun l_75 => if 0 = 0 ∧ l_14.length = 65 then if alike l_75 ([Cell.int .i64 0] ++ List.replicate 64 (Cell.int .u64 0)) = true ∧ alike l_14 ([Cell.int .i64 0] ++ List.replicate 64 (Cell.int .u64 0)) = true then some ((decide (l_75 = l_14)), h_69) else none else none else none else none else none) false h_69 fun b_76 h_77 => scK b_76 true (if 0 = 0 ∧ l_5.length = 65 then if 0 = 0 ∧ l_14.length = 65 then c1 (qh h_77 (C 59 [(.agg l_5), (.agg l_14)] h_77)) fun y_79 h_78 => asA y_79 fun l_80 => if 0 = 0 ∧ l_14.length = 65 then if alike l_80 ([Cell.int .i64 0] ++ List.replicate 64 (Cell.int .u64 0)) = true ∧ alike l_14 ([Cell.int .i64 0] ++ List.replicate 64 (Cell.int .u64 0)) = true then some ((decide (l_80 = l_14)), h_77) else none else none else none else none) false h_77 fun b_81 h_82 => scK b_81 true (if 0 = 0 ∧ l_5.length = 65 then if 0 = 0 ∧ l_5.length = 65 then c1 (qh h_82 (C 59 [(.agg l_5), (.agg l_5)] h_82)) fun y_84 h_83 => asA y_84 fun l_85 => if 0 = 0 ∧ l_5.length = 65 then if alike l_85 ([Cell.int .i64 0] ++ List.replicate 64 (Cell.int .u64 0)) = true ∧ alike l_5 ([Cell.int .i64 0] ++ List.replicate 64 (Cell.int .u64 0)) = true then some ((decide (l_85 = l_5)), h_82) else none else none else none else none) false h_82 fun b_86 h_87 => scK b_86 true (c1 (qh h_87 (C 55 [] h_87)) fun y_89 h_88 => asB y_89 fun b_90 => some (b_90, h_87)) false h_87 fun b_91 h_92 => some ([(.c (.bool b_91))], h_92) else none else none else none else none else none else none else none else none else none else none else none := by kernel_rfl

/- jacquard/jacquardlaw8.RelTells: 244 -/
def jacquardlaw8_RelTells_k2 (C : CallF) (L : LoopF) (G : Glo) (h0 : AHeap) : Ex → St → Option (List AV × AHeap) :=
  kSeq (fun st => jacquardlaw8_RelTells_p1.exec C L G st (jacquardlaw8_RelTells.fin G h0)) (jacquardlaw8_RelTells.fin G h0)
def jacquardlaw8_RelTells_k3 (C : CallF) (L : LoopF) (G : Glo) (h0 : AHeap) : Ex → St → Option (List AV × AHeap) :=
  kBlk 0 (jacquardlaw8_RelTells_k2 C L G h0)
def jacquardlaw8_RelTells_s2 (a4 : Int) (k12 : Nat) (N12 : Nat) (o12 : Nat) (k15 : Nat) (N15 : Nat) (o15 : Nat) (k21 : Nat) (N21 : Nat) (o21 : Nat) (k22 : Nat) (N22 : Nat) (o22 : Nat) (a23 : Int) (s0 : List Cell) (s1 : List Cell) (s3 : List Cell) (s4 : List Cell) (s5 : List Cell) (s6 : List Cell) (s7 : List Cell) (h : AHeap) : St := ⟨[.top, .top, .top, .top, .v (.c (.int .u64 a4)), .top, .top, .top, .top, .top, .top, .loc 0 0, .v (.c (.ptr k12 N12 o12)), .loc 1 0, .top, .v (.c (.ptr k15 N15 o15)), .loc 3 0, .loc 4 0, .loc 5 0, .loc 6 0, .loc 7 0, .v (.c (.ptr k21 N21 o21)), .v (.c (.ptr k22 N22 o22)), .v (.c (.int .i64 a23)), .top, .top, .top, .top, .top, .top, .top, .top, .top, .top, .top, .top, .top, .top, .top, .top, .top, .top, .top, .top, .top, .top, .top, .top, .top, .top, .top, .top, .top, .top, .top, .top, .top, .top, .top, .top, .top, .top, .top, .top, .top, .top, .top, .top, .top, .top, .top, .top, .top, .top, .top, .top, .top, .top, .top, .top, .top, .top, .top, .top, .top, .top, .top, .top, .top, .top, .top, .top, .top, .top, .top, .top, .top, .top, .top, .top, .top, .top, .top, .top, .top, .top, .top, .top, .top, .top, .top, .top, .top, .top, .top, .top, .top, .top, .top, .top, .top, .top, .top, .top, .top, .top, .top, .top, .top, .top, .top, .top, .top, .top, .top, .top, .top, .top, .top, .top, .top, .top, .top, .top, .top, .top, .top, .top, .top, .top, .top, .top, .top, .top, .top, .top, .top, .top, .top, .top, .top, .top, .top, .top, .top, .top, .top, .top, .top, .top, .top, .top, .top, .top, .top, .top, .top, .top, .top, .top, .top, .top, .top, .top, .top, .top, .top, .top, .top, .top, .top, .top, .top, .top, .top, .top, .top, .top, .top, .top, .top, .top, .top, .top, .top, .top, .top, .top, .top, .top, .top, .top, .top, .top, .top, .top, .top, .top, .top, .top, .top, .top, .top, .top, .top, .top, .top, .top, .top, .top, .top, .top, .top, .top, .top, .top, .top, .top, .top], [some s0, some s1, none, some s3, some s4, some s5, some s6, some s7, none, none], h⟩
def jacquardlaw8_RelTells_F2 (C : CallF) (L : LoopF) (G : Glo) : St → Option (Ex × St) :=
  roundF (fun st f => jacquardlaw8_RelTells_b2.exec C L G st f) [4, 11, 12, 13, 15, 16, 17, 18, 19, 20, 21, 22, 23] [0, 1, 3, 4, 5, 6, 7] [(1, [4, 11, 12, 13, 17, 18, 19, 20, 21, 22], [0, 1, 4, 5, 6, 7])]
def jacquardlaw8_RelTells_k4 (C : CallF) (L : LoopF) (G : Glo) : Ex → St → Option (Ex × St) :=
  kSeq (fun st => jacquardlaw8_RelTells_p2.exec C L G st (kLoop [4, 11, 12, 13, 15, 16, 17, 18, 19, 20, 21, 22, 23] [0, 1, 3, 4, 5, 6, 7] [(1, [4, 11, 12, 13, 17, 18, 19, 20, 21, 22], [0, 1, 4, 5, 6, 7])])) (kLoop [4, 11, 12, 13, 15, 16, 17, 18, 19, 20, 21, 22, 23] [0, 1, 3, 4, 5, 6, 7] [(1, [4, 11, 12, 13, 17, 18, 19, 20, 21, 22], [0, 1, 4, 5, 6, 7])])
def jacquardlaw8_RelTells_k5 (C : CallF) (L : LoopF) (G : Glo) : Ex → St → Option (Ex × St) :=
  kBlk 1 (jacquardlaw8_RelTells_k4 C L G)
def jacquardlaw8_RelTells_k6 (C : CallF) (L : LoopF) (G : Glo) : Ex → St → Option (Ex × St) :=
  kBlk 2 (jacquardlaw8_RelTells_k5 C L G)
def jacquardlaw8_RelTells_s1 (a4 : Int) (k12 : Nat) (N12 : Nat) (o12 : Nat) (k15 : Nat) (N15 : Nat) (o15 : Nat) (k21 : Nat) (N21 : Nat) (o21 : Nat) (k22 : Nat) (N22 : Nat) (o22 : Nat) (a23 : Int) (a24 : Int) (s0 : List Cell) (s1 : List Cell) (s3 : List Cell) (s4 : List Cell) (s5 : List Cell) (s6 : List Cell) (s7 : List Cell) (h : AHeap) : St := ⟨[.top, .top, .top, .top, .v (.c (.int .u64 a4)), .top, .top, .top, .top, .top, .top, .loc 0 0, .v (.c (.ptr k12 N12 o12)), .loc 1 0, .top, .v (.c (.ptr k15 N15 o15)), .loc 3 0, .loc 4 0, .loc 5 0, .loc 6 0, .loc 7 0, .v (.c (.ptr k21 N21 o21)), .v (.c (.ptr k22 N22 o22)), .v (.c (.int .i64 a23)), .v (.c (.int .i64 a24)), .top, .top, .top, .top, .top, .top, .top, .top, .top, .top, .top, .top, .top, .top, .top, .top, .top, .top, .top, .top, .top, .top, .top, .top, .top, .top, .top, .top, .top, .top, .top, .top, .top, .top, .top, .top, .top, .top, .top, .top, .top, .top, .top, .top, .top, .top, .top, .top, .top, .top, .top, .top, .top, .top, .top, .top, .top, .top, .top, .top, .top, .top, .top, .top, .top, .top, .top, .top, .top, .top, .top, .top, .top, .top, .top, .top, .top, .top, .top, .top, .top, .top, .top, .top, .top, .top, .top, .top, .top, .top, .top, .top, .top, .top, .top, .top, .top, .top, .top, .top, .top, .top, .top, .top, .top, .top, .top, .top, .top, .top, .top, .top, .top, .top, .top, .top, .top, .top, .top, .top, .top, .top, .top, .top, .top, .top, .top, .top, .top, .top, .top, .top, .top, .top, .top, .top, .top, .top, .top, .top, .top, .top, .top, .top, .top, .top, .top, .top, .top, .top, .top, .top, .top, .top, .top, .top, .top, .top, .top, .top, .top, .top, .top, .top, .top, .top, .top, .top, .top, .top, .top, .top, .top, .top, .top, .top, .top, .top, .top, .top, .top, .top, .top, .top, .top, .top, .top, .top, .top, .top, .top, .top, .top, .top, .top, .top, .top, .top, .top, .top, .top, .top, .top, .top, .top, .top, .top, .top, .top, .top, .top, .top, .top, .top], [some s0, some s1, none, some s3, some s4, some s5, some s6, some s7, none, none], h⟩
def jacquardlaw8_RelTells_F1 (C : CallF) (L : LoopF) (G : Glo) : St → Option (Ex × St) :=
  roundF (fun st f => jacquardlaw8_RelTells_b1.exec C L G st f) [4, 11, 12, 13, 15, 16, 17, 18, 19, 20, 21, 22, 23, 24] [0, 1, 3, 4, 5, 6, 7] [(3, [4, 11, 12, 13, 15, 16, 17, 18, 19, 20, 21, 22, 23], [0, 1, 3, 4, 5, 6, 7])]
def jacquardlaw8_RelTells_x1_3 (a4 : Int) (k12 : Nat) (N12 : Nat) (o12 : Nat) (k15 : Nat) (N15 : Nat) (o15 : Nat) (k21 : Nat) (N21 : Nat) (o21 : Nat) (k22 : Nat) (N22 : Nat) (o22 : Nat) (a23 : Int) (s0 : List Cell) (s1 : List Cell) (s3 : List Cell) (s4 : List Cell) (s5 : List Cell) (s6 : List Cell) (s7 : List Cell) (h : AHeap) : St := ⟨[.top, .top, .top, .top, .v (.c (.int .u64 a4)), .top, .top, .top, .top, .top, .top, .loc 0 0, .v (.c (.ptr k12 N12 o12)), .loc 1 0, .top, .v (.c (.ptr k15 N15 o15)), .loc 3 0, .loc 4 0, .loc 5 0, .loc 6 0, .loc 7 0, .v (.c (.ptr k21 N21 o21)), .v (.c (.ptr k22 N22 o22)), .v (.c (.int .i64 a23)), .top, .top, .top, .top, .top, .top, .top, .top, .top, .top, .top, .top, .top, .top, .top, .top, .top, .top, .top, .top, .top, .top, .top, .top, .top, .top, .top, .top, .top, .top, .top, .top, .top, .top, .top, .top, .top, .top, .top, .top, .top, .top, .top, .top, .top, .top, .top, .top, .top, .top, .top, .top, .top, .top, .top, .top, .top, .top, .top, .top, .top, .top, .top, .top, .top, .top, .top, .top, .top, .top, .top, .top, .top, .top, .top, .top, .top, .top, .top, .top, .top, .top, .top, .top, .top, .top, .top, .top, .top, .top, .top, .top, .top, .top, .top, .top, .top, .top, .top, .top, .top, .top, .top, .top, .top, .top, .top, .top, .top, .top, .top, .top, .top, .top, .top, .top, .top, .top, .top, .top, .top, .top, .top, .top, .top, .top, .top, .top, .top, .top, .top, .top, .top, .top, .top, .top, .top, .top, .top, .top, .top, .top, .top, .top, .top, .top, .top, .top, .top, .top, .top, .top, .top, .top, .top, .top, .top, .top, .top, .top, .top, .top, .top, .top, .top, .top, .top, .top, .top, .top, .top, .top, .top, .top, .top, .top, .top, .top, .top, .top, .top, .top, .top, .top, .top, .top, .top, .top, .top, .top, .top, .top, .top, .top, .top, .top, .top, .top, .top, .top, .top, .top, .top, .top, .top, .top, .top, .top, .top, .top, .top, .top, .top, .top, .top], [some s0, some s1, none, some s3, some s4, some s5, some s6, some s7, none, none], h⟩
def jacquardlaw8_RelTells_x2_1 (a4 : Int) (k12 : Nat) (N12 : Nat) (o12 : Nat) (k21 : Nat) (N21 : Nat) (o21 : Nat) (k22 : Nat) (N22 : Nat) (o22 : Nat) (s0 : List Cell) (s1 : List Cell) (s4 : List Cell) (s5 : List Cell) (s6 : List Cell) (s7 : List Cell) (h : AHeap) : St := ⟨[.top, .top, .top, .top, .v (.c (.int .u64 a4)), .top, .top, .top, .top, .top, .top, .loc 0 0, .v (.c (.ptr k12 N12 o12)), .loc 1 0, .top, .top, .top, .loc 4 0, .loc 5 0, .loc 6 0, .loc 7 0, .v (.c (.ptr k21 N21 o21)), .v (.c (.ptr k22 N22 o22)), .top, .top, .top, .top, .top, .top, .top, .top, .top, .top, .top, .top, .top, .top, .top, .top, .top, .top, .top, .top, .top, .top, .top, .top, .top, .top, .top, .top, .top, .top, .top, .top, .top, .top, .top, .top, .top, .top, .top, .top, .top, .top, .top, .top, .top, .top, .top, .top, .top, .top, .top, .top, .top, .top, .top, .top, .top, .top, .top, .top, .top, .top, .top, .top, .top, .top, .top, .top, .top, .top, .top, .top, .top, .top, .top, .top, .top, .top, .top, .top, .top, .top, .top, .top, .top, .top, .top, .top, .top, .top, .top, .top, .top, .top, .top, .top, .top, .top, .top, .top, .top, .top, .top, .top, .top, .top, .top, .top, .top, .top, .top, .top, .top, .top, .top, .top, .top, .top, .top, .top, .top, .top, .top, .top, .top, .top, .top, .top, .top, .top, .top, .top, .top, .top, .top, .top, .top, .top, .top, .top, .top, .top, .top, .top, .top, .top, .top, .top, .top, .top, .top, .top, .top, .top, .top, .top, .top, .top, .top, .top, .top, .top, .top, .top, .top, .top, .top, .top, .top, .top, .top, .top, .top, .top, .top, .top, .top, .top, .top, .top, .top, .top, .top, .top, .top, .top, .top, .top, .top, .top, .top, .top, .top, .top, .top, .top, .top, .top, .top, .top, .top, .top, .top, .top, .top, .top, .top, .top, .top, .top, .top, .top, .top, .top, .top, .top], [some s0, some s1, none, none, some s4, some s5, some s6, some s7, none, none], h⟩
theorem jacquardlaw8_RelTells_r1 (C : CallF) (L : LoopF) (G : Glo) (a4 : Int) (k12 : Nat) (N12 : Nat) (o12 : Nat) (k15 : Nat) (N15 : Nat) (o15 : Nat) (k21 : Nat) (N21 : Nat) (o21 : Nat) (k22 : Nat) (N22 : Nat) (o22 : Nat) (a23 : Int) (a24 : Int) (s0 : List Cell) (s1 : List Cell) (s3 : List Cell) (s4 : List Cell) (s5 : List Cell) (s6 : List Cell) (s7 : List Cell) (h : AHeap) :
    jacquardlaw8_RelTells_F1 C L G (jacquardlaw8_RelTells_s1 a4 k12 N12 o12 k15 N15 o15 k21 N21 o21 k22 N22 o22 a23 a24 s0 s1 s3 s4 s5 s6 s7 h) =
    if (decide (a24 < 64)) = true then rdH h k15 N15 fun l_75 => atK l_75 (o15 + 0) fun q_76 => asI .i64 (.c q_76) fun n_77 => scK (decide (a23 < n_77)) true (rdH h k15 N15 fun l_78 => atK l_78 (o15 + 0) fun q_79 => asI .i64 (.c q_79) fun n_80 => some ((decide (a24 < n_80)), h)) false h fun b_81 h_82 => scK b_81 true (c1 (C 7 [(.c (.ptr k15 N15 o15)), (.c (.int .i64 a23)), (.c (.int .i64 a24))] h_82) fun y_84 h_83 => asB y_84 fun b_85 => some (b_85, h_83)) false h_82 fun b_86 h_87 => if b_86 = true then if 0 ≤ a23 ∧ a23 < ((64 : Nat) : Int) then atK s7 (1 + ((Int.toNat a23) * 1)) fun q_88 => asI .u64 (.c q_88) fun n_89 => if 0 ≤ a24 ∧ a24 < ((64 : Nat) : Int) then atK s3 (1 + ((Int.toNat a24) * 1)) fun q_90 => asI .u64 (.c q_90) fun n_91 => if 0 ≤ a23 ∧ a23 < ((64 : Nat) : Int) then if (1 + ((Int.toNat a23) * 1)) < s7.length then rdH h_87 k12 N12 fun l_92 => atK l_92 (o12 + 0) fun q_93 => asI .i64 (.c q_93) fun n_94 => scK (decide (a23 < n_94)) true (rdH h_87 k12 N12 fun l_95 => atK l_95 (o12 + 0) fun q_96 => asI .i64 (.c q_96) fun n_97 => some ((decide (a24 < n_97)), h_87)) false h_87 fun b_98 h_99 => scK b_98 true (c1 (C 7 [(.c (.ptr k12 N12 o12)), (.c (.int .i64 a23)), (.c (.int .i64 a24))] h_99) fun y_101 h_100 => asB y_101 fun b_102 => some (b_102, h_100)) false h_99 fun b_103 h_104 => if b_103 = true then c0 (C 13 [(.c (.ptr k21 N21 o21)), (.c (.int .i64 a24)), (.c (.int .i64 a23))] h_104) fun h_105 => if a23 < 0 then none else scK ((G.band .u64 (G.shr .u64 a4 a23) 1) == 1) true (if a24 < 0 then none else some (((G.band .u64 (G.shr .u64 a4 a24) 1) == 1), h_105)) false h_105 fun b_106 h_107 => if b_106 = true then c0 (C 13 [(.c (.ptr k22 N22 o22)), (.c (.int .i64 a23)), (.c (.int .i64 a24))] h_107) fun h_108 => some (.normal, (jacquardlaw8_RelTells_s1 a4 k12 N12 o12 k15 N15 o15 k21 N21 o21 k22 N22 o22 a23 (G.wrap .i64 (a24 + 1)) s0 s1 s3 s4 s5 s6 (s7.set (1 + ((Int.toNat a23) * 1)) (.int .u64 (G.bor .u64 n_89 n_91))) h_108)) else some (.normal, (jacquardlaw8_RelTells_s1 a4 k12 N12 o12 k15 N15 o15 k21 N21 o21 k22 N22 o22 a23 (G.wrap .i64 (a24 + 1)) s0 s1 s3 s4 s5 s6 (s7.set (1 + ((Int.toNat a23) * 1)) (.int .u64 (G.bor .u64 n_89 n_91))) h_107)) else some (.normal, (jacquardlaw8_RelTells_s1 a4 k12 N12 o12 k15 N15 o15 k21 N21 o21 k22 N22 o22 a23 (G.wrap .i64 (a24 + 1)) s0 s1 s3 s4 s5 s6 (s7.set (1 + ((Int.toNat a23) * 1)) (.int .u64 (G.bor .u64 n_89 n_91))) h_104)) else none else none else none else none else rdH h_87 k12 N12 fun l_109 => atK l_109 (o12 + 0) fun q_110 => asI .i64 (.c q_110) fun n_111 => scK (decide (a23 < n_111)) true (rdH h_87 k12 N12 fun l_112 => atK l_112 (o12 + 0) fun q_113 => asI .i64 (.c q_113) fun n_114 => some ((decide (a24 < n_114)), h_87)) false h_87 fun b_115 h_116 => scK b_115 true (c1 (C 7 [(.c (.ptr k12 N12 o12)), (.c (.int .i64 a23)), (.c (.int .i64 a24))] h_116) fun y_118 h_117 => asB y_118 fun b_119 => some (b_119, h_117)) false h_116 fun b_120 h_121 => if b_120 = true then c0 (C 13 [(.c (.ptr k21 N21 o21)), (.c (.int .i64 a24)), (.c (.int .i64 a23))] h_121) fun h_122 => if a23 < 0 then none else scK ((G.band .u64 (G.shr .u64 a4 a23) 1) == 1) true (if a24 < 0 then none else some (((G.band .u64 (G.shr .u64 a4 a24) 1) == 1), h_122)) false h_122 fun b_123 h_124 => if b_123 = true then c0 (C 13 [(.c (.ptr k22 N22 o22)), (.c (.int .i64 a23)), (.c (.int .i64 a24))] h_124) fun h_125 => some (.normal, (jacquardlaw8_RelTells_s1 a4 k12 N12 o12 k15 N15 o15 k21 N21 o21 k22 N22 o22 a23 (G.wrap .i64 (a24 + 1)) s0 s1 s3 s4 s5 s6 s7 h_125)) else some (.normal, (jacquardlaw8_RelTells_s1 a4 k12 N12 o12 k15 N15 o15 k21 N21 o21 k22 N22 o22 a23 (G.wrap .i64 (a24 + 1)) s0 s1 s3 s4 s5 s6 s7 h_124)) else some (.normal, (jacquardlaw8_RelTells_s1 a4 k12 N12 o12 k15 N15 o15 k21 N21 o21 k22 N22 o22 a23 (G.wrap .i64 (a24 + 1)) s0 s1 s3 s4 s5 s6 s7 h_121)) else some ((.exit 2), (jacquardlaw8_RelTells_x1_3 a4 k12 N12 o12 k15 N15 o15 k21 N21 o21 k22 N22 o22 a23 s0 s1 s3 s4 s5 s6 s7 h)) := by kernel_rfl
theorem jacquardlaw8_RelTells_e1_3 (C : CallF) (L : LoopF) (G : Glo) (a4 : Int) (k12 : Nat) (N12 : Nat) (o12 : Nat) (k15 : Nat) (N15 : Nat) (o15 : Nat) (k21 : Nat) (N21 : Nat) (o21 : Nat) (k22 : Nat) (N22 : Nat) (o22 : Nat) (a23 : Int) (s0 : List Cell) (s1 : List Cell) (s3 : List Cell) (s4 : List Cell) (s5 : List Cell) (s6 : List Cell) (s7 : List Cell) (h : AHeap) :
    (jacquardlaw8_RelTells_k6 C L G) (.exit 2) (jacquardlaw8_RelTells_x1_3 a4 k12 N12 o12 k15 N15 o15 k21 N21 o21 k22 N22 o22 a23 s0 s1 s3 s4 s5 s6 s7 h) =
    some (.normal, (jacquardlaw8_RelTells_s2 a4 k12 N12 o12 k15 N15 o15 k21 N21 o21 k22 N22 o22 (G.wrap .i64 (a23 + 1)) s0 s1 s3 s4 s5 s6 s7 h)) := by kernel_rfl
theorem jacquardlaw8_RelTells_r2 (C : CallF) (L : LoopF) (G : Glo) (a4 : Int) (k12 : Nat) (N12 : Nat) (o12 : Nat) (k15 : Nat) (N15 : Nat) (o15 : Nat) (k21 : Nat) (N21 : Nat) (o21 : Nat) (k22 : Nat) (N22 : Nat) (o22 : Nat) (a23 : Int) (s0 : List Cell) (s1 : List Cell) (s3 : List Cell) (s4 : List Cell) (s5 : List Cell) (s6 : List Cell) (s7 : List Cell) (h : AHeap) :
    jacquardlaw8_RelTells_F2 C L G (jacquardlaw8_RelTells_s2 a4 k12 N12 o12 k15 N15 o15 k21 N21 o21 k22 N22 o22 a23 s0 s1 s3 s4 s5 s6 s7 h) =
    if (decide (a23 < 64)) = true then if 0 ≤ a23 ∧ a23 < ((64 : Nat) : Int) then rdH h k15 N15 fun l_60 => atK l_60 ((o15 + 1) + ((Int.toNat a23) * 1)) fun q_61 => asI .u64 (.c q_61) fun n_62 => if 0 ≤ a23 ∧ a23 < ((64 : Nat) : Int) then atK s3 (1 + ((Int.toNat a23) * 1)) fun q_63 => asI .u64 (.c q_63) fun n_64 => if 0 ≤ a23 ∧ a23 < ((64 : Nat) : Int) then rdH h k15 N15 fun l_65 => atK l_65 ((o15 + 1) + ((Int.toNat a23) * 1)) fun q_66 => asI .u64 (.c q_66) fun n_67 => if 0 ≤ a23 ∧ a23 < ((64 : Nat) : Int) then atK s3 (1 + ((Int.toNat a23) * 1)) fun q_68 => asI .u64 (.c q_68) fun n_69 => if 0 ≤ a23 ∧ a23 < ((64 : Nat) : Int) then rdH h k15 N15 fun l_70 => atK l_70 ((o15 + 1) + ((Int.toNat a23) * 1)) fun q_71 => asI .u64 (.c q_71) fun n_72 => if 0 ≤ a23 ∧ a23 < ((64 : Nat) : Int) then atK s3 (1 + ((Int.toNat a23) * 1)) fun q_73 => asI .u64 (.c q_73) fun n_74 => if 0 ≤ a23 ∧ a23 < ((64 : Nat) : Int) then if (1 + ((Int.toNat a23) * 1)) < s4.length then if 0 ≤ a23 ∧ a23 < ((64 : Nat) : Int) then if (1 + ((Int.toNat a23) * 1)) < s5.length then if 0 ≤ a23 ∧ a23 < ((64 : Nat) : Int) then if (1 + ((Int.toNat a23) * 1)) < s6.length then (L (jacquardlaw8_RelTells_F1 C L G) (jacquardlaw8_RelTells_s1 a4 k12 N12 o12 k15 N15 o15 k21 N21 o21 k22 N22 o22 a23 0 s0 s1 s3 (s4.set (1 + ((Int.toNat a23) * 1)) (.int .u64 (G.bor .u64 n_62 n_64))) (s5.set (1 + ((Int.toNat a23) * 1)) (.int .u64 (G.bandNot .u64 n_67 n_69))) (s6.set (1 + ((Int.toNat a23) * 1)) (.int .u64 (G.band .u64 n_72 n_74))) s7 h)).bind fun p_126 => (jacquardlaw8_RelTells_k6 C L G) p_126.1 p_126.2 else none else none else none else none else none else none else none else none else none else none else none else none else some ((.exit 0), (jacquardlaw8_RelTells_x2_1 a4 k12 N12 o12 k21 N21 o21 k22 N22 o22 s0 s1 s4 s5 s6 s7 h)) := by kernel_rfl
theorem jacquardlaw8_RelTells_e2_1 (C : CallF) (L : LoopF) (G : Glo) (h0 : AHeap) (a4 : Int) (k12 : Nat) (N12 : Nat) (o12 : Nat) (k21 : Nat) (N21 : Nat) (o21 : Nat) (k22 : Nat) (N22 : Nat) (o22 : Nat) (s0 : List Cell) (s1 : List Cell) (s4 : List Cell) (s5 : List Cell) (s6 : List Cell) (s7 : List Cell) (h : AHeap) :
    (jacquardlaw8_RelTells_k3 C L G h0) (.exit 0) (jacquardlaw8_RelTells_x2_1 a4 k12 N12 o12 k21 N21 o21 k22 N22 o22 s0 s1 s4 s5 s6 s7 h) =
    if 0 = 0 ∧ s0.length = 65 then if 0 = 0 ∧ s1.length = 65 then c1 (qh h (C 59 [(.agg s0), (.agg s1)] h)) fun y_128 h_127 => asA y_128 fun l_129 => if 0 = 0 ∧ s4.length = 65 then c1 (qh h (C 69 [(.agg l_129), (.agg s4)] h)) fun y_131 h_130 => asB y_131 fun b_132 => scK b_132 true (if 0 = 0 ∧ s0.length = 65 then if 0 = 0 ∧ s1.length = 65 then c1 (qh h (C 68 [(.agg s0), (.agg s1)] h)) fun y_134 h_133 => asA y_134 fun l_135 => if 0 = 0 ∧ s5.length = 65 then c1 (qh h (C 69 [(.agg l_135), (.agg s5)] h)) fun y_137 h_136 => asB y_137 fun b_138 => some (b_138, h) else none else none else none) false h fun b_139 h_140 => scK b_139 true (if 0 = 0 ∧ s0.length = 65 then if 0 = 0 ∧ s1.length = 65 then c1 (qh h_140 (C 67 [(.agg s0), (.agg s1)] h_140)) fun y_142 h_141 => asA y_142 fun l_143 => if 0 = 0 ∧ s6.length = 65 then c1 (qh h_140 (C 69 [(.agg l_143), (.agg s6)] h_140)) fun y_145 h_144 => asB y_145 fun b_146 => some (b_146, h_140) else none else none else none) false h_140 fun b_147 h_148 => scK b_147 true (if 0 = 0 ∧ s0.length = 65 then if 0 = 0 ∧ s1.length = 65 then c1 (qh h_148 (C 58 [(.agg s0), (.agg s1)] h_148)) fun y_150 h_149 => asA y_150 fun l_151 => if 0 = 0 ∧ s7.length = 65 then c1 (qh h_148 (C 69 [(.agg l_151), (.agg s7)] h_148)) fun y_153 h_152 => asB y_153 fun b_154 => some (b_154, h_148) else none else none else none) false h_148 fun b_155 h_156 => scK b_155 true (if 0 = 0 ∧ s0.length = 65 then c1 (qh h_156 (C 40 [(.agg s0)] h_156)) fun y_158 h_157 => asA y_158 fun l_159 => rdH h_156 k21 N21 fun l_160 => if o21 = 0 ∧ l_160.length = 65 then c1 (qh h_156 (C 69 [(.agg l_159), (.agg l_160)] h_156)) fun y_162 h_161 => asB y_162 fun b_163 => some (b_163, h_156) else none else none) false h_156 fun b_164 h_165 => scK b_164 true (if 0 = 0 ∧ s0.length = 65 then c1 (qh h_165 (C 12 [(.agg s0)] h_165)) fun y_167 h_166 => asA y_167 fun l_168 => rdH h_165 k12 N12 fun l_169 => if o12 = 0 ∧ l_169.length = 65 then c1 (qh h_165 (C 6 [(.agg l_169)] h_165)) fun y_171 h_170 => asA y_171 fun l_172 => c1 (qh h_165 (C 69 [(.agg l_168), (.agg l_172)] h_165)) fun y_174 h_173 => asB y_174 fun b_175 => some (b_175, h_165) else none else none) false h_165 fun b_176 h_177 => scK b_176 true (if 0 = 0 ∧ s0.length = 65 then c1 (qh h_177 (C 66 [(.agg s0), (.c (.int .u64 a4))] h_177)) fun y_179 h_178 => asA y_179 fun l_180 => rdH h_177 k22 N22 fun l_181 => if o22 = 0 ∧ l_181.length = 65 then c1 (qh h_177 (C 69 [(.agg l_180), (.agg l_181)] h_177)) fun y_183 h_182 => asB y_183 fun b_184 => some (b_184, h_177) else none else none) false h_177 fun b_185 h_186 => scK b_185 true (if 0 = 0 ∧ s0.length = 65 then c1 (qh h_186 (C 26 [(.agg s0)] h_186)) fun y_188 h_187 => asB y_188 fun b_189 => rdH h_186 k12 N12 fun l_190 => if o12 = 0 ∧ l_190.length = 65 then c1 (qh h_186 (C 71 [(.agg l_190)] h_186)) fun y_192 h_191 => asB y_192 fun b_193 => some ((b_189 == b_193), h_186) else none else none) false h_186 fun b_194 h_195 => scK b_194 true (c1 (qh h_195 (C 55 [] h_195)) fun y_197 h_196 => asB y_197 fun b_198 => some (b_198, h_195)) false h_195 fun b_199 h_200 => finish true h0 [(.c (.bool b_199))] h_200 else none else none else none := by kernel_rfl
set_option maxRecDepth 100000 in
theorem jacquardlaw8_RelTells_eq (C : CallF) (L : LoopF) (G : Glo) (a0 : Int) (x1 : Cell) (a2 : Int) (x3 : Cell) (a4 : Int) (h0 : AHeap) :
    jacquardlaw8_RelTells.body C L G [(.c (.int .i64 a0)), (.c x1), (.c (.int .i64 a2)), (.c x3), (.c (.int .u64 a4))] h0 =
    let v_1 : Int := (if 66 < (if (-2) > a0 then (-2) else a0) then 66 else (if (-2) > a0 then (-2) else a0)); let v_2 : Int := (if 66 < (if (-2) > a2 then (-2) else a2) then 66 else (if (-2) > a2 then (-2) else a2)); c2 (C 1 [(.c (.int .i64 v_1)), (.c x1)] h0) fun y_4 y_5 h_3 => asA y_4 fun l_6 => asA y_5 fun l_7 => if 0 = 0 ∧ ([Cell.int .i64 0] ++ List.replicate 64 (Cell.int .u64 0)).length = 65 ∧ l_6.length = 65 then rdH (h_3 ++ [some (Blk.mk true 0 ([Cell.int .i64 0] ++ List.replicate 64 (Cell.int .u64 0)))]) h_3.length (([Cell.int .i64 0] ++ List.replicate 64 (Cell.int .u64 0)).length) fun l_8 => if 0 = 0 ∧ l_8.length = 65 ∧ l_7.length = 65 then putH (h_3 ++ [some (Blk.mk true 0 ([Cell.int .i64 0] ++ List.replicate 64 (Cell.int .u64 0)))]) h_3.length l_7 fun h_9 => c2 (C 1 [(.c (.int .i64 v_2)), (.c x3)] h_9) fun y_11 y_12 h_10 => asA y_11 fun l_13 => asA y_12 fun l_14 => if 0 = 0 ∧ ([Cell.int .i64 0] ++ List.replicate 64 (Cell.int .u64 0)).length = 65 ∧ l_13.length = 65 then if 0 = 0 ∧ ([Cell.int .i64 0] ++ List.replicate 64 (Cell.int .u64 0)).length = 65 ∧ l_14.length = 65 then if 0 = 0 ∧ l_6.length = 65 then rdH h_10 h_3.length (([Cell.int .i64 0] ++ List.replicate 64 (Cell.int .u64 0)).length) fun l_15 => if 0 = 0 ∧ l_15.length = 65 then c1 (C 69 [(.agg l_6), (.agg l_15)] h_10) fun y_17 h_16 => asB y_17 fun b_18 => scK (!b_18) false (if 0 = 0 ∧ l_13.length = 65 then if 0 = 0 ∧ l_14.length = 65 then c1 (C 69 [(.agg l_13), (.agg l_14)] h_16) fun y_20 h_19 => asB y_20 fun b_21 => some ((!b_21), h_19) else none else none) true h_16 fun b_22 h_23 => if b_22 = true then finish true h0 [(.c (.bool false))] h_23 else rdH h_23 h_3.length (([Cell.int .i64 0] ++ List.replicate 64 (Cell.int .u64 0)).length) fun l_24 => if 0 = 0 ∧ l_24.length = 65 then atK l_14 0 fun q_25 => asI .i64 (.c q_25) fun n_26 => c1 (qh h_23 (C 70 [(.agg l_24), (.c (.int .i64 n_26))] h_23)) fun y_28 h_27 => asA y_28 fun l_29 => if 0 = 0 ∧ l_14.length = 65 then rdH h_23 h_3.length (([Cell.int .i64 0] ++ List.replicate 64 (Cell.int .u64 0)).length) fun l_30 => atK l_30 0 fun q_31 => asI .i64 (.c q_31) fun n_32 => c1 (qh h_23 (C 70 [(.agg l_14), (.c (.int .i64 n_32))] h_23)) fun y_34 h_33 => asA y_34 fun l_35 => if 0 = 0 ∧ ([Cell.int .i64 0] ++ List.replicate 64 (Cell.int .u64 0)).length = 65 ∧ l_29.length = 65 then if 0 = 0 ∧ ([Cell.int .i64 0] ++ List.replicate 64 (Cell.int .u64 0)).length = 65 ∧ l_35.length = 65 then rdH (h_23 ++ [some (Blk.mk true 0 l_29)]) h_23.length (l_29.length) fun l_38 => atK l_38 0 fun q_39 => asI .i64 (.c q_39) fun n_40 => rdH (h_23 ++ [some (Blk.mk true 0 l_29)]) h_23.length (l_29.length) fun l_41 => atK l_41 0 fun q_42 => asI .i64 (.c q_42) fun n_43 => rdH (h_23 ++ [some (Blk.mk true 0 l_29)]) h_23.length (l_29.length) fun l_44 => atK l_44 0 fun q_45 => asI .i64 (.c q_45) fun n_46 => rdH (h_23 ++ [some (Blk.mk true 0 l_29)]) h_23.length (l_29.length) fun l_47 => atK l_47 0 fun q_48 => asI .i64 (.c q_48) fun n_49 => rdH (h_23 ++ [some (Blk.mk true 0 l_29)]) h_3.length (([Cell.int .i64 0] ++ List.replicate 64 (Cell.int .u64 0)).length) fun l_50 => atK l_50 0 fun q_51 => asI .i64 (.c q_51) fun n_52 => rdH (h_23 ++ [some (Blk.mk true 0 l_29)]) h_3.length (([Cell.int .i64 0] ++ List.replicate 64 (Cell.int .u64 0)).length) fun l_53 => atK l_53 0 fun q_54 => asI .i64 (.c q_54) fun n_55 => if 0 = 0 ∧ ([Cell.int .i64 0] ++ List.replicate 64 (Cell.int .u64 0)).length = 65 ∧ (splice ([Cell.int .i64 0] ++ List.replicate 64 (Cell.int .u64 0)) 0 ([(.int .i64 n_40)] : List Cell)).length = 65 then if 0 = 0 ∧ ([Cell.int .i64 0] ++ List.replicate 64 (Cell.int .u64 0)).length = 65 ∧ (splice ([Cell.int .i64 0] ++ List.replicate 64 (Cell.int .u64 0)) 0 ([(.int .i64 n_43)] : List Cell)).length = 65 then if 0 = 0 ∧ ([Cell.int .i64 0] ++ List.replicate 64 (Cell.int .u64 0)).length = 65 ∧ (splice ([Cell.int .i64 0] ++ List.replicate 64 (Cell.int .u64 0)) 0 ([(.int .i64 n_46)] : List Cell)).length = 65 then if 0 = 0 ∧ ([Cell.int .i64 0] ++ List.replicate 64 (Cell.int .u64 0)).length = 65 ∧ (splice ([Cell.int .i64 0] ++ List.replicate 64 (Cell.int .u64 0)) 0 ([(.int .i64 n_49)] : List Cell)).length = 65 then if 0 = 0 ∧ ([Cell.int .i64 0] ++ List.replicate 64 (Cell.int .u64 0)).length = 65 ∧ (splice ([Cell.int .i64 0] ++ List.replicate 64 (Cell.int .u64 0)) 0 ([(.int .i64 n_52)] : List Cell)).length = 65 then if 0 = 0 ∧ ([Cell.int .i64 0] ++ List.replicate 64 (Cell.int .u64 0)).length = 65 ∧ (splice ([Cell.int .i64 0] ++ List.replicate 64 (Cell.int .u64 0)) 0 ([(.int .i64 n_55)] : List Cell)).length = 65 then (L (jacquardlaw8_RelTells_F2 C L G) (jacquardlaw8_RelTells_s2 a4 h_3.length (([Cell.int .i64 0] ++ List.replicate 64 (Cell.int .u64 0)).length) 0 h_23.length (l_29.length) 0 (h_23 ++ [some (Blk.mk true 0 l_29)]).length ((splice ([Cell.int .i64 0] ++ List.replicate 64 (Cell.int .u64 0)) 0 ([(.int .i64 n_52)] : List Cell)).length) 0 (((h_23 ++ [some (Blk.mk true 0 l_29)]) ++ [some (Blk.mk true 0 (splice ([Cell.int .i64 0] ++ List.replicate 64 (Cell.int .u64 0)) 0 ([(.int .i64 n_52)] : List Cell)))]).length) ((splice ([Cell.int .i64 0] ++ List.replicate 64 (Cell.int .u64 0)) 0 ([(.int .i64 n_55)] : List Cell)).length) 0 0 l_6 l_13 l_35 (splice ([Cell.int .i64 0] ++ List.replicate 64 (Cell.int .u64 0)) 0 ([(.int .i64 n_40)] : List Cell)) (splice ([Cell.int .i64 0] ++ List.replicate 64 (Cell.int .u64 0)) 0 ([(.int .i64 n_43)] : List Cell)) (splice ([Cell.int .i64 0] ++ List.replicate 64 (Cell.int .u64 0)) 0 ([(.int .i64 n_46)] : List Cell)) (splice ([Cell.int .i64 0] ++ List.replicate 64 (Cell.int .u64 0)) 0 ([(.int .i64 n_49)] : List Cell)) (((h_23 ++ [some (Blk.mk true 0 l_29)]) ++ [some (Blk.mk true 0 (splice ([Cell.int .i64 0] ++ List.replicate 64 (Cell.int .u64 0)) 0 ([(.int .i64 n_52)] : List Cell)))]) ++ [some (Blk.mk true 0 (splice ([Cell.int .i64 0] ++ List.replicate 64 (Cell.int .u64 0)) 0 ([(.int .i64 n_55)] : List Cell)))]))).bind fun p_201 => (jacquardlaw8_RelTells_k3 C L G h0) p_201.1 p_201.2 else none else none else none else none else none else none else none else none else none else none else none else none else none else none else none else none := by kernel_rfl


end Jq

namespace Jq
open Go

/- jacquard/jacquardref6.Closure: 6 -/
def jacquardref6_Closure_k2 (C : CallF) (L : LoopF) (G : Glo) (h0 : AHeap) : Ex → St → Option (List AV × AHeap) :=
  kSeq (fun st => jacquardref6_Closure_p1.exec C L G st (jacquardref6_Closure.fin G h0)) (jacquardref6_Closure.fin G h0)
def jacquardref6_Closure_k3 (C : CallF) (L : LoopF) (G : Glo) (h0 : AHeap) : Ex → St → Option (List AV × AHeap) :=
  kBlk 0 (jacquardref6_Closure_k2 C L G h0)
def jacquardref6_Closure_s2 (k1 : Nat) (N1 : Nat) (o1 : Nat) (a3 : Int) (s0 : List Cell) (h : AHeap) : St := ⟨[.top, .v (.c (.ptr k1 N1 o1)), .loc 0 0, .v (.c (.int .i64 a3)), .top, .top, .top, .top, .top, .top, .top, .top, .top, .top, .top, .top, .top, .top, .top, .top, .top, .top, .top, .top, .top, .top, .top, .top, .top, .top, .top, .top, .top], [some s0], h⟩
def jacquardref6_Closure_F2 (C : CallF) (L : LoopF) (G : Glo) : St → Option (Ex × St) :=
  roundF (fun st f => jacquardref6_Closure_b2.exec C L G st f) [1, 2, 3] [0] [(1, [1, 2], [0])]
def jacquardref6_Closure_k4 (C : CallF) (L : LoopF) (G : Glo) : Ex → St → Option (Ex × St) :=
  kSeq (fun st => jacquardref6_Closure_p2.exec C L G st (kLoop [1, 2, 3] [0] [(1, [1, 2], [0])])) (kLoop [1, 2, 3] [0] [(1, [1, 2], [0])])
def jacquardref6_Closure_k5 (C : CallF) (L : LoopF) (G : Glo) : Ex → St → Option (Ex × St) :=
  kBlk 1 (jacquardref6_Closure_k4 C L G)
def jacquardref6_Closure_k6 (C : CallF) (L : LoopF) (G : Glo) : Ex → St → Option (Ex × St) :=
  kBlk 2 (jacquardref6_Closure_k5 C L G)
def jacquardref6_Closure_s1 (k1 : Nat) (N1 : Nat) (o1 : Nat) (a3 : Int) (a4 : Int) (s0 : List Cell) (h : AHeap) : St := ⟨[.top, .v (.c (.ptr k1 N1 o1)), .loc 0 0, .v (.c (.int .i64 a3)), .v (.c (.int .i64 a4)), .top, .top, .top, .top, .top, .top, .top, .top, .top, .top, .top, .top, .top, .top, .top, .top, .top, .top, .top, .top, .top, .top, .top, .top, .top, .top, .top, .top], [some s0], h⟩
def jacquardref6_Closure_F1 (C : CallF) (L : LoopF) (G : Glo) : St → Option (Ex × St) :=
  roundF (fun st f => jacquardref6_Closure_b1.exec C L G st f) [1, 2, 3, 4] [0] [(3, [1, 2, 3], [0])]
def jacquardref6_Closure_x1_3 (k1 : Nat) (N1 : Nat) (o1 : Nat) (a3 : Int) (s0 : List Cell) (h : AHeap) : St := ⟨[.top, .v (.c (.ptr k1 N1 o1)), .loc 0 0, .v (.c (.int .i64 a3)), .top, .top, .top, .top, .top, .top, .top, .top, .top, .top, .top, .top, .top, .top, .top, .top, .top, .top, .top, .top, .top, .top, .top, .top, .top, .top, .top, .top, .top], [some s0], h⟩
def jacquardref6_Closure_x2_1 (k1 : Nat) (N1 : Nat) (o1 : Nat) (s0 : List Cell) (h : AHeap) : St := ⟨[.top, .v (.c (.ptr k1 N1 o1)), .loc 0 0, .top, .top, .top, .top, .top, .top, .top, .top, .top, .top, .top, .top, .top, .top, .top, .top, .top, .top, .top, .top, .top, .top, .top, .top, .top, .top, .top, .top, .top, .top], [some s0], h⟩
theorem jacquardref6_Closure_r1 (C : CallF) (L : LoopF) (G : Glo) (k1 : Nat) (N1 : Nat) (o1 : Nat) (a3 : Int) (a4 : Int) (s0 : List Cell) (h : AHeap) :
    jacquardref6_Closure_F1 C L G (jacquardref6_Closure_s1 k1 N1 o1 a3 a4 s0 h) =
    rdH h k1 N1 fun l_4 => atK l_4 (o1 + 0) fun q_5 => asI .i64 (.c q_5) fun n_6 => if (decide (a4 < n_6)) = true then c1 (C 7 [(.c (.ptr k1 N1 o1)), (.c (.int .i64 a4)), (.c (.int .i64 a3))] h) fun y_8 h_7 => asB y_8 fun b_9 => if b_9 = true then if 0 ≤ a4 ∧ a4 < ((64 : Nat) : Int) then rdH h_7 k1 N1 fun l_10 => atK l_10 ((o1 + 1) + ((Int.toNat a4) * 1)) fun q_11 => asI .u64 (.c q_11) fun n_12 => if 0 ≤ a3 ∧ a3 < ((64 : Nat) : Int) then rdH h_7 k1 N1 fun l_13 => atK l_13 ((o1 + 1) + ((Int.toNat a3) * 1)) fun q_14 => asI .u64 (.c q_14) fun n_15 => if 0 ≤ a4 ∧ a4 < ((64 : Nat) : Int) then rdH h_7 k1 N1 fun l_16 => if ((o1 + 1) + ((Int.toNat a4) * 1)) < l_16.length then putH h_7 k1 (l_16.set ((o1 + 1) + ((Int.toNat a4) * 1)) (.int .u64 (G.bor .u64 n_12 n_15))) fun h_17 => some (.normal, (jacquardref6_Closure_s1 k1 N1 o1 a3 (G.wrap .i64 (a4 + 1)) s0 h_17)) else none else none else none else none else some (.normal, (jacquardref6_Closure_s1 k1 N1 o1 a3 (G.wrap .i64 (a4 + 1)) s0 h_7)) else some ((.exit 2), (jacquardref6_Closure_x1_3 k1 N1 o1 a3 s0 h)) := by kernel_rfl
theorem jacquardref6_Closure_e1_3 (C : CallF) (L : LoopF) (G : Glo) (k1 : Nat) (N1 : Nat) (o1 : Nat) (a3 : Int) (s0 : List Cell) (h : AHeap) :
    (jacquardref6_Closure_k6 C L G) (.exit 2) (jacquardref6_Closure_x1_3 k1 N1 o1 a3 s0 h) =
    some (.normal, (jacquardref6_Closure_s2 k1 N1 o1 (G.wrap .i64 (a3 + 1)) s0 h)) := by kernel_rfl
theorem jacquardref6_Closure_r2 (C : CallF) (L : LoopF) (G : Glo) (k1 : Nat) (N1 : Nat) (o1 : Nat) (a3 : Int) (s0 : List Cell) (h : AHeap) :
    jacquardref6_Closure_F2 C L G (jacquardref6_Closure_s2 k1 N1 o1 a3 s0 h) =
    rdH h k1 N1 fun l_1 => atK l_1 (o1 + 0) fun q_2 => asI .i64 (.c q_2) fun n_3 => if (decide (a3 < n_3)) = true then (L (jacquardref6_Closure_F1 C L G) (jacquardref6_Closure_s1 k1 N1 o1 a3 0 s0 h)).bind fun p_18 => (jacquardref6_Closure_k6 C L G) p_18.1 p_18.2 else some ((.exit 0), (jacquardref6_Closure_x2_1 k1 N1 o1 s0 h)) := by kernel_rfl
theorem jacquardref6_Closure_e2_1 (C : CallF) (L : LoopF) (G : Glo) (h0 : AHeap) (k1 : Nat) (N1 : Nat) (o1 : Nat) (s0 : List Cell) (h : AHeap) :
    (jacquardref6_Closure_k3 C L G h0) (.exit 0) (jacquardref6_Closure_x2_1 k1 N1 o1 s0 h) =
    rdH h k1 N1 fun l_19 => if o1 = 0 ∧ l_19.length = 65 then if 0 = 0 ∧ s0.length = 65 ∧ l_19.length = 65 then if 0 = 0 ∧ l_19.length = 65 then finish true h0 [(.agg l_19)] h else none else none else none := by kernel_rfl
set_option maxRecDepth 100000 in
theorem jacquardref6_Closure_eq (C : CallF) (L : LoopF) (G : Glo) (l0 : List Cell) (h0 : AHeap) :
    jacquardref6_Closure.body C L G [(.agg l0)] h0 =
    (L (jacquardref6_Closure_F2 C L G) (jacquardref6_Closure_s2 h0.length ((AV.cells (.agg l0)).length) 0 0 ([Cell.int .i64 0] ++ List.replicate 64 (Cell.int .u64 0)) (h0 ++ [some (Blk.mk true 0 (AV.cells (.agg l0)))]))).bind fun p_20 => (jacquardref6_Closure_k3 C L G h0) p_20.1 p_20.2 := by kernel_rfl

/- (*jacquard/jacquardref6.Rel).Has: 7 -/
set_option maxRecDepth 100000 in
theorem jacquardref6_Rel_Has_eq (C : CallF) (L : LoopF) (G : Glo) (k0 : Nat) (N0 : Nat) (o0 : Nat) (a1 : Int) (a2 : Int) (h0 : AHeap) :
    jacquardref6_Rel_Has.body C L G [(.c (.ptr k0 N0 o0)), (.c (.int .i64 a1)), (.c (.int .i64 a2))] h0 =
    if 0 ≤ a1 ∧ a1 < ((64 : Nat) : Int) then rdH h0 k0 N0 fun l_1 => atK l_1 ((o0 + 1) + ((Int.toNat a1) * 1)) fun q_2 => asI .u64 (.c q_2) fun n_3 => if a2 < 0 then none else some ([(.c (.bool ((G.band .u64 (G.shr .u64 n_3 a2) 1) == 1)))], h0) else none := by kernel_rfl

/- (*jacquard/jacquardref6.Rel).Add: 13 -/
set_option maxRecDepth 100000 in
theorem jacquardref6_Rel_Add_eq (C : CallF) (L : LoopF) (G : Glo) (k0 : Nat) (N0 : Nat) (o0 : Nat) (a1 : Int) (a2 : Int) (h0 : AHeap) :
    jacquardref6_Rel_Add.body C L G [(.c (.ptr k0 N0 o0)), (.c (.int .i64 a1)), (.c (.int .i64 a2))] h0 =
    if 0 ≤ a1 ∧ a1 < ((64 : Nat) : Int) then rdH h0 k0 N0 fun l_1 => atK l_1 ((o0 + 1) + ((Int.toNat a1) * 1)) fun q_2 => asI .u64 (.c q_2) fun n_3 => if a2 < 0 then none else if 0 ≤ a1 ∧ a1 < ((64 : Nat) : Int) then rdH h0 k0 N0 fun l_4 => if ((o0 + 1) + ((Int.toNat a1) * 1)) < l_4.length then putH h0 k0 (l_4.set ((o0 + 1) + ((Int.toNat a1) * 1)) (.int .u64 (G.bor .u64 n_3 (G.shl .u64 1 a2)))) fun h_5 => some ([], h_5) else none else none else none := by kernel_rfl

/- jacquard/jacquardref6.Acyclic: 71 -/
def jacquardref6_Acyclic_k2 (C : CallF) (L : LoopF) (G : Glo) (h0 : AHeap) : Ex → St → Option (List AV × AHeap) :=
  kSeq (fun st => jacquardref6_Acyclic_p1.exec C L G st (jacquardref6_Acyclic.fin G h0)) (jacquardref6_Acyclic.fin G h0)
def jacquardref6_Acyclic_k3 (C : CallF) (L : LoopF) (G : Glo) (h0 : AHeap) : Ex → St → Option (List AV × AHeap) :=
  kBlk 0 (jacquardref6_Acyclic_k2 C L G h0)
def jacquardref6_Acyclic_s1 (k3 : Nat) (N3 : Nat) (o3 : Nat) (a4 : Int) (s0 : List Cell) (h : AHeap) : St := ⟨[.top, .loc 0 0, .top, .v (.c (.ptr k3 N3 o3)), .v (.c (.int .i64 a4)), .top, .top, .top, .top, .top, .top, .top, .top, .top, .top, .top], [some s0], h⟩
def jacquardref6_Acyclic_F1 (C : CallF) (L : LoopF) (G : Glo) : St → Option (Ex × St) :=
  roundF (fun st f => jacquardref6_Acyclic_b1.exec C L G st f) [1, 3, 4] [0] [(0, [2], []), (1, [], [])]
def jacquardref6_Acyclic_x1_0 (b2 : Bool) (h : AHeap) : St := ⟨[.top, .top, .v (.c (.bool b2)), .top, .top, .top, .top, .top, .top, .top, .top, .top, .top, .top, .top, .top], [none], h⟩
def jacquardref6_Acyclic_x1_1 (h : AHeap) : St := ⟨[.top, .top, .top, .top, .top, .top, .top, .top, .top, .top, .top, .top, .top, .top, .top, .top], [none], h⟩
theorem jacquardref6_Acyclic_r1 (C : CallF) (L : LoopF) (G : Glo) (k3 : Nat) (N3 : Nat) (o3 : Nat) (a4 : Int) (s0 : List Cell) (h : AHeap) :
    jacquardref6_Acyclic_F1 C L G (jacquardref6_Acyclic_s1 k3 N3 o3 a4 s0 h) =
    atK s0 0 fun q_6 => asI .i64 (.c q_6) fun n_7 => if (decide (a4 < n_7)) = true then c1 (C 7 [(.c (.ptr k3 N3 o3)), (.c (.int .i64 a4)), (.c (.int .i64 a4))] h) fun y_9 h_8 => asB y_9 fun b_10 => if b_10 = true then some (.ret, (jacquardref6_Acyclic_x1_0 false h_8)) else some (.normal, (jacquardref6_Acyclic_s1 k3 N3 o3 (G.wrap .i64 (a4 + 1)) s0 h_8)) else some ((.exit 0), (jacquardref6_Acyclic_x1_1 h)) := by kernel_rfl
theorem jacquardref6_Acyclic_e1_0 (C : CallF) (L : LoopF) (G : Glo) (h0 : AHeap) (b2 : Bool) (h : AHeap) :
    (jacquardref6_Acyclic_k3 C L G h0) .ret (jacquardref6_Acyclic_x1_0 b2 h) =
    finish true h0 [(.c (.bool b2))] h := by kernel_rfl
theorem jacquardref6_Acyclic_e1_1 (C : CallF) (L : LoopF) (G : Glo) (h0 : AHeap) (h : AHeap) :
    (jacquardref6_Acyclic_k3 C L G h0) (.exit 0) (jacquardref6_Acyclic_x1_1 h) =
    finish true h0 [(.c (.bool true))] h := by kernel_rfl
set_option maxRecDepth 100000 in
theorem jacquardref6_Acyclic_eq (C : CallF) (L : LoopF) (G : Glo) (l0 : List Cell) (h0 : AHeap) :
    jacquardref6_Acyclic.body C L G [(.agg l0)] h0 =
    if 0 = 0 ∧ l0.length = 65 then c1 (C 6 [(.agg l0)] h0) fun y_2 h_1 => asA y_2 fun l_3 => rdH (h_1 ++ [some (Blk.mk true 0 ([Cell.int .i64 0] ++ List.replicate 64 (Cell.int .u64 0)))]) h_1.length (([Cell.int .i64 0] ++ List.replicate 64 (Cell.int .u64 0)).length) fun l_4 => if 0 = 0 ∧ l_4.length = 65 ∧ l_3.length = 65 then putH (h_1 ++ [some (Blk.mk true 0 ([Cell.int .i64 0] ++ List.replicate 64 (Cell.int .u64 0)))]) h_1.length l_3 fun h_5 => (L (jacquardref6_Acyclic_F1 C L G) (jacquardref6_Acyclic_s1 h_1.length (([Cell.int .i64 0] ++ List.replicate 64 (Cell.int .u64 0)).length) 0 0 l0 h_5)).bind fun p_11 => (jacquardref6_Acyclic_k3 C L G h0) p_11.1 p_11.2 else none else none := by kernel_rfl


end Jq

/- The statements of relations: what their helpers come to. -/
namespace Jq
open Go

/-- A relation of pairs. -/
def ofR (n : Nat) (l : List (Int × Int)) : Nat → Nat := l.foldl (fun f p => addR n f p.1 p.2) fun _ => 0

theorem words_of (n : Nat) (l : List (Int × Int)) : Words (ofR n l) := by
  unfold ofR
  have : ∀ (l : List (Int × Int)) (f : Nat → Nat), Words f → Words (l.foldl (fun f p => addR n f p.1 p.2) f) := by
    intro l
    induction l with
    | nil => exact fun f h => h
    | cons p l ih => exact fun f h => ih _ (words_add h _ _)
  exact this l _ words_zero

theorem of_snoc (n : Nat) (l : List (Int × Int)) (p : Int × Int) : ofR n (l ++ [p]) = addR n (ofR n l) p.1 p.2 := by
  unfold ofR; rw [List.foldl_append]; rfl

theorem take_succ {α : Type} {l : List α} {i : Nat} {p : α} (h : l[i]? = some p) : l.take (i + 1) = l.take i ++ [p] := by
  rw [List.take_add_one, h]; rfl

variable {E : Env}

theorem refAdd_R (hE : jacquardref6_Rel_Add_In E) {n : Nat} (hn : n ≤ 64) {f : Nat → Nat} (hf : Words f) {a b : Int} (ha : inR n a = true) (hb : inR n b = true) {k : Nat} {h : AHeap} (hk : blk? h k = some ⟨true, 0, relL n f⟩) :
    R E 13 [.c (.ptr k 65 0), .c (.int .i64 a), .c (.int .i64 b)] h = some ([], setBlk h k (some ⟨true, 0, relL n (addR n f a b)⟩)) := by
  refine R_intro hE.fn ?_
  have h2 : 0 ≤ a ∧ a < n := by simpa [inR] using ha
  have h3 : 0 ≤ b ∧ b < n := by simpa [inR] using hb
  have q1 : 0 ≤ a ∧ a < ((64 : Nat) : Int) := by omega
  obtain ⟨m, rfl⟩ := Int.eq_ofNat_of_zero_le h3.1
  have hbit : bitI (m : Int) = 2 ^ m := by unfold bitI; rw [if_pos (by omega)]; simp
  rw [jacquardref6_Rel_Add_eq, if_pos q1, rdH_ok hk (relL_len n f)]
  dsimp only
  rw [show 0 + 1 + a.toNat * 1 = 1 + a.toNat by omega, atK_ok (relL_row (by omega)), asI_ok, if_neg (by omega), if_pos q1, rdH_ok hk (relL_len n f)]
  dsimp only
  rw [if_pos (by rw [relL_len]; omega), g_shl_one (by omega), ← hbit, g_bor (hf _) (bitI_lt _), relL_set, putH_ok hk rfl]
  unfold addR
  rw [ha, hb]; rfl

theorem inR_le {n : Nat} {a : Int} : inR n a = (decide (a ≥ 0) && decide (a < n)) := rfl

theorem Of_R (hE : jacquardlaw8_Of_In E) (a : Int) {x : Cell} {l : List (Int × Int)} {h : AHeap} (hx : SlAt h x 2 (pairC l) l.length) (hlow : Low h.length x) :
    R E 1 [.c (.int .i64 a), .c x] h = some ([.agg (relL (clamp a) (ofR (clamp a) (l.take 200))), .agg (relL (clamp a) (ofR (clamp a) (l.take 200)))], h) := by
  refine R_intro hE.fn ?_
  have hn : clamp a ≤ 64 := by unfold clamp; omega
  generalize hN : clamp a = n at hn ⊢
  have hv : (if 64 < (if 0 > a then 0 else a) then 64 else (if 0 > a then 0 else a)) = (n : Int) := by
    rw [← hN]; unfold clamp; split <;> split <;> omega
  rw [jacquardlaw8_Of_eq, New_R hE.c9, c1_ok, asA_ok, if_pos ⟨rfl, zero_len, relL_len _ _⟩, hN]
  simp only [hv, zero_rel, relL_len]
  rw [rdH_ok (blk_new h _) (relL_len _ _)]
  dsimp only
  rw [if_pos ⟨by trivial, relL_len _ _, by rw [splice_zero]; exact relL_len _ _⟩, splice_zero, putH_ok (blk_new h _) rfl, setBlk_last]
  dsimp only
  let g : Nat → St := fun i => jacquardlaw8_Of_s1 x h.length 65 0 (i : Int) (relL 0 fun _ => 0) (relL 0 fun _ => 0) (relL n (ofR n (l.take i))) (h ++ [some ⟨true, 0, relL n (ofR n (l.take i))⟩])
  have hk : ∀ t : AHeap, SlAt (h ++ t) x 2 (pairC l) l.length := fun t => hx.keep hlow (Kp.app t (Nat.le_refl _))
  have loop : Lim (jacquardlaw8_Of_F1 (R E) Lim E.glob) (g 0) = some (.exit 0, jacquardlaw8_Of_x1_1 h.length 65 0 (relL 0 fun _ => 0) (relL 0 fun _ => 0) (relL n (ofR n (l.take 200))) (h ++ [some ⟨true, 0, relL n (ofR n (l.take 200))⟩])) := by
    refine Lim_count g 0 (min l.length 200) (by omega) (fun i _ hi => ?_) ?_
    · obtain ⟨p, hp⟩ : ∃ p, l[i]? = some p := ⟨l[i], by simp⟩
      obtain ⟨g1, g2⟩ := pairC_get l i p hp
      have hil : i < l.length := by omega
      have hw := words_of n (l.take i)
      have hki := hk [some ⟨true, 0, relL n (ofR n (l.take i))⟩]
      show jacquardlaw8_Of_F1 (R E) Lim E.glob (jacquardlaw8_Of_s1 x h.length 65 0 (i : Int) _ _ _ _) = _
      rw [jacquardlaw8_Of_r1, hx.len, scK_and, show (decide ((i : Int) < (l.length : Int)) && decide ((i : Int) < 200)) = true by simp; omega]
      simp only [if_true]
      rw [hki.get hil (by omega) g1, asI_ok, hki.get hil (by omega) g2, asI_ok, if_pos ⟨by trivial, relL_len _ _⟩, Add_R hE.c10 hn hw, c1_ok, asA_ok, if_pos ⟨by trivial, relL_len _ _, relL_len _ _⟩]
      rw [rdH_ok (blk_new h _) (relL_len _ _), atK_ok (i := 0 + 0) (relL_zero _ _), asI_ok, scK_and, ← inR_le, scK_and, rdH_ok (blk_new h _) (relL_len _ _), atK_ok (i := 0 + 0) (relL_zero _ _), asI_ok, scK_and, Bool.and_assoc, ← inR_le]
      have hnext : g (i + 1) = jacquardlaw8_Of_s1 x h.length 65 0 ((i + 1 : Nat) : Int) (relL 0 fun _ => 0) (relL 0 fun _ => 0) (relL n (addR n (ofR n (l.take i)) p.1 p.2)) (h ++ [some ⟨true, 0, relL n (addR n (ofR n (l.take i)) p.1 p.2)⟩]) := by
        show jacquardlaw8_Of_s1 x h.length 65 0 ((i + 1 : Nat) : Int) _ _ _ _ = _
        rw [take_succ hp, of_snoc]
      rw [hnext]
      by_cases hin : (inR n p.1 && inR n p.2) = true
      · rw [hin]
        simp only [Bool.and_eq_true] at hin
        simp only [if_true]
        rw [refAdd_R hE.c13 hn hw hin.1 hin.2 (blk_new h _), c0_ok, setBlk_last, g_succ (by omega)]
      · have hadd : addR n (ofR n (l.take i)) p.1 p.2 = ofR n (l.take i) := by unfold addR; rw [if_neg hin]
        rw [show (inR n p.1 && inR n p.2) = false by simpa using hin, hadd]
        simp only [Bool.false_eq_true, if_false]
        rw [g_succ (by omega)]
    · refine Lim_exit ?_
      show jacquardlaw8_Of_F1 (R E) Lim E.glob (jacquardlaw8_Of_s1 x h.length 65 0 ((min l.length 200 : Nat) : Int) _ _ _ _) = _
      rw [jacquardlaw8_Of_r1, hx.len, scK_and, show (decide (((min l.length 200 : Nat) : Int) < (l.length : Int)) && decide (((min l.length 200 : Nat) : Int) < 200)) = false by simp; omega]
      simp only [Bool.false_eq_true, if_false]
      have : l.take (min l.length 200) = l.take 200 := by rw [Nat.min_comm, ← List.take_take, List.take_length]
      rw [this]
  have start : g 0 = jacquardlaw8_Of_s1 x h.length 65 0 0 (relL 0 fun _ => 0) (relL 0 fun _ => 0) (relL n fun _ => 0) (h ++ [some ⟨true, 0, relL n fun _ => 0⟩]) := rfl
  rw [start] at loop
  rw [loop, bind_ok, jacquardlaw8_Of_e1_1, if_pos ⟨rfl, relL_len _ _⟩, rdH_ok (blk_new h _) (relL_len _ _)]
  simp only [relL_len, and_self, if_true]
  unfold finish
  have hgc : gcOk h (h ++ [some ⟨true, 0, relL n (ofR n (l.take 200))⟩]) [.agg (relL n (ofR n (l.take 200))), .agg (relL n (ofR n (l.take 200)))] = true := by
    have hav : ∀ (m k : Nat) (f : Nat → Nat), avOk m (.agg (relL k f)) = true := by
      intro m k f
      simp [avOk, AV.cells, relL, idOk]
    simp only [gcOk, Bool.and_eq_true, List.all_cons, List.all_nil, hav, decide_eq_true_eq, List.length_append, List.all_eq_true, List.mem_range, Bool.or_eq_true]
    exact ⟨⟨by omega, by trivial⟩, fun k hk => .inl (List.getElem?_append_left hk)⟩
  simp only [hgc, if_true, List.take_left]

theorem awake8_R (hE : jacquardlaw8_awake_In E) (h : AHeap) : R E 55 [] h = some ([.c (.bool true)], h) := by
  refine R_intro hE.fn ?_
  have w0 : Words fun _ => 0 := words_zero
  have w1 : Words (addR 3 (fun _ => 0) 0 1) := words_add w0 0 1
  have w2 : Words (addR 3 (addR 3 (fun _ => 0) 0 1) 1 2) := words_add w1 1 2
  have w3 := words_add (n := 3) w2 2 0
  have w4 := words_clK w2 3 3
  have c3 : clamp 3 = 3 := rfl
  have b1 : hasR 3 (clK 3 (addR 3 (addR 3 (fun _ => 0) 0 1) 1 2) 3) 0 2 = true := by decide +kernel
  have b2 : hasR 3 (addR 3 (addR 3 (fun _ => 0) 0 1) 1 2) 0 2 = false := by decide +kernel
  have b3 : acycR 3 (addR 3 (addR 3 (fun _ => 0) 0 1) 1 2) = true := by decide +kernel
  have b4 : acycR 3 (addR 3 (addR 3 (addR 3 (fun _ => 0) 0 1) 1 2) 2 0) = false := by decide +kernel
  rw [jacquardlaw8_awake_eq, New_R hE.c9, c1_ok, asA_ok, c3, Add_R hE.c10 (by omega) w0, c1_ok, asA_ok, Add_R hE.c10 (by omega) w1, c1_ok, asA_ok, if_pos ⟨rfl, zero_len, relL_len _ _⟩, if_pos ⟨rfl, relL_len _ _⟩,
    Closure_R hE.c12 (by omega) w2, c1_ok, asA_ok, HasR_R hE.c3 (by omega) w4, c1_ok, asB_ok, b1, scK_ok, if_pos ⟨rfl, relL_len _ _⟩, HasR_R hE.c3 (by omega) w2, c1_ok, asB_ok, b2, bind_ok]
  dsimp only
  rw [show (!false) = true from rfl, scK_ok, if_pos ⟨rfl, relL_len _ _⟩, Acyclic_R hE.c26 (by omega) w2, c1_ok, asB_ok, b3, bind_ok]
  dsimp only
  rw [scK_ok, if_pos ⟨rfl, relL_len _ _⟩, Add_R hE.c10 (by omega) w2, c1_ok, asA_ok, Acyclic_R hE.c26 (by omega) w3, c1_ok, asB_ok, b4, bind_ok]
  dsimp only
  rw [show (!false) = true from rfl, scK_ok, if_pos ⟨rfl, relL_len _ _⟩, N_R hE.c14, c1_ok, asI_ok, bind_ok]
  rfl

/- What pairs make. -/
theorem addR_bit {n : Nat} (hn : n ≤ 64) (f : Nat → Nat) (x y : Int) (a b : Nat) : (addR n f x y a).testBit b = ((f a).testBit b || (inR n x && inR n y && decide (x = a) && decide (y = b))) := by
  unfold addR
  by_cases hin : (inR n x && inR n y) = true
  · rw [if_pos hin, hin, Bool.true_and]
    simp only [Bool.and_eq_true] at hin
    have hx : 0 ≤ x ∧ x < n := by simpa [inR] using hin.1
    have hy : 0 ≤ y ∧ y < n := by simpa [inR] using hin.2
    unfold updF
    by_cases ha : a = x.toNat
    · rw [if_pos ha, Nat.testBit_or, testBit_bitI, ← ha]
      have h1 : decide (x = (a : Int)) = true := by simp; omega
      rw [h1, Bool.true_and]
      by_cases hb : y = (b : Int)
      · have : b < 64 := by omega
        simp [hb, this]
      · simp [hb]
    · rw [if_neg ha]
      have h1 : decide (x = (a : Int)) = false := by simp; omega
      rw [h1, Bool.false_and, Bool.or_false]
  · rw [if_neg hin, show (inR n x && inR n y) = false by simpa using hin]; simp

theorem of_bit {n : Nat} (hn : n ≤ 64) (l : List (Int × Int)) (a b : Nat) : (ofR n l a).testBit b = true ↔ ∃ p ∈ l, inR n p.1 = true ∧ inR n p.2 = true ∧ p.1 = a ∧ p.2 = b := by
  have key : ∀ (l : List (Int × Int)) (f : Nat → Nat), ((l.foldl (fun f p => addR n f p.1 p.2) f) a).testBit b = true ↔ ((f a).testBit b = true ∨ ∃ p ∈ l, inR n p.1 = true ∧ inR n p.2 = true ∧ p.1 = a ∧ p.2 = b) := by
    intro l
    induction l with
    | nil => intro f; simp
    | cons p l ih =>
      intro f
      rw [List.foldl_cons, ih, addR_bit hn, Bool.or_eq_true]
      simp only [List.mem_cons, Bool.and_eq_true, decide_eq_true_eq]
      constructor
      · rintro ((h | ⟨⟨⟨h1, h2⟩, h3⟩, h4⟩) | ⟨q, hq, h⟩)
        · exact .inl h
        · exact .inr ⟨p, .inl rfl, h1, h2, h3, h4⟩
        · exact .inr ⟨q, .inr hq, h⟩
      · rintro (h | ⟨q, rfl | hq, h⟩)
        · exact .inl (.inl h)
        · exact .inl (.inr ⟨⟨⟨h.1, h.2.1⟩, h.2.2.1⟩, h.2.2.2⟩)
        · exact .inr ⟨q, hq, h⟩
  unfold ofR
  rw [key]; simp

theorem inR_nat {n a : Nat} : inR n (a : Int) = decide (a < n) := by
  unfold inR
  rw [Bool.eq_iff_iff]; simp

end Jq

/- Relations: joining, meeting, putting behind one another, turning, cutting down, pairs. -/
namespace Jq
open Go

/-- The word of these numbers. -/
def mkN (p : Nat → Bool) : Nat := (List.range 64).foldl (fun a j => if p j then a ||| 2 ^ j else a) 0

theorem mkN_aux (p : Nat → Bool) : ∀ m, m ≤ 64 → ((List.range m).foldl (fun a j => if p j then a ||| 2 ^ j else a) 0) < 2 ^ 64 ∧ ∀ j, ((List.range m).foldl (fun a j => if p j then a ||| 2 ^ j else a) 0).testBit j = (decide (j < m) && p j)
  | 0, _ => ⟨by simp, fun j => by simp⟩
  | m + 1, hm => by
    obtain ⟨h1, h2⟩ := mkN_aux p m (by omega)
    rw [List.range_succ, List.foldl_append, List.foldl_cons, List.foldl_nil]
    have hp : 2 ^ m < 2 ^ 64 := Nat.pow_lt_pow_right (by omega) (by omega)
    by_cases hpm : p m = true
    · rw [if_pos hpm]
      refine ⟨or_lt h1 hp, fun j => ?_⟩
      rw [Nat.testBit_or, h2, Nat.testBit_two_pow]
      by_cases hj : j = m
      · subst hj; simp [hpm]
      · rw [show decide (m = j) = false by simp; omega, Bool.or_false]
        congr 1
        rw [Bool.eq_iff_iff]; simp; omega
    · rw [if_neg hpm]
      refine ⟨h1, fun j => ?_⟩
      rw [h2]
      by_cases hj : j = m
      · subst hj; simp [hpm]
      · congr 1
        rw [Bool.eq_iff_iff]; simp; omega

theorem mkN_lt (p : Nat → Bool) : mkN p < 2 ^ 64 := (mkN_aux p 64 (Nat.le_refl _)).1
theorem testBit_mkN (p : Nat → Bool) (j : Nat) : (mkN p).testBit j = (decide (j < 64) && p j) := (mkN_aux p 64 (Nat.le_refl _)).2 j

theorem words_mkN (p : Nat → Nat → Bool) : Words fun i => mkN (p i) := fun _ => mkN_lt _

theorem eq_of_bits {a b : Nat} (ha : a < 2 ^ 64) (hb : b < 2 ^ 64) (h : ∀ j, j < 64 → a.testBit j = b.testBit j) : a = b := by
  refine Nat.eq_of_testBit_eq fun j => ?_
  rcases Nat.lt_or_ge j 64 with hj | hj
  · exact h j hj
  · have h64 : 2 ^ 64 ≤ 2 ^ j := Nat.pow_le_pow_right (by omega) hj
    rw [Nat.testBit_lt_two_pow (Nat.lt_of_lt_of_le ha h64), Nat.testBit_lt_two_pow (Nat.lt_of_lt_of_le hb h64)]

theorem relL_ext {n m : Nat} {f g : Nat → Nat} (hn : n = m) (hf : Words f) (hg : Words g) (h : ∀ i j, i < 64 → j < 64 → (f i).testBit j = (g i).testBit j) : relL n f = relL m g := by
  subst hn
  exact relL_congr fun i hi => eq_of_bits (hf i) (hg i) fun j hj => h i j hi hj

/-- Rows told so far. -/
def upF (T : Nat → Nat) (i : Nat) : Nat → Nat := fun j => if j < i then T j else 0

theorem upF_succ (T : Nat → Nat) (i : Nat) : updF (upF T i) i (T i) = upF T (i + 1) := by
  funext j
  unfold updF upF
  by_cases h : j = i
  · subst h; rw [if_pos rfl, if_pos (by omega)]
  · rw [if_neg h]
    by_cases h2 : j < i
    · rw [if_pos h2, if_pos (by omega)]
    · rw [if_neg h2, if_neg (by omega)]

theorem upF_zero (T : Nat → Nat) : upF T 0 = fun _ => 0 := by funext j; unfold upF; rw [if_neg (by omega)]

theorem words_upF {T : Nat → Nat} (h : Words T) (i : Nat) : Words (upF T i) := fun j => by unfold upF; split; exact h j; omega

theorem all_bit (n j : Nat) : (2 ^ n - 1).testBit j = decide (j < n) := Nat.testBit_two_pow_sub_one _ _

theorem all_lt {n : Nat} (hn : n ≤ 64) : 2 ^ n - 1 < 2 ^ 64 := by
  have : 2 ^ n ≤ 2 ^ 64 := Nat.pow_le_pow_right (by omega) hn
  have := Nat.two_pow_pos n
  omega

variable {E : Env}

theorem upto_n (hE : set_Upto_In E) {n : Nat} (hn : n ≤ 64) (h : AHeap) : R E 61 [.c (.int .i64 n)] h = some ([.c (.int .u64 ((2 ^ n - 1 : Nat) : Int))], h) := by
  rw [Upto_R hE, Int.toNat_natCast, Nat.min_eq_left hn]

theorem min_nat (n m : Nat) : (if (m : Int) < (n : Int) then (m : Int) else (n : Int)) = ((min n m : Nat) : Int) := by split <;> omega

theorem clamp_nat {n : Nat} (hn : n ≤ 64) : clamp (n : Int) = n := by unfold clamp; omega

/-- Two, row by row, over the lesser. -/
theorem both_R (hE : rel_both_In E) {n m : Nat} (hn : n ≤ 64) (hm : m ≤ 64) {f g : Nat → Nat} (hf : Words f) (hg : Words g) (k : Nat) (op : Nat → Nat → Nat) (hop : ∀ a b, a < 2 ^ 64 → b < 2 ^ 64 → op a b < 2 ^ 64 ∧ ∀ h, R E k [.c (.int .u64 (a : Nat)), .c (.int .u64 (b : Nat))] h = some ([.c (.int .u64 ((op a b : Nat) : Int))], h)) (h : AHeap) :
    R E 73 [.agg (relL n f), .agg (relL m g), .c (.fn k [])] h = some ([.agg (relL (min n m) (upF (fun i => op (f i) (g i) &&& (2 ^ min n m - 1)) (min n m)))], h) := by
  refine R_intro hE.fn ?_
  have hmn : min n m ≤ 64 := by omega
  rw [rel_both_eq, atK_ok (relL_zero _ _), asI_ok, atK_ok (relL_zero _ _), asI_ok, min_nat, New_R hE.c9, c1_ok, asA_ok, clamp_nat hmn]
  generalize min n m = r at hmn
  rw [if_pos ⟨rfl, zero_len, relL_len _ _⟩, atK_ok (relL_zero _ _), asI_ok]
  have loop : Lim (rel_both_F1 (R E) Lim E.glob) (rel_both_s1 (.fn k []) r ((0 : Nat) : Int) (relL n f) (relL m g) zeroL (relL r (upF (fun i => op (f i) (g i) &&& (2 ^ r - 1)) 0)) h) = some (.exit 0, rel_both_x1_1 zeroL (relL r (upF (fun i => op (f i) (g i) &&& (2 ^ r - 1)) r)) h) := by
    refine Lim_count (fun i => rel_both_s1 (.fn k []) r (i : Int) (relL n f) (relL m g) zeroL (relL r (upF (fun i => op (f i) (g i) &&& (2 ^ r - 1)) i)) h) 0 r (by omega) (fun i _ hi => ?_) (Lim_exit ?_)
    · have q1 : 0 ≤ (i : Int) ∧ (i : Int) < ((64 : Nat) : Int) := by omega
      obtain ⟨o1, o2⟩ := hop (f i) (g i) (hf i) (hg i)
      rw [rel_both_r1, if_pos (by simp; omega), if_pos q1, Int.toNat_natCast, Nat.mul_one, atK_ok (relL_row (by omega)), asI_ok, if_pos q1, atK_ok (relL_row (by omega)), asI_ok]
      rw [fnK_ok, List.append_nil, o2, qh_ok, c1_ok, asI_ok, atK_ok (relL_zero _ _), asI_ok, upto_n hE.c61 hmn, qh_ok, c1_ok, asI_ok, if_pos q1, g_band o1 (all_lt hmn), relL_set, if_pos (by rw [relL_len]; omega), g_succ (by omega), upF_succ (fun i => op (f i) (g i) &&& (2 ^ r - 1))]
    · rw [rel_both_r1, if_neg (by simp)]
  rw [upF_zero] at loop
  rw [show rel_both_s1 (.fn k []) r 0 (relL n f) (relL m g) ([Cell.int .i64 0] ++ List.replicate 64 (Cell.int .u64 0)) (relL r fun _ => 0) h = rel_both_s1 (.fn k []) r ((0 : Nat) : Int) (relL n f) (relL m g) zeroL (relL r fun _ => 0) h from rfl, loop, bind_ok, rel_both_e1_1]
  simp only [relL_len, zeroL, zero_len, and_self, if_true]

/-- A relation by what it has. -/
def relM (n : Nat) (p : Nat → Nat → Bool) : List Cell := relL n fun i => mkN (p i)

theorem words_relM (p : Nat → Nat → Bool) : Words fun i => mkN (p i) := fun _ => mkN_lt _

theorem both_M {n : Nat} (hn : n ≤ 64) {f g : Nat → Nat} (hf : Words f) (hg : Words g) (op : Nat → Nat → Nat) (b : Bool → Bool → Bool) (hop : ∀ x y, x < 2 ^ 64 → y < 2 ^ 64 → op x y < 2 ^ 64) (hb : ∀ x y j, (op x y).testBit j = b (x.testBit j) (y.testBit j)) :
    relL n (upF (fun i => op (f i) (g i) &&& (2 ^ n - 1)) n) = relM n fun i j => decide (i < n) && decide (j < n) && b ((f i).testBit j) ((g i).testBit j) := by
  refine relL_ext rfl (words_upF (fun i => and_lt (hop _ _ (hf i) (hg i))) n) (words_mkN _) fun i j hi hj => ?_
  rw [testBit_mkN]
  unfold upF
  by_cases hin : i < n
  · rw [if_pos hin, Nat.testBit_and, hb, all_bit]
    simp [hin, hj, Bool.and_comm]
  · rw [if_neg hin, Nat.zero_testBit]; simp [hin]

theorem Union_R (hE : rel_Rel_Union_In E) {n m : Nat} (hn : n ≤ 64) (hm : m ≤ 64) {f g : Nat → Nat} (hf : Words f) (hg : Words g) (h : AHeap) :
    R E 59 [.agg (relL n f), .agg (relL m g)] h = some ([.agg (relM (min n m) fun i j => decide (i < min n m) && decide (j < min n m) && ((f i).testBit j || (g i).testBit j))], h) := by
  refine R_intro hE.fn ?_
  rw [rel_Rel_Union_eq, if_pos ⟨rfl, relL_len _ _⟩, if_pos ⟨rfl, relL_len _ _⟩, both_R hE.c73 hn hm hf hg 72 (fun a b => a ||| b) (fun a b ha hb => ⟨or_lt ha hb, fun h => R_intro hE.c72.fn (by rw [rel_Rel_Union_1_eq, g_bor ha hb])⟩), c1_ok, asA_ok]
  simp only [relL_len, zero_len, and_self, if_true]
  rw [both_M (by omega) hf hg (fun a b => a ||| b) (· || ·) (fun _ _ => or_lt) fun x y j => Nat.testBit_or ..]

theorem Minus_R (hE : rel_Rel_Minus_In E) {n m : Nat} (hn : n ≤ 64) (hm : m ≤ 64) {f g : Nat → Nat} (hf : Words f) (hg : Words g) (h : AHeap) :
    R E 68 [.agg (relL n f), .agg (relL m g)] h = some ([.agg (relM (min n m) fun i j => decide (i < min n m) && decide (j < min n m) && ((f i).testBit j && !(g i).testBit j))], h) := by
  refine R_intro hE.fn ?_
  rw [rel_Rel_Minus_eq, if_pos ⟨rfl, relL_len _ _⟩, if_pos ⟨rfl, relL_len _ _⟩, both_R hE.c73 hn hm hf hg 75 ndiff (fun a b ha hb => ⟨ndiff_lt ha, fun h => R_intro hE.c75.fn (by rw [rel_Rel_Minus_1_eq, g_bandNot ha hb])⟩), c1_ok, asA_ok]
  simp only [relL_len, zero_len, and_self, if_true]
  rw [both_M (by omega) hf hg ndiff (fun a b => a && !b) (fun _ _ h _ => ndiff_lt h) fun x y j => testBit_ndiff x y j]

theorem Meet_R (hE : rel_Rel_Meet_In E) {n m : Nat} (hn : n ≤ 64) (hm : m ≤ 64) {f g : Nat → Nat} (hf : Words f) (hg : Words g) (h : AHeap) :
    R E 67 [.agg (relL n f), .agg (relL m g)] h = some ([.agg (relM (min n m) fun i j => decide (i < min n m) && decide (j < min n m) && ((f i).testBit j && (g i).testBit j))], h) := by
  refine R_intro hE.fn ?_
  rw [rel_Rel_Meet_eq, if_pos ⟨rfl, relL_len _ _⟩, if_pos ⟨rfl, relL_len _ _⟩, both_R hE.c73 hn hm hf hg 74 (fun a b => a &&& b) (fun a b ha hb => ⟨and_lt ha, fun h => R_intro hE.c74.fn (by rw [rel_Rel_Meet_1_eq, g_band ha hb])⟩), c1_ok, asA_ok]
  simp only [relL_len, zero_len, and_self, if_true]
  rw [both_M (by omega) hf hg (fun a b => a &&& b) (· && ·) (fun _ _ h _ => and_lt h) fun x y j => Nat.testBit_and ..]

/- Putting behind one another. -/
def orL (T : Nat → Nat) (l : List Nat) : Nat := l.foldl (fun a k => a ||| T k) 0

theorem orL_snoc (T : Nat → Nat) (l : List Nat) (k : Nat) : orL T (l ++ [k]) = orL T l ||| T k := by unfold orL; rw [List.foldl_append]; rfl

theorem orL_lt {T : Nat → Nat} (hT : Words T) (l : List Nat) : orL T l < 2 ^ 64 := by
  have : ∀ (l : List Nat) (s : Nat), s < 2 ^ 64 → l.foldl (fun a k => a ||| T k) s < 2 ^ 64 := by
    intro l
    induction l with
    | nil => exact fun s h => h
    | cons k l ih => exact fun s h => ih _ (or_lt h (hT k))
  exact this l 0 (by omega)

theorem orL_bit (T : Nat → Nat) (l : List Nat) (j : Nat) : (orL T l).testBit j = l.any fun k => (T k).testBit j := by
  have : ∀ (l : List Nat) (s : Nat), (l.foldl (fun a k => a ||| T k) s).testBit j = (s.testBit j || l.any fun k => (T k).testBit j) := by
    intro l
    induction l with
    | nil => intro s; simp
    | cons k l ih => intro s; rw [List.foldl_cons, ih, Nat.testBit_or, List.any_cons, Bool.or_assoc]
  have h := this l 0
  rw [Nat.zero_testBit, Bool.false_or] at h
  exact h

/-- A loop over a word's numbers: from the least on. -/
theorem Lim_bits {F : St → Option (Ex × St)} (g : Nat → List Nat → St) {s : Nat} (hs : s < 2 ^ 64) (hstep : ∀ a done, a < 2 ^ 64 → a ≠ 0 → done ++ bitsL a = bitsL s → Lib.ctz 64 a < 64 → s.testBit (Lib.ctz 64 a) = true → F (g a done) = some (.normal, g (a &&& (a - 1)) (done ++ [Lib.ctz 64 a])))
    {p : Ex × St} (hend : Lim F (g 0 (bitsL s)) = some p) : Lim F (g s []) = some p := by
  have : ∀ k a done, a ≤ k → a < 2 ^ 64 → done ++ bitsL a = bitsL s → Lim F (g a done) = some p := by
    intro k
    induction k with
    | zero =>
      intro a done hak _ hd
      have h0 : a = 0 := by omega
      subst h0
      rw [bitsL_zero, List.append_nil] at hd
      rw [hd]; exact hend
    | succ k ih =>
      intro a done hak ha hd
      by_cases h0 : a = 0
      · subst h0
        rw [bitsL_zero, List.append_nil] at hd
        rw [hd]; exact hend
      · have hc := bitsL_cons ha h0
        have hmem : Lib.ctz 64 a ∈ bitsL s := by rw [← hd, hc]; simp
        obtain ⟨m1, m2⟩ := mem_bitsL.1 hmem
        refine Lim_next (hstep a done ha h0 hd m1 m2) (ih _ _ ?_ (and_lt ha) ?_)
        · have := and_pred_lt h0; omega
        · rw [List.append_assoc, List.singleton_append, ← hc, hd]
  exact this s s [] (Nat.le_refl _) hs rfl

theorem pred_wrap {a : Nat} (ha : a < 2 ^ 64) (h0 : a ≠ 0) : E.glob.band .u64 (a : Int) (E.glob.wrap .u64 ((a : Int) - 1)) = ((a &&& (a - 1) : Nat) : Int) := by
  rw [show E.glob.wrap .u64 ((a : Int) - 1) = ((a - 1 : Nat) : Int) by rw [g_wrap_u64 (by omega) (by omega)]; omega, g_band ha (by omega)]

theorem ne_zero {a : Nat} (h0 : a ≠ 0) : ((a : Int) != 0) = true := by rw [bne_iff_ne]; omega

def thenF (n : Nat) (f g : Nat → Nat) (i : Nat) : Nat := orL (fun k => g k &&& (2 ^ n - 1)) (bitsL (f i &&& (2 ^ n - 1)))

theorem Then_R (hE : rel_Rel_Then_In E) (ht : TabOk E) {n m : Nat} (hn : n ≤ 64) (hm : m ≤ 64) {f g : Nat → Nat} (hf : Words f) (hg : Words g) (h : AHeap) :
    R E 58 [.agg (relL n f), .agg (relL m g)] h = some ([.agg (relM (min n m) fun i j => decide (i < min n m) && decide (j < min n m) && (List.range (min n m)).any fun k => (f i).testBit k && (g k).testBit j)], h) := by
  refine R_intro hE.fn ?_
  have hmn : min n m ≤ 64 := by omega
  rw [rel_Rel_Then_eq, atK_ok (relL_zero _ _), asI_ok, atK_ok (relL_zero _ _), asI_ok, min_nat, New_R hE.c9, c1_ok, asA_ok, clamp_nat hmn]
  generalize min n m = r at hmn
  have hal := all_lt hmn
  have hT : Words fun k => g k &&& (2 ^ r - 1) := fun k => and_lt (hg k)
  have hW : Words (thenF r f g) := fun i => orL_lt hT _
  rw [if_pos ⟨rfl, zero_len, relL_len _ _⟩, atK_ok (relL_zero _ _), asI_ok, upto_n hE.c61 hmn, c1_ok, asI_ok, atK_ok (relL_zero _ _), asI_ok]
  have loop : Lim (rel_Rel_Then_F2 (R E) Lim E.glob) (rel_Rel_Then_s2 ((2 ^ r - 1 : Nat) : Int) r ((0 : Nat) : Int) (relL n f) (relL m g) zeroL (relL r (upF (thenF r f g) 0)) h) = some (.exit 0, rel_Rel_Then_x2_1 zeroL (relL r (upF (thenF r f g) r)) h) := by
    refine Lim_count (fun i => rel_Rel_Then_s2 ((2 ^ r - 1 : Nat) : Int) r (i : Int) (relL n f) (relL m g) zeroL (relL r (upF (thenF r f g) i)) h) 0 r (by omega) (fun i _ hi => ?_) (Lim_exit ?_)
    · have q1 : 0 ≤ (i : Int) ∧ (i : Int) < ((64 : Nat) : Int) := by omega
      rw [rel_Rel_Then_r2, if_pos (by simp; omega), if_pos q1, Int.toNat_natCast, Nat.mul_one, atK_ok (relL_row (by omega)), asI_ok, g_band (hf i) hal]
      have hs : f i &&& (2 ^ r - 1) < 2 ^ 64 := and_lt (hf i)
      have inner := Lim_bits (F := rel_Rel_Then_F1 (R E) Lim E.glob) (fun a done => rel_Rel_Then_s1 ((2 ^ r - 1 : Nat) : Int) i (a : Nat) r i (relL n f) (relL m g) zeroL (relL r (updF (upF (thenF r f g) i) i (orL (fun k => g k &&& (2 ^ r - 1)) done))) h) hs (fun a done ha h0 hd hc hb => by
        have q2 : 0 ≤ ((Lib.ctz 64 a : Nat) : Int) ∧ ((Lib.ctz 64 a : Nat) : Int) < ((64 : Nat) : Int) := by omega
        have hcell : (relL r (updF (upF (thenF r f g) i) i (orL (fun k => g k &&& (2 ^ r - 1)) done)))[1 + i]? = some (.int .u64 ((orL (fun k => g k &&& (2 ^ r - 1)) done : Nat) : Int)) := by
          rw [relL_row (by omega)]; unfold updF; rw [if_pos rfl]
        have hupd : updF (updF (upF (thenF r f g) i) i (orL (fun k => g k &&& (2 ^ r - 1)) done)) i (orL (fun k => g k &&& (2 ^ r - 1)) (done ++ [Lib.ctz 64 a])) = updF (upF (thenF r f g) i) i (orL (fun k => g k &&& (2 ^ r - 1)) (done ++ [Lib.ctz 64 a])) := by
          funext j; unfold updF; split <;> rfl
        rw [rel_Rel_Then_r1, if_pos (ne_zero h0), if_pos q1, Int.toNat_natCast, Nat.mul_one, atK_ok hcell, asI_ok, First_R hE.c38 ht ha, qh_ok, c1_ok, asI_ok]
        unfold firstI
        rw [if_neg h0, if_pos q2, Int.toNat_natCast, Nat.mul_one, atK_ok (relL_row hc), asI_ok, if_pos q1, if_pos (by rw [relL_len]; omega), g_band (hg _) hal, g_bor (orL_lt hT _) (hT (Lib.ctz 64 a)), pred_wrap ha h0, relL_set, ← orL_snoc (fun k => g k &&& (2 ^ r - 1)), hupd])
        (p := (.exit 2, rel_Rel_Then_x1_3 ((2 ^ r - 1 : Nat) : Int) r i (relL n f) (relL m g) zeroL (relL r (upF (thenF r f g) (i + 1))) h)) (Lim_exit (by
          rw [rel_Rel_Then_r1, if_neg (by simp), ← upF_succ]; rfl))
      have hz : updF (upF (thenF r f g) i) i (orL (fun k => g k &&& (2 ^ r - 1)) []) = upF (thenF r f g) i := by
        funext j; unfold updF upF orL
        by_cases hj : j = i
        · rw [if_pos hj, if_neg (by omega)]; rfl
        · rw [if_neg hj]
      rw [hz] at inner
      rw [inner, bind_ok, rel_Rel_Then_e1_3, g_succ (by omega)]
    · rw [rel_Rel_Then_r2, if_neg (by simp)]
  rw [upF_zero] at loop
  rw [show rel_Rel_Then_s2 ((2 ^ r - 1 : Nat) : Int) r 0 (relL n f) (relL m g) ([Cell.int .i64 0] ++ List.replicate 64 (Cell.int .u64 0)) (relL r fun _ => 0) h = rel_Rel_Then_s2 ((2 ^ r - 1 : Nat) : Int) r ((0 : Nat) : Int) (relL n f) (relL m g) zeroL (relL r fun _ => 0) h from rfl, loop, bind_ok, rel_Rel_Then_e2_1]
  simp only [relL_len, zeroL, zero_len, and_self, if_true]
  congr 4
  refine relL_ext rfl (words_upF hW r) (words_mkN _) fun i j hi hj => ?_
  rw [testBit_mkN]
  unfold upF
  by_cases hin : i < r
  · rw [if_pos hin, thenF, orL_bit, Bool.eq_iff_iff]
    simp only [List.any_eq_true, mem_bitsL, Nat.testBit_and, all_bit, Bool.and_eq_true, decide_eq_true_eq, List.mem_range]
    constructor
    · rintro ⟨k, ⟨_, hk1, hk2⟩, hk3, hk4⟩; exact ⟨hj, ⟨hin, hk4⟩, k, hk2, hk1, hk3⟩
    · rintro ⟨_, ⟨_, h4⟩, k, hk2, hk1, hk3⟩; exact ⟨k, ⟨by omega, hk1, hk2⟩, hk3, h4⟩
  · rw [if_neg hin, Nat.zero_testBit]; simp [hin]

/- Turning about. -/
/-- What has been turned: all of the rows below i, of row i what is done. -/
def invP (f : Nat → Nat) (i : Nat) (done : List Nat) : Nat → Nat := fun k => mkN fun j => (decide (j < i) && (f j).testBit k) || (decide (j = i) && decide (k ∈ done))

theorem invP_lt (f : Nat → Nat) (i : Nat) (done : List Nat) : Words (invP f i done) := fun _ => mkN_lt _

theorem bitI_nat {n : Nat} (hn : n < 64) : bitI (n : Int) = 2 ^ n := by unfold bitI; rw [if_pos (by omega)]; simp

theorem Inverse_R (hE : rel_Rel_Inverse_In E) (ht : TabOk E) {n : Nat} (hn : n ≤ 64) {f : Nat → Nat} (hf : Words f) (h : AHeap) :
    R E 40 [.agg (relL n f)] h = some ([.agg (relM n fun i j => decide (j < n) && (f j).testBit i)], h) := by
  refine R_intro hE.fn ?_
  rw [rel_Rel_Inverse_eq, atK_ok (relL_zero _ _), asI_ok, New_R hE.c9, c1_ok, asA_ok, clamp_nat hn, if_pos ⟨rfl, zero_len, relL_len _ _⟩, atK_ok (relL_zero _ _), asI_ok]
  have loop : Lim (rel_Rel_Inverse_F2 (R E) Lim E.glob) (rel_Rel_Inverse_s2 n ((0 : Nat) : Int) (relL n f) zeroL (relL n (invP f 0 [])) h) = some (.exit 0, rel_Rel_Inverse_x2_1 zeroL (relL n (invP f n [])) h) := by
    refine Lim_count (fun i => rel_Rel_Inverse_s2 n (i : Int) (relL n f) zeroL (relL n (invP f i [])) h) 0 n (by omega) (fun i _ hi => ?_) (Lim_exit ?_)
    · have q1 : 0 ≤ (i : Int) ∧ (i : Int) < ((64 : Nat) : Int) := by omega
      rw [rel_Rel_Inverse_r2, if_pos (by simp; omega), if_pos q1, Int.toNat_natCast, Nat.mul_one, atK_ok (relL_row (by omega)), asI_ok]
      have inner := Lim_bits (F := rel_Rel_Inverse_F1 (R E) Lim E.glob) (fun a done => rel_Rel_Inverse_s1 i (a : Nat) n i (relL n f) zeroL (relL n (invP f i done)) h) (hf i) (fun a done ha h0 hd hc hb => by
        have q2 : 0 ≤ ((Lib.ctz 64 a : Nat) : Int) ∧ ((Lib.ctz 64 a : Nat) : Int) < ((64 : Nat) : Int) := by omega
        have hF : firstI a = ((Lib.ctz 64 a : Nat) : Int) := by unfold firstI; rw [if_neg h0]
        have hupd : relL n (updF (invP f i done) (Lib.ctz 64 a) (invP f i done (Lib.ctz 64 a) ||| bitI (i : Int))) = relL n (invP f i (done ++ [Lib.ctz 64 a])) := by
          refine relL_ext rfl (words_upd (invP_lt f i done) (or_lt (invP_lt f i done _) (bitI_lt _))) (invP_lt f i _) fun k j hk hj => ?_
          unfold updF
          by_cases hkc : k = Lib.ctz 64 a
          · rw [if_pos hkc, Nat.testBit_or, testBit_bitI]
            unfold invP
            rw [testBit_mkN, testBit_mkN, Bool.eq_iff_iff]
            simp only [Bool.or_eq_true, Bool.and_eq_true, decide_eq_true_eq, List.mem_append, List.mem_singleton, hj, true_and, hkc, or_true, and_true]
            constructor
            · rintro ((h1 | ⟨h1, _⟩) | h1)
              · exact .inl h1
              · exact .inr h1
              · exact .inr (by omega)
            · rintro (h1 | h1)
              · exact .inl (.inl h1)
              · exact .inr (by omega)
          · rw [if_neg hkc]
            unfold invP
            rw [testBit_mkN, testBit_mkN]
            simp [hkc]
        rw [rel_Rel_Inverse_r1, if_pos (ne_zero h0), First_R hE.c38 ht ha, c1_ok, asI_ok, First_R hE.c38 ht ha, c1_ok, asI_ok, hF, if_pos q2, Int.toNat_natCast, Nat.mul_one, atK_ok (relL_row hc), asI_ok, With_R hE.c18 (invP_lt f i done _), c1_ok, asI_ok, if_pos q2, if_pos (by rw [relL_len]; omega), pred_wrap ha h0, relL_set, hupd])
        (p := (.exit 2, rel_Rel_Inverse_x1_3 n i (relL n f) zeroL (relL n (invP f (i + 1) [])) h)) (Lim_exit (by
          have hnext : relL n (invP f i (bitsL (f i))) = relL n (invP f (i + 1) []) := by
            refine relL_ext rfl (invP_lt f i _) (invP_lt f (i + 1) _) fun k j hk hj => ?_
            unfold invP
            rw [testBit_mkN, testBit_mkN, Bool.eq_iff_iff]
            simp only [Bool.or_eq_true, Bool.and_eq_true, decide_eq_true_eq, hj, true_and, mem_bitsL, hk, List.not_mem_nil, and_false, or_false]
            constructor
            · rintro (⟨h1, h2⟩ | ⟨h1, h2⟩)
              · exact ⟨by omega, h2⟩
              · subst h1; exact ⟨by omega, h2⟩
            · rintro ⟨h1, h2⟩
              by_cases hji : j = i
              · subst hji; exact .inr ⟨rfl, h2⟩
              · exact .inl ⟨by omega, h2⟩
          rw [rel_Rel_Inverse_r1, if_neg (by simp), hnext]))
      rw [inner, bind_ok, rel_Rel_Inverse_e1_3, g_succ (by omega)]
    · rw [rel_Rel_Inverse_r2, if_neg (by simp)]
  have h00 : relL n (invP f 0 []) = relL n fun _ => 0 := by
    refine relL_ext rfl (invP_lt f 0 _) words_zero fun k j hk hj => ?_
    unfold invP
    rw [testBit_mkN]; simp
  rw [h00] at loop
  rw [show rel_Rel_Inverse_s2 n 0 (relL n f) ([Cell.int .i64 0] ++ List.replicate 64 (Cell.int .u64 0)) (relL n fun _ => 0) h = rel_Rel_Inverse_s2 n ((0 : Nat) : Int) (relL n f) zeroL (relL n fun _ => 0) h from rfl, loop, bind_ok, rel_Rel_Inverse_e2_1]
  simp only [relL_len, zeroL, zero_len, and_self, if_true]
  congr 4
  refine relL_ext rfl (invP_lt f n _) (words_mkN _) fun i j hi hj => ?_
  unfold invP
  rw [testBit_mkN, testBit_mkN]; simp

/- Cutting down. -/
theorem Keep_R (hE : rel_Rel_Keep_In E) {n : Nat} (hn : n ≤ 64) {f : Nat → Nat} (hf : Words f) {s : Nat} (hs : s < 2 ^ 64) (h : AHeap) :
    R E 66 [.agg (relL n f), .c (.int .u64 s)] h = some ([.agg (relM n fun i j => decide (i < n) && s.testBit i && ((f i).testBit j && s.testBit j))], h) := by
  refine R_intro hE.fn ?_
  rw [rel_Rel_Keep_eq, atK_ok (relL_zero _ _), asI_ok, New_R hE.c9, c1_ok, asA_ok, clamp_nat hn, if_pos ⟨rfl, zero_len, relL_len _ _⟩, atK_ok (relL_zero _ _), asI_ok]
  have hT : Words fun i => if s.testBit i then f i &&& s else 0 := fun i => by
    show (if s.testBit i = true then f i &&& s else 0) < 2 ^ 64
    split
    · exact and_lt (hf i)
    · omega
  have loop : Lim (rel_Rel_Keep_F1 (R E) Lim E.glob) (rel_Rel_Keep_s1 s n ((0 : Nat) : Int) (relL n f) zeroL (relL n (upF (fun i => if s.testBit i then f i &&& s else 0) 0)) h) = some (.exit 0, rel_Rel_Keep_x1_1 zeroL (relL n (upF (fun i => if s.testBit i then f i &&& s else 0) n)) h) := by
    refine Lim_count (fun i => rel_Rel_Keep_s1 s n (i : Int) (relL n f) zeroL (relL n (upF (fun i => if s.testBit i then f i &&& s else 0) i)) h) 0 n (by omega) (fun i _ hi => ?_) (Lim_exit ?_)
    · have q1 : 0 ≤ (i : Int) ∧ (i : Int) < ((64 : Nat) : Int) := by omega
      rw [rel_Rel_Keep_r1, if_pos (by simp; omega), Has_R hE.c17 hs, c1_ok, asB_ok, hasI_nat (by omega), ← upF_succ]
      cases hb : s.testBit i with
      | true =>
        simp only [if_true]
        rw [if_pos q1, Int.toNat_natCast, Nat.mul_one, atK_ok (relL_row (by omega)), asI_ok, if_pos q1, if_pos (by rw [relL_len]; omega), g_band (hf i) hs, relL_set, g_succ (by omega)]
      | false =>
        simp only [Bool.false_eq_true, if_false]
        rw [g_succ (by omega)]
        have : updF (upF (fun i => if s.testBit i = true then f i &&& s else 0) i) i 0 = upF (fun i => if s.testBit i = true then f i &&& s else 0) i := by
          funext j; unfold updF upF
          by_cases hj : j = i
          · rw [if_pos hj, if_neg (by omega)]
          · rw [if_neg hj]
        rw [this]
    · rw [rel_Rel_Keep_r1, if_neg (by simp)]
  rw [upF_zero] at loop
  rw [show rel_Rel_Keep_s1 s n 0 (relL n f) ([Cell.int .i64 0] ++ List.replicate 64 (Cell.int .u64 0)) (relL n fun _ => 0) h = rel_Rel_Keep_s1 s n ((0 : Nat) : Int) (relL n f) zeroL (relL n fun _ => 0) h from rfl, loop, bind_ok, rel_Rel_Keep_e1_1]
  simp only [relL_len, zeroL, zero_len, and_self, if_true]
  congr 4
  refine relL_ext rfl (words_upF hT n) (words_mkN _) fun i j hi hj => ?_
  rw [testBit_mkN]
  unfold upF
  by_cases hin : i < n
  · rw [if_pos hin]
    cases hb : s.testBit i with
    | true => simp [hin, hj, hb, Nat.testBit_and]
    | false => simp [hb]
  · rw [if_neg hin, Nat.zero_testBit]; simp [hin]

end Jq

/- Relations over one number: by what they have. -/
namespace Jq
open Go

def TH (n : Nat) (f g : Nat → Nat) : Nat → Nat := fun i => mkN fun j => decide (i < n) && decide (j < n) && (List.range n).any fun k => (f i).testBit k && (g k).testBit j
def UNI (n : Nat) (f g : Nat → Nat) : Nat → Nat := fun i => mkN fun j => decide (i < n) && decide (j < n) && ((f i).testBit j || (g i).testBit j)
def MIN (n : Nat) (f g : Nat → Nat) : Nat → Nat := fun i => mkN fun j => decide (i < n) && decide (j < n) && ((f i).testBit j && !(g i).testBit j)
def MEE (n : Nat) (f g : Nat → Nat) : Nat → Nat := fun i => mkN fun j => decide (i < n) && decide (j < n) && ((f i).testBit j && (g i).testBit j)
def INV (n : Nat) (f : Nat → Nat) : Nat → Nat := fun i => mkN fun j => decide (j < n) && (f j).testBit i
def KEE (n : Nat) (f : Nat → Nat) (s : Nat) : Nat → Nat := fun i => mkN fun j => decide (i < n) && s.testBit i && ((f i).testBit j && s.testBit j)

theorem w_TH (n : Nat) (f g : Nat → Nat) : Words (TH n f g) := fun _ => mkN_lt _
theorem w_UNI (n : Nat) (f g : Nat → Nat) : Words (UNI n f g) := fun _ => mkN_lt _
theorem w_MIN (n : Nat) (f g : Nat → Nat) : Words (MIN n f g) := fun _ => mkN_lt _
theorem w_MEE (n : Nat) (f g : Nat → Nat) : Words (MEE n f g) := fun _ => mkN_lt _
theorem w_INV (n : Nat) (f : Nat → Nat) : Words (INV n f) := fun _ => mkN_lt _
theorem w_KEE (n : Nat) (f : Nat → Nat) (s : Nat) : Words (KEE n f s) := fun _ => mkN_lt _

/-- All pairs are over n. -/
def Fit (n : Nat) (f : Nat → Nat) : Prop := ∀ i j, (f i).testBit j = true → i < n ∧ j < n

theorem of_fit {n : Nat} (hn : n ≤ 64) (l : List (Int × Int)) : Fit n (ofR n l) := by
  intro a b hb
  obtain ⟨p, _, h1, h2, h3, h4⟩ := (of_bit hn l a b).1 hb
  have k1 : 0 ≤ p.1 ∧ p.1 < n := by simpa [inR] using h1
  have k2 : 0 ≤ p.2 ∧ p.2 < n := by simpa [inR] using h2
  omega

theorem b_TH {n : Nat} (hn : n ≤ 64) (f g : Nat → Nat) (i j : Nat) : (TH n f g i).testBit j = true ↔ i < n ∧ j < n ∧ ∃ k, k < n ∧ (f i).testBit k = true ∧ (g k).testBit j = true := by
  unfold TH
  rw [testBit_mkN]
  simp only [Bool.and_eq_true, decide_eq_true_eq, List.any_eq_true, List.mem_range]
  constructor
  · rintro ⟨_, ⟨h1, h2⟩, k, h3, h4, h5⟩; exact ⟨h1, h2, k, h3, h4, h5⟩
  · rintro ⟨h1, h2, k, h3, h4, h5⟩; exact ⟨by omega, ⟨h1, h2⟩, k, h3, h4, h5⟩
theorem b_UNI {n : Nat} (hn : n ≤ 64) (f g : Nat → Nat) (i j : Nat) : (UNI n f g i).testBit j = true ↔ i < n ∧ j < n ∧ ((f i).testBit j = true ∨ (g i).testBit j = true) := by
  unfold UNI
  rw [testBit_mkN]
  simp only [Bool.and_eq_true, decide_eq_true_eq, Bool.or_eq_true]
  constructor
  · rintro ⟨_, ⟨h1, h2⟩, h⟩; exact ⟨h1, h2, h⟩
  · rintro ⟨h1, h2, h⟩; exact ⟨by omega, ⟨h1, h2⟩, h⟩
theorem b_MIN {n : Nat} (hn : n ≤ 64) (f g : Nat → Nat) (i j : Nat) : (MIN n f g i).testBit j = true ↔ i < n ∧ j < n ∧ (f i).testBit j = true ∧ ¬ (g i).testBit j = true := by
  unfold MIN
  rw [testBit_mkN]
  simp only [Bool.and_eq_true, decide_eq_true_eq, Bool.not_eq_true', Bool.not_eq_true]
  constructor
  · rintro ⟨_, ⟨h1, h2⟩, h⟩; exact ⟨h1, h2, h⟩
  · rintro ⟨h1, h2, h⟩; exact ⟨by omega, ⟨h1, h2⟩, h⟩
theorem b_MEE {n : Nat} (hn : n ≤ 64) (f g : Nat → Nat) (i j : Nat) : (MEE n f g i).testBit j = true ↔ i < n ∧ j < n ∧ (f i).testBit j = true ∧ (g i).testBit j = true := by
  unfold MEE
  rw [testBit_mkN]
  simp only [Bool.and_eq_true, decide_eq_true_eq]
  constructor
  · rintro ⟨_, ⟨h1, h2⟩, h⟩; exact ⟨h1, h2, h⟩
  · rintro ⟨h1, h2, h⟩; exact ⟨by omega, ⟨h1, h2⟩, h⟩
theorem b_INV {n : Nat} (hn : n ≤ 64) (f : Nat → Nat) (i j : Nat) : (INV n f i).testBit j = true ↔ j < n ∧ (f j).testBit i = true := by
  unfold INV
  rw [testBit_mkN]
  simp only [Bool.and_eq_true, decide_eq_true_eq]
  constructor
  · rintro ⟨_, h⟩; exact h
  · rintro h; exact ⟨by omega, h⟩
theorem b_KEE {n : Nat} {f : Nat → Nat} (s : Nat) (hs : s < 2 ^ 64) (i j : Nat) : (KEE n f s i).testBit j = true ↔ i < n ∧ s.testBit i = true ∧ (f i).testBit j = true ∧ s.testBit j = true := by
  unfold KEE
  rw [testBit_mkN]
  simp only [Bool.and_eq_true, decide_eq_true_eq]
  constructor
  · rintro ⟨_, ⟨h1, h2⟩, h⟩; exact ⟨h1, h2, h⟩
  · rintro ⟨h1, h2, h⟩
    refine ⟨?_, ⟨h1, h2⟩, h⟩
    rcases Nat.lt_or_ge j 64 with hj | hj
    · exact hj
    · have h64 : 2 ^ 64 ≤ 2 ^ j := Nat.pow_le_pow_right (by omega) hj
      rw [Nat.testBit_lt_two_pow (Nat.lt_of_lt_of_le hs h64)] at h; simp at h

theorem rel_eq {n : Nat} {f g : Nat → Nat} (hf : Words f) (hg : Words g) (h : ∀ i j, (f i).testBit j = true ↔ (g i).testBit j = true) : relL n f = relL n g :=
  relL_ext rfl hf hg fun i j _ _ => by rw [Bool.eq_iff_iff]; exact h i j

theorem alike_rel (n m : Nat) (f g : Nat → Nat) : alike (relL n f) (relL m g) = true := by
  unfold relL
  simp only [alike, alike1, decide_true, Bool.true_and]
  generalize List.range 64 = l
  induction l with
  | nil => rfl
  | cons a l ih => simp only [List.map_cons, alike, alike1, decide_true, Bool.true_and]; exact ih

variable {E : Env} {n : Nat}

theorem Union_S (hE : rel_Rel_Union_In E) (hn : n ≤ 64) {f g : Nat → Nat} (hf : Words f) (hg : Words g) (h : AHeap) : R E 59 [.agg (relL n f), .agg (relL n g)] h = some ([.agg (relL n (UNI n f g))], h) := by
  rw [Union_R hE hn hn hf hg, Nat.min_self]; rfl
theorem Minus_S (hE : rel_Rel_Minus_In E) (hn : n ≤ 64) {f g : Nat → Nat} (hf : Words f) (hg : Words g) (h : AHeap) : R E 68 [.agg (relL n f), .agg (relL n g)] h = some ([.agg (relL n (MIN n f g))], h) := by
  rw [Minus_R hE hn hn hf hg, Nat.min_self]; rfl
theorem Meet_S (hE : rel_Rel_Meet_In E) (hn : n ≤ 64) {f g : Nat → Nat} (hf : Words f) (hg : Words g) (h : AHeap) : R E 67 [.agg (relL n f), .agg (relL n g)] h = some ([.agg (relL n (MEE n f g))], h) := by
  rw [Meet_R hE hn hn hf hg, Nat.min_self]; rfl
theorem Then_S (hE : rel_Rel_Then_In E) (ht : TabOk E) (hn : n ≤ 64) {f g : Nat → Nat} (hf : Words f) (hg : Words g) (h : AHeap) : R E 58 [.agg (relL n f), .agg (relL n g)] h = some ([.agg (relL n (TH n f g))], h) := by
  rw [Then_R hE ht hn hn hf hg, Nat.min_self]; rfl
theorem Inverse_S (hE : rel_Rel_Inverse_In E) (ht : TabOk E) (hn : n ≤ 64) {f : Nat → Nat} (hf : Words f) (h : AHeap) : R E 40 [.agg (relL n f)] h = some ([.agg (relL n (INV n f))], h) := Inverse_R hE ht hn hf h
theorem Keep_S (hE : rel_Rel_Keep_In E) (hn : n ≤ 64) {f : Nat → Nat} (hf : Words f) {s : Nat} (hs : s < 2 ^ 64) (h : AHeap) : R E 66 [.agg (relL n f), .c (.int .u64 s)] h = some ([.agg (relL n (KEE n f s))], h) := Keep_R hE hn hf hs h

theorem HasS (hE : rel_Rel_Has_In E) (hn : n ≤ 64) {f : Nat → Nat} (hf : Words f) {a b : Nat} (ha : a < n) (hb : b < 64) (h : AHeap) : R E 3 [.agg (relL n f), .c (.int .i64 (a : Nat)), .c (.int .i64 (b : Nat))] h = some ([.c (.bool ((f a).testBit b))], h) := by
  rw [HasR_R hE hn hf]
  unfold hasR
  rw [inR_nat, Int.toNat_natCast, hasI_nat hb, show decide (a < n) = true by simp [ha], Bool.true_and]

/-- One more than what was made. -/
theorem mod_nat (a : Int) {n : Nat} (hn : 1 ≤ n) : ∃ m : Nat, m < n ∧ E.glob.rem .i64 (E.glob.band .i64 a 255) (n : Int) = (m : Int) := by
  have h1 := Int.emod_lt_of_pos (a % 256) (show (0 : Int) < n by omega)
  have h2 := Int.emod_nonneg (a % 256) (show (n : Int) ≠ 0 by omega)
  exact ⟨(a % 256 % n).toNat, by omega, by rw [g_band255, g_rem, Int.tmod_eq_emod_of_nonneg (show 0 ≤ a % 256 by omega), Int.toNat_of_nonneg h2]⟩

theorem RelThen_R (hE : jacquardlaw8_RelThen_In E) (ht : TabOk E) (a0 a4 a5 : Int) {x1 x2 x3 : Cell} {l1 l2 l3 : List (Int × Int)} {h : AHeap} (hx1 : SlAt h x1 2 (pairC l1) l1.length) (hl1 : Low h.length x1)
    (hx2 : SlAt h x2 2 (pairC l2) l2.length) (hl2 : Low h.length x2) (hx3 : SlAt h x3 2 (pairC l3) l3.length) (hl3 : Low h.length x3) :
    R E 241 [.c (.int .i64 a0), .c x1, .c x2, .c x3, .c (.int .i64 a4), .c (.int .i64 a5)] h = some ([.c (.bool true)], h) := by
  refine R_intro hE.fn ?_
  rw [jacquardlaw8_RelThen_eq]
  obtain ⟨n, hn1, hn2, hv⟩ : ∃ n : Nat, 1 ≤ n ∧ n ≤ 20 ∧ E.glob.wrap .i64 (E.glob.rem .i64 (E.glob.band .i64 a0 255) 20 + 1) = (n : Int) := by
    rw [g_band255, g_rem, Int.tmod_eq_emod_of_nonneg (by omega), g_wrap_i64 (by omega) (by omega)]
    exact ⟨(a0 % 256 % 20 + 1).toNat, by omega, by omega, by omega⟩
  have hn : n ≤ 64 := by omega
  obtain ⟨a, ha, hav⟩ := mod_nat (E := E) a4 hn1
  obtain ⟨b, hb, hbv⟩ := mod_nat (E := E) a5 hn1
  simp only [hv, hav, hbv]
  rw [if_neg (by omega), if_neg (by omega), Of_R hE.c1 (n : Int) hx1 hl1, c2_ok, asA_ok, asA_ok, clamp_nat hn]
  have hf := words_of n (l1.take 200)
  have hg := words_of n (l2.take 200)
  have hp := words_of n (l3.take 200)
  have ff := of_fit hn (l1.take 200)
  have fg := of_fit hn (l2.take 200)
  have fp := of_fit hn (l3.take 200)
  simp only [relL_len, zero_len, and_self, if_true]
  rw [Of_R hE.c1 (n : Int) hx2 hl2, c2_ok, asA_ok, asA_ok, clamp_nat hn]
  simp only [relL_len, and_self, if_true]
  rw [Of_R hE.c1 (n : Int) hx3 hl3, c2_ok, asA_ok, asA_ok, clamp_nat hn]
  simp only [relL_len, and_self, if_true]
  generalize ofR n (l1.take 200) = f at *
  generalize ofR n (l2.take 200) = g at *
  generalize ofR n (l3.take 200) = p at *
  have loop : Lim (jacquardlaw8_RelThen_F1 (R E) Lim E.glob) (jacquardlaw8_RelThen_s1 n a b ((List.range 0).any fun j => (f a).testBit j && (g j).testBit b) ((0 : Nat) : Int) (relL n f) (relL n g) (relL n p) h) = some (.exit 0, jacquardlaw8_RelThen_x1_1 a b ((List.range n).any fun j => (f a).testBit j && (g j).testBit b) (relL n f) (relL n g) (relL n p) h) := by
    refine Lim_count (fun i => jacquardlaw8_RelThen_s1 n a b ((List.range i).any fun j => (f a).testBit j && (g j).testBit b) (i : Int) (relL n f) (relL n g) (relL n p) h) 0 n (by omega) (fun i _ hi => ?_) (Lim_exit ?_)
    · rw [jacquardlaw8_RelThen_r1, if_pos (by simp; omega), if_pos ⟨rfl, relL_len _ _⟩, HasS hE.c3 hn hf ha (by omega), c1_ok, asB_ok, if_pos ⟨rfl, relL_len _ _⟩, HasS hE.c3 hn hg hi (by omega), c1_ok, asB_ok, scK_and, scK_or, g_succ (by omega), List.range_succ, List.any_append]
      simp
    · rw [jacquardlaw8_RelThen_r1, if_neg (by simp)]
  rw [show jacquardlaw8_RelThen_s1 n a b false 0 (relL n f) (relL n g) (relL n p) h = jacquardlaw8_RelThen_s1 n a b ((List.range 0).any fun j => (f a).testBit j && (g j).testBit b) ((0 : Nat) : Int) (relL n f) (relL n g) (relL n p) h from rfl, loop, bind_ok, jacquardlaw8_RelThen_e1_1]
  have w1 := w_TH n f g
  have w2 := w_TH n g p
  have w3 := w_UNI n f g
  have w4 := w_TH n f p
  have h1 : (TH n f g a).testBit b = (List.range n).any fun j => (f a).testBit j && (g j).testBit b := by
    rw [Bool.eq_iff_iff, b_TH hn]
    simp only [List.any_eq_true, List.mem_range, Bool.and_eq_true]
    constructor
    · rintro ⟨_, _, k, h1, h2⟩; exact ⟨k, h1, h2⟩
    · rintro ⟨k, h1, h2⟩; exact ⟨ha, hb, k, h1, h2⟩
  have h2 : relL n (TH n (TH n f g) p) = relL n (TH n f (TH n g p)) := by
    refine rel_eq (w_TH _ _ _) (w_TH _ _ _) fun i j => ?_
    simp only [b_TH hn]
    constructor
    · rintro ⟨q1, q2, k, q3, ⟨_, _, m, q4, q5, q6⟩, q7⟩; exact ⟨q1, q2, m, q4, q5, q4, q2, k, q3, q6, q7⟩
    · rintro ⟨q1, q2, m, q4, q5, _, _, k, q3, q6, q7⟩; exact ⟨q1, q2, k, q3, ⟨q1, q3, m, q4, q5, q6⟩, q7⟩
  have h3 : relL n (TH n (UNI n f g) p) = relL n (UNI n (TH n f p) (TH n g p)) := by
    refine rel_eq (w_TH _ _ _) (w_UNI _ _ _) fun i j => ?_
    simp only [b_TH hn, b_UNI hn]
    constructor
    · rintro ⟨q1, q2, k, q3, ⟨_, _, q4 | q4⟩, q5⟩
      · exact ⟨q1, q2, .inl ⟨q1, q2, k, q3, q4, q5⟩⟩
      · exact ⟨q1, q2, .inr ⟨q1, q2, k, q3, q4, q5⟩⟩
    · rintro ⟨q1, q2, ⟨_, _, k, q3, q4, q5⟩ | ⟨_, _, k, q3, q4, q5⟩⟩
      · exact ⟨q1, q2, k, q3, ⟨q1, q3, .inl q4⟩, q5⟩
      · exact ⟨q1, q2, k, q3, ⟨q1, q3, .inr q4⟩, q5⟩
  simp only [relL_len, and_self, if_true]
  have hb64 : b < 64 := by omega
  simp only [Then_S hE.c58 ht hn, Union_S hE.c59 hn, HasS hE.c3 hn w1 ha hb64, awake8_R hE.c55, hf, hg, hp, w_TH, w_UNI, qh_ok, c1_ok, asA_ok, asB_ok, bind_ok, scK_ok, zero_rel, alike_rel, h1, h2, h3, beq_self_eq_true, and_self, if_true, decide_true]

theorem RelThen_law (ht : TabOk E) (hE : jacquardlaw8_RelThen_In E) {h : AHeap} {c0 c1 c2 c3 c4 c5 : List Cell} (o0 : okC h (.i .i64) c0) (o1 : okC h (.sl shPair) c1) (o2 : okC h (.sl shPair) c2) (o3 : okC h (.sl shPair) c3) (o4 : okC h (.i .i64) c4) (o5 : okC h (.i .i64) c5) :
    ∃ h', R E 241 [av1 (.i .i64) c0, av1 (.sl shPair) c1, av1 (.sl shPair) c2, av1 (.sl shPair) c3, av1 (.i .i64) c4, av1 (.i .i64) c5] h = some ([.c (.bool true)], h') := by
  obtain ⟨a0, e0, _⟩ := arg_int o0
  obtain ⟨x1, l1, e1, hx1, hl1, _⟩ := arg_pairs o1
  obtain ⟨x2, l2, e2, hx2, hl2, _⟩ := arg_pairs o2
  obtain ⟨x3, l3, e3, hx3, hl3, _⟩ := arg_pairs o3
  obtain ⟨a4, e4, _⟩ := arg_int o4
  obtain ⟨a5, e5, _⟩ := arg_int o5
  rw [e0, e1, e2, e3, e4, e5]
  exact ⟨h, RelThen_R hE ht a0 a4 a5 hx1 hl1 hx2 hl2 hx3 hl3⟩

end Jq

/- A relation's pairs, told rising. -/
namespace Jq
open Go

/-- The pairs of one row. -/
def rowP (f : Nat → Nat) (i : Nat) : List (Int × Int) := (bitsL (f i)).map fun (k : Nat) => ((i : Int), (k : Int))

/-- All pairs. -/
def pairsP (n : Nat) (f : Nat → Nat) : List (Int × Int) := (List.range n).flatMap (rowP f)

theorem pairsP_succ (n : Nat) (f : Nat → Nat) : pairsP (n + 1) f = pairsP n f ++ rowP f n := by
  unfold pairsP; rw [List.range_succ, List.flatMap_append]; simp

theorem bits_len (s : Nat) : (bitsL s).length ≤ 64 := by unfold bitsL; exact Nat.le_trans (List.length_filter_le _ _) (by simp)

theorem pairsP_len (f : Nat → Nat) : ∀ n, (pairsP n f).length ≤ n * 64
  | 0 => by simp [pairsP]
  | n + 1 => by
    have := pairsP_len f n
    have := bits_len (f n)
    rw [pairsP_succ, List.length_append]
    simp only [rowP, List.length_map]; omega

theorem mem_pairsP {n : Nat} {f : Nat → Nat} {p : Int × Int} : p ∈ pairsP n f ↔ ∃ i k : Nat, i < n ∧ k < 64 ∧ (f i).testBit k = true ∧ p = ((i : Int), (k : Int)) := by
  unfold pairsP rowP
  simp only [List.mem_flatMap, List.mem_range, List.mem_map, mem_bitsL]
  constructor
  · rintro ⟨i, hi, k, ⟨hk, hb⟩, rfl⟩; exact ⟨i, k, hi, hk, hb, rfl⟩
  · rintro ⟨i, k, hi, hk, hb, rfl⟩; exact ⟨i, hi, k, ⟨hk, hb⟩, rfl⟩

theorem Own.keep {n : Nat} {h h' : AHeap} {x : Cell} {esz len : Nat} {cs : List Cell} (o : Own n h x esz cs len) (a : Kp h.length h h') : Own n h' x esz cs len := by
  refine ⟨o.1, o.2.imp id ?_⟩
  rintro ⟨k, rfl, hk, hb⟩
  exact ⟨k, rfl, hk, by rw [a.blk (blk_lt' hb)]; exact hb⟩

/-- Two rows lie apart. -/
def ApartB (x y : Cell) : Prop := ∀ k, isBlk y k → ¬ isBlk x k

theorem Own.keep_app {m : Nat} {h h' : AHeap} {x x' y : Cell} {esz len : Nat} {cs : List Cell} (o : Own m h y esz cs len) (ha : ApartB x y) (hk : ∀ j b, blk? h j = some b → ¬ isBlk x j → blk? h' j = some b ∧ ¬ isBlk x' j) : Own m h' y esz cs len ∧ ApartB x' y := by
  rcases o.2 with ⟨rfl, hz⟩ | ⟨k, rfl, hkm, hb⟩
  · exact ⟨⟨o.1, .inl ⟨rfl, hz⟩⟩, fun k hk => by cases hk⟩
  · obtain ⟨h1, h2⟩ := hk k _ hb (ha k rfl)
    refine ⟨⟨o.1, .inr ⟨k, rfl, hkm, h1⟩⟩, fun j hj => ?_⟩
    have : k = j := hj
    subst this; exact h2

theorem Own.apart {n m : Nat} {h : AHeap} {x y : Cell} {e1 e2 l1 l2 : Nat} {c1 c2 : List Cell} (o : Own n h x e1 c1 l1) (hm : h.length ≤ m) {h' : AHeap} (o2 : Own m h' y e2 c2 l2) : ApartB x y := by
  intro k hk hx
  rcases o.2 with ⟨rfl, _⟩ | ⟨k1, rfl, _, hb⟩
  · cases hx
  · rcases o2.2 with ⟨rfl, _⟩ | ⟨k2, rfl, hk2, _⟩
    · cases hk
    · have e1 : k1 = k := hx
      have e2 : k2 = k := hk
      have := blk_lt' hb
      omega

variable {E : Env}

theorem two_cells' (a b : Int) : splice [Cell.int .i64 0, Cell.int .i64 0] 0 (splice (splice [Cell.int .i64 0, Cell.int .i64 0] 0 [.int .i64 a]) 1 [.int .i64 b]) = [.int .i64 a, .int .i64 b] := rfl

theorem Pairs_R (hE : rel_Rel_Pairs_In E) (ht : TabOk E) {n : Nat} (hn : n ≤ 64) {f : Nat → Nat} (hf : Words f) (h : AHeap) :
    ∃ x h', R E 20 [.agg (relL n f)] h = some ([.c x], h') ∧ Own h.length h' x 2 (pairC (pairsP n f)) (pairsP n f).length ∧ Kp h.length h h' := by
  suffices hs' : ∃ x h', rel_Rel_Pairs.body (R E) Lim E.glob [.agg (relL n f)] h = some ([.c x], h') ∧ Own h.length h' x 2 (pairC (pairsP n f)) (pairsP n f).length ∧ Kp h.length h h' by
    obtain ⟨x, h', hh, hr⟩ := hs'; exact ⟨x, h', R_intro hE.fn hh, hr⟩
  obtain ⟨st, ⟨x, h', rfl, ho, hk⟩, hlim⟩ := Lim_inv (F := rel_Rel_Pairs_F2 (R E) Lim E.glob)
    (fun i st => ∃ x h', st = rel_Rel_Pairs_s2 x n (i : Int) (relL n f) h' ∧ Own h.length h' x 2 (pairC (pairsP i f)) (pairsP i f).length ∧ Kp h.length h h') 0 n (by omega)
    (fun i st _ hi hI => by
      obtain ⟨x, h1, rfl, ho, hk⟩ := hI
      have q1 : 0 ≤ (i : Int) ∧ (i : Int) < ((64 : Nat) : Int) := by omega
      obtain ⟨y, h2, hL, hoy, hky⟩ := List_R hE.c32 ht (hf i) h1
      have hpl := pairsP_len f i
      have hbl := bits_len (f i)
      have hnn : i * 64 ≤ 64 * 64 := Nat.mul_le_mul_right _ (by omega)
      obtain ⟨st2, ⟨x3, h3, rfl, ho3, hy3, hap3, hk3⟩, hlim2⟩ := Lim_inv (F := rel_Rel_Pairs_F1 (R E) Lim E.glob)
        (fun j st => ∃ x h', st = rel_Rel_Pairs_s1 x i n i y (bitsL (f i)).length (j : Int) (relL n f) h' ∧ Own h.length h' x 2 (pairC (pairsP i f ++ (rowP f i).take j)) (pairsP i f ++ (rowP f i).take j).length ∧ Own h1.length h' y 1 (natC (bitsL (f i))) (bitsL (f i)).length ∧ ApartB x y ∧ Kp h.length h h') 0 (bitsL (f i)).length (by omega)
        (fun j st _ hj hI => by
          obtain ⟨x, h', rfl, ho, hoy, hap, hk⟩ := hI
          obtain ⟨m, hm⟩ : ∃ m, (bitsL (f i))[j]? = some m := ⟨(bitsL (f i))[j], by simp⟩
          have hlen : (pairsP i f ++ (rowP f i).take j).length ≤ 64 * 64 + 64 := by
            rw [List.length_append, List.length_take]; omega
          obtain ⟨x', h'', ha, ho', hk', hfr⟩ := ho.app (xs := [.int .i64 (i : Int), .int .i64 (m : Int)]) (bytes := 16) hk.1 rfl (by omega) (by unfold maxBytes; omega) (by unfold maxBytes; omega)
          obtain ⟨hoy', hap'⟩ := hoy.keep_app hap hfr
          have htk : (rowP f i).take (j + 1) = (rowP f i).take j ++ [((i : Int), (m : Int))] := by
            rw [List.take_add_one]; unfold rowP; rw [List.getElem?_map, hm]; rfl
          refine ⟨rel_Rel_Pairs_s1 x' i n i y (bitsL (f i)).length ((j + 1 : Nat) : Int) (relL n f) h'', ?_, x', h'', rfl, ?_, hoy', hap', hk.trans hk'⟩
          · rw [rel_Rel_Pairs_r1, if_pos (by simp; omega), hoy.at.get1 hj (natC_get hm), asI_ok, if_pos ⟨rfl, by simp⟩, two_cells', if_pos (show (List.length [_, _] : Nat) = 1 * 2 from rfl), ha, g_succ (by omega)]
          · rw [htk, ← List.append_assoc, pairC_snoc, List.length_append]; exact ho')
        (st := rel_Rel_Pairs_s1 x i n i y (bitsL (f i)).length 0 (relL n f) h2)
        ⟨x, h2, rfl, by rw [List.take_zero, List.append_nil]; exact ho.keep hky, hoy, ho.apart (Nat.le_refl _) hoy, hk.trans (hky.mono hk.1)⟩
      have hend : rel_Rel_Pairs_F1 (R E) Lim E.glob (rel_Rel_Pairs_s1 x3 i n i y (bitsL (f i)).length ((bitsL (f i)).length : Nat) (relL n f) h3) = some (.exit 2, rel_Rel_Pairs_x1_3 x3 n i (relL n f) h3) := by
        rw [rel_Rel_Pairs_r1, if_neg (by simp)]
      have hrl : (rowP f i).take (bitsL (f i)).length = rowP f i := List.take_of_length_le (by unfold rowP; simp)
      rw [hrl, ← pairsP_succ] at ho3
      refine ⟨rel_Rel_Pairs_s2 x3 n ((i + 1 : Nat) : Int) (relL n f) h3, ?_, x3, h3, rfl, ho3, hk3⟩
      rw [rel_Rel_Pairs_r2, if_pos (by simp; omega), if_pos q1, Int.toNat_natCast, Nat.mul_one, atK_ok (relL_row (by omega)), asI_ok, hL, c1_ok, asC_ok, hoy.at.len, hlim2 _ (Lim_exit hend), bind_ok, rel_Rel_Pairs_e1_3, g_succ (by omega)])
    (st := rel_Rel_Pairs_s2 .nils n 0 (relL n f) h) ⟨.nils, h, rfl, by exact Own.nil _ _ _, Kp.refl _ _⟩
  have hend : rel_Rel_Pairs_F2 (R E) Lim E.glob (rel_Rel_Pairs_s2 x n (n : Int) (relL n f) h') = some (.exit 0, rel_Rel_Pairs_x2_1 x h') := by
    rw [rel_Rel_Pairs_r2, if_neg (by simp)]
  refine ⟨x, h', ?_, ho, hk⟩
  rw [rel_Rel_Pairs_eq, atK_ok (relL_zero _ _), asI_ok, hlim _ (Lim_exit hend), bind_ok, rel_Rel_Pairs_e2_1]

end Jq

/- RelPairs: the pairs are the ones had, in order, no more; the relation of its pairs is itself. -/
namespace Jq
open Go

/-- A row's pairs below j. -/
def rowU (f : Nat → Nat) (i j : Nat) : List (Int × Int) := ((List.range j).filter fun k => (f i).testBit k).map fun (k : Nat) => ((i : Int), (k : Int))

theorem rowU_succ (f : Nat → Nat) (i j : Nat) : rowU f i (j + 1) = rowU f i j ++ if (f i).testBit j then [((i : Int), (j : Int))] else [] := by
  unfold rowU
  rw [List.range_succ, List.filter_append, List.map_append]
  congr 1
  by_cases hb : (f i).testBit j = true
  · simp [hb]
  · simp [hb]

theorem rowU_pre (f : Nat → Nat) (i j : Nat) : ∀ d, rowU f i j <+: rowU f i (j + d)
  | 0 => List.prefix_refl _
  | d + 1 => (rowU_pre f i j d).trans (by rw [← Nat.add_assoc, rowU_succ]; exact List.prefix_append _ _)

theorem pairsP_pre (f : Nat → Nat) (i : Nat) : ∀ d, pairsP i f <+: pairsP (i + d) f
  | 0 => List.prefix_refl _
  | d + 1 => (pairsP_pre f i d).trans (by rw [← Nat.add_assoc, pairsP_succ]; exact List.prefix_append _ _)

theorem pairsP_at {n : Nat} {f : Nat → Nat} {i j : Nat} (hi : i < n) (hj : j < 64) (hb : (f i).testBit j = true) : (pairsP n f)[(pairsP i f ++ rowU f i j).length]? = some ((i : Int), (j : Int)) := by
  obtain ⟨t1, h1⟩ := pairsP_pre f (i + 1) (n - (i + 1))
  rw [show i + 1 + (n - (i + 1)) = n by omega] at h1
  obtain ⟨t2, h2⟩ := rowU_pre f i (j + 1) (64 - (j + 1))
  rw [show j + 1 + (64 - (j + 1)) = 64 by omega, rowU_succ, if_pos hb] at h2
  have h3 : rowP f i = rowU f i 64 := rfl
  rw [← h1, pairsP_succ, h3, ← h2]
  simp only [← List.append_assoc]
  rw [List.append_assoc, List.append_assoc, List.getElem?_append_right (Nat.le_refl _), Nat.sub_self]
  rfl

theorem rowU_fit {n : Nat} {f : Nat → Nat} (ff : Fit n f) (i : Nat) : ∀ d, rowU f i (n + d) = rowU f i n
  | 0 => rfl
  | d + 1 => by
    rw [← Nat.add_assoc, rowU_succ, rowU_fit ff i d, if_neg, List.append_nil]
    intro hb
    have := (ff _ _ hb).2
    omega

theorem rowU_all {n : Nat} (hn : n ≤ 64) {f : Nat → Nat} (ff : Fit n f) (i : Nat) : rowU f i n = rowP f i := by
  rw [← rowU_fit ff i (64 - n), show n + (64 - n) = 64 by omega]; rfl

theorem bit01 (x i : Nat) : x >>> i &&& 1 = if x.testBit i then 1 else 0 := by
  have : x.testBit i = (1 &&& (x >>> i) != 0) := rfl
  rw [this, Nat.and_comm, Nat.and_comm 1, Nat.and_one_is_mod]
  rcases Nat.mod_two_eq_zero_or_one (x >>> i) with h | h <;> simp [h]

section
variable {E : Env}
theorem shr_le (x i : Nat) : x >>> i ≤ x := by rw [Nat.shiftRight_eq_div_pow]; exact Nat.div_le_self _ _
theorem g_bitI {x i : Nat} (hx : x < 2 ^ 64) (hi : i ≤ 64) : E.glob.band .u64 (E.glob.shr .u64 (x : Int) (i : Int)) 1 = (((if x.testBit i then 1 else 0 : Nat)) : Int) := by
  rw [g_shr hi, show (1 : Int) = ((1 : Nat) : Int) from rfl, g_band (Nat.lt_of_le_of_lt (shr_le x i) hx) (by omega), bit01]
theorem g_bit1 {x i : Nat} (hx : x < 2 ^ 64) (hi : i ≤ 64) : (E.glob.band .u64 (E.glob.shr .u64 (x : Int) (i : Int)) 1 == 1) = x.testBit i := by
  rw [g_bitI hx hi]; cases x.testBit i <;> rfl
theorem g_bit0 {x i : Nat} (hx : x < 2 ^ 64) (hi : i ≤ 64) : (E.glob.band .u64 (E.glob.shr .u64 (x : Int) (i : Int)) 1 == 0) = !x.testBit i := by
  rw [g_bitI hx hi]; cases x.testBit i <;> rfl

theorem refHas_R (hE : jacquardref6_Rel_Has_In E) {n : Nat} {f : Nat → Nat} (hf : Words f) {a b : Nat} (ha : a < 64) (hb : b ≤ 64) {k : Nat} {o : Bool} {h : AHeap} (hk : blk? h k = some ⟨o, 0, relL n f⟩) :
    R E 7 [.c (.ptr k 65 0), .c (.int .i64 (a : Nat)), .c (.int .i64 (b : Nat))] h = some ([.c (.bool ((f a).testBit b))], h) := by
  refine R_intro hE.fn ?_
  have q1 : 0 ≤ (a : Int) ∧ (a : Int) < ((64 : Nat) : Int) := by omega
  rw [jacquardref6_Rel_Has_eq, if_pos q1, rdH_ok hk (relL_len n f)]
  dsimp only
  rw [Int.toNat_natCast, show 0 + 1 + a * 1 = 1 + a by omega, atK_ok (relL_row ha), asI_ok, if_neg (by omega), g_bit1 (hf a) hb]
end

theorem SlAt.getP {h hh : AHeap} {x : Cell} {l : List (Int × Int)} (s : SlAt h x 2 (pairC l) l.length) {i : Nat} {p : Int × Int} (hi : l[i]? = some p) {a b : Int} :
    (idxSK 2 x (i : Int) fun k N o => rdH h k N fun l => if o + 2 ≤ l.length then if alike ((l.drop o).take 2) ([Cell.int .i64 0, Cell.int .i64 0]) = true ∧ alike (splice (splice [Cell.int .i64 0, Cell.int .i64 0] 0 ([(.int .i64 a)] : List Cell)) 1 ([(.int .i64 b)] : List Cell)) ([Cell.int .i64 0, Cell.int .i64 0]) = true then
      some ((!(decide (((l.drop o).take 2) = (splice (splice [Cell.int .i64 0, Cell.int .i64 0] 0 ([(.int .i64 a)] : List Cell)) 1 ([(.int .i64 b)] : List Cell))))), hh) else none else none) = some (!(decide (p = (a, b))), hh) := by
  have hlt : i < l.length := by
    rcases Nat.lt_or_ge i l.length with h1 | h1
    · exact h1
    · rw [List.getElem?_eq_none h1] at hi; cases hi
  refine (s.getN hlt (f := fun t => if alike t ([Cell.int .i64 0, Cell.int .i64 0]) = true ∧ alike (splice (splice [Cell.int .i64 0, Cell.int .i64 0] 0 ([(.int .i64 a)] : List Cell)) 1 ([(.int .i64 b)] : List Cell)) ([Cell.int .i64 0, Cell.int .i64 0]) = true then
      some ((!(decide (t = (splice (splice [Cell.int .i64 0, Cell.int .i64 0] 0 ([(.int .i64 a)] : List Cell)) 1 ([(.int .i64 b)] : List Cell))))), hh) else none)).trans ?_
  have e : ((pairC l).drop (i * 2)).take 2 = [.int .i64 p.1, .int .i64 p.2] := by
    obtain ⟨g1, g2⟩ := pairC_get l i p hi
    refine List.ext_getElem? fun j => ?_
    rw [List.getElem?_take, List.getElem?_drop]
    match j with
    | 0 => rw [if_pos (by omega), g1]; rfl
    | 1 => rw [if_pos (by omega), g2]; rfl
    | j + 2 => rw [if_neg (by omega)]; rfl
  have e2 : splice (splice [Cell.int .i64 0, Cell.int .i64 0] 0 ([(.int .i64 a)] : List Cell)) 1 ([(.int .i64 b)] : List Cell) = [.int .i64 a, .int .i64 b] := rfl
  rw [e, e2, if_pos ⟨rfl, rfl⟩]
  congr 3
  rw [decide_eq_decide]
  obtain ⟨c, d⟩ := p
  simp

theorem rel_pairs {n : Nat} (hn : n ≤ 64) {f : Nat → Nat} (hf : Words f) (ff : Fit n f) : relL n (ofR n (pairsP n f)) = relL n f := rel_eq (words_of _ _) hf fun i j => by
  rw [of_bit hn]
  constructor
  · rintro ⟨p, hp, _, _, h1, h2⟩
    obtain ⟨a, b, _, _, hb, rfl⟩ := mem_pairsP.1 hp
    have e1 : a = i := Int.ofNat.inj h1
    have e2 : b = j := Int.ofNat.inj h2
    rw [← e1, ← e2]; exact hb
  · intro hb
    obtain ⟨h1, h2⟩ := ff _ _ hb
    exact ⟨_, mem_pairsP.2 ⟨i, j, h1, by omega, hb, rfl⟩, by rw [inR_nat]; simpa using h1, by rw [inR_nat]; simpa using h2, rfl, rfl⟩

variable {E : Env}

theorem RelPairs_R (hE : jacquardlaw8_RelPairs_In E) (ht : TabOk E) (a0 : Int) {x1 : Cell} {l1 : List (Int × Int)} {h : AHeap} (hx1 : SlAt h x1 2 (pairC l1) l1.length) (hl1 : Low h.length x1) :
    R E 240 [.c (.int .i64 a0), .c x1] h = some ([.c (.bool true)], h) := by
  refine R_intro hE.fn ?_
  rw [jacquardlaw8_RelPairs_eq]
  have hn : clamp a0 ≤ 64 := by unfold clamp; omega
  have hv : (if 64 < (if 0 > a0 then 0 else a0) then 64 else (if 0 > a0 then 0 else a0)) = ((clamp a0 : Nat) : Int) := by unfold clamp; split <;> split <;> omega
  simp only [hv]
  generalize clamp a0 = n at hn
  rw [Of_R hE.c1 (n : Int) hx1 hl1, c2_ok, asA_ok, asA_ok, clamp_nat hn]
  have hf := words_of n (l1.take 200)
  have ff := of_fit hn (l1.take 200)
  simp only [relL_len, zero_len, and_self, if_true]
  generalize ofR n (l1.take 200) = f at *
  rw [rdH_ok (blk_new h _) zero_len]
  dsimp only
  rw [if_pos ⟨by trivial, zero_len, by trivial⟩, putH_ok (blk_new h _) rfl, setBlk_last]
  dsimp only
  obtain ⟨x, h2, hP, hx, hk⟩ := Pairs_R hE.c20 ht hn hf (h ++ [some ⟨true, 0, relL n f⟩])
  rw [hP, c1_ok, asC_ok]
  have hk2 : blk? h2 h.length = some ⟨true, 0, relL n f⟩ := by rw [hk.blk (by simp)]; exact blk_new _ _
  have hK : Kp h.length h h2 := (Kp.app _ (Nat.le_refl _)).trans (hk.mono (by simp))
  have hlen : ∀ i j, i < n → j ≤ n → (pairsP i f ++ rowU f i j).length ≤ 64 * 64 + 64 := by
    intro i j hi hj
    have h1 := pairsP_len f i
    have h2 : (rowU f i j).length ≤ j := by unfold rowU; rw [List.length_map]; exact Nat.le_trans (List.length_filter_le _ _) (by simp)
    rw [List.length_append]
    omega
  have outer : Lim (jacquardlaw8_RelPairs_F2 (R E) Lim E.glob) (jacquardlaw8_RelPairs_s2 n h.length 65 0 x ((pairsP 0 f).length : Nat) ((0 : Nat) : Int) (relL n f) h2) = some (.exit 0, jacquardlaw8_RelPairs_x2_1 n x ((pairsP n f).length : Nat) (relL n f) h2) := by
    refine Lim_count (fun i => jacquardlaw8_RelPairs_s2 n h.length 65 0 x ((pairsP i f).length : Nat) (i : Int) (relL n f) h2) 0 n (by omega) (fun i _ hi => ?_) (Lim_exit ?_)
    · have inner : Lim (jacquardlaw8_RelPairs_F1 (R E) Lim E.glob) (jacquardlaw8_RelPairs_s1 n h.length 65 0 x ((pairsP i f ++ rowU f i 0).length : Nat) i ((0 : Nat) : Int) (relL n f) h2) = some (.exit 2, jacquardlaw8_RelPairs_x1_3 n h.length 65 0 x ((pairsP i f ++ rowU f i n).length : Nat) i (relL n f) h2) := by
        refine Lim_count (fun j => jacquardlaw8_RelPairs_s1 n h.length 65 0 x ((pairsP i f ++ rowU f i j).length : Nat) i (j : Int) (relL n f) h2) 0 n (by omega) (fun j _ hj => ?_) (Lim_exit ?_)
        · rw [jacquardlaw8_RelPairs_r1, if_pos (by simp; omega), if_pos ⟨rfl, relL_len _ _⟩, HasS hE.c3 hn hf hi (by omega), c1_ok, asB_ok, refHas_R hE.c7 hf (by omega) (by omega) hk2, c1_ok, asB_ok, refHas_R hE.c7 hf (by omega) (by omega) hk2, c1_ok, asB_ok, beq_self_eq_true, if_neg (by simp), g_succ (by omega)]
          cases hb : (f i).testBit j with
          | false =>
            rw [if_pos (by simp), rowU_succ, hb]
            simp
          | true =>
            have hp := pairsP_at hi (show j < 64 by omega) hb
            have hlt : (pairsP i f ++ rowU f i j).length < (pairsP n f).length := by
              rcases Nat.lt_or_ge (pairsP i f ++ rowU f i j).length (pairsP n f).length with h1 | h1
              · exact h1
              · rw [List.getElem?_eq_none h1] at hp; cases hp
            have hle := hlen i j hi (by omega)
            rw [if_neg (by simp), hx.at.len, show decide ((((pairsP i f ++ rowU f i j).length : Nat) : Int) ≥ (((pairsP n f).length : Nat) : Int)) = false from decide_eq_false (fun q => absurd (Int.ofNat_le.1 q) (Nat.not_le.2 hlt)), scK_ok, hx.at.getP hp, bind_ok]
            dsimp only
            rw [if_neg (by simp), g_succ (by omega), rowU_succ, hb, if_pos rfl, ← List.append_assoc, List.length_append (bs := [_])]
            rfl
        · rw [jacquardlaw8_RelPairs_r1, if_neg (by simp)]
      rw [show pairsP i f ++ rowU f i 0 = pairsP i f from List.append_nil _, rowU_all hn ff, ← pairsP_succ] at inner
      rw [jacquardlaw8_RelPairs_r2, if_pos (by simp; omega), show (0 : Int) = ((0 : Nat) : Int) from rfl, inner, bind_ok, jacquardlaw8_RelPairs_e1_3, g_succ (by omega)]
    · rw [jacquardlaw8_RelPairs_r2, if_neg (by simp)]
  rw [show jacquardlaw8_RelPairs_s2 n h.length 65 0 x 0 0 (relL n f) h2 = jacquardlaw8_RelPairs_s2 n h.length 65 0 x ((pairsP 0 f).length : Nat) ((0 : Nat) : Int) (relL n f) h2 from rfl, outer, bind_ok, jacquardlaw8_RelPairs_e2_1, Of_R hE.c1 (n : Int) hx.at hx.low, c2_ok, asA_ok, asA_ok, clamp_nat hn]
  simp only [relL_len, zero_len, and_self, if_true]
  rw [hx.at.len, beq_self_eq_true, scK_ok]
  have e1 : (scK (decide ((((pairsP n f).length : Nat) : Int) > 200)) false (if alike (relL n (ofR n ((pairsP n f).take 200))) ([Cell.int .i64 0] ++ List.replicate 64 (Cell.int .u64 0)) = true ∧ alike (relL n f) ([Cell.int .i64 0] ++ List.replicate 64 (Cell.int .u64 0)) = true then some ((decide (relL n (ofR n ((pairsP n f).take 200)) = relL n f)), h2) else none) true h2 fun b h => some (b, h)) = some (true, h2) := by
    by_cases hl : (pairsP n f).length ≤ 200
    · rw [show decide ((((pairsP n f).length : Nat) : Int) > 200) = false by simp; omega, scK_ok, List.take_of_length_le hl, rel_pairs hn hf ff, zero_rel]
      simp only [alike_rel, and_self, if_true, decide_true]
      rfl
    · rw [show decide ((((pairsP n f).length : Nat) : Int) > 200) = true by simp; omega, scK_tf]
  rw [e1, bind_ok]
  dsimp only
  have b1 : hasR n f (-1) 0 = false := by unfold hasR inR; simp
  have b2 : hasR n f 0 64 = false := by unfold hasR hasI; simp
  have b3 : inR n (-1) = false := by unfold inR; simp
  have b4 : inR n 64 = false := by unfold inR; simp; omega
  simp only [relL_len, HasR_R hE.c3 hn hf, Row_R hE.c41 hn, awake8_R hE.c55, c1_ok, asI_ok, asB_ok, and_self, if_true, bind_ok, scK_ok, b1, b2, b3, b4, Bool.not_false, Bool.false_eq_true, if_false]
  exact finish_gc hK (by simp [avOk, AV.cells, idOk])

theorem RelPairs_law (ht : TabOk E) (hE : jacquardlaw8_RelPairs_In E) {h : AHeap} {c0 c1 : List Cell} (o0 : okC h (.i .i64) c0) (o1 : okC h (.sl shPair) c1) :
    ∃ h', R E 240 [av1 (.i .i64) c0, av1 (.sl shPair) c1] h = some ([.c (.bool true)], h') := by
  obtain ⟨a0, e0, _⟩ := arg_int o0
  obtain ⟨x1, l1, e1, hx1, hl1, _⟩ := arg_pairs o1
  rw [e0, e1]
  exact ⟨h, RelPairs_R hE ht a0 hx1 hl1⟩

end Jq

/- RelAlgebra: joining and meeting are the same both ways; turned twice a relation is itself; closed twice it is closed. -/
namespace Jq
open Go

theorem clK_ge {n : Nat} {f : Nat → Nat} {a : Nat} (ha : n ≤ a) : ∀ k, clK n f k a = f a
  | 0 => rfl
  | k + 1 => by rw [clK, cl1_eq, if_neg (by omega), clK_ge ha k]

theorem clK_bit {n : Nat} {f : Nat → Nat} (ff : Fit n f) (a b : Nat) : (clK n f n a).testBit b = true ↔ Way f n a b := by
  rcases Nat.lt_or_ge a n with ha | ha
  · exact clK_way n f n (Nat.le_refl _) a b ha
  · rw [clK_ge ha]
    constructor
    · exact fun h => .one h
    · intro w
      have : a < n := by
        cases w with
        | one h => exact (ff _ _ h).1
        | step h _ _ => exact (ff _ _ h).1
      omega

theorem way_fit {n : Nat} {f : Nat → Nat} (ff : Fit n f) {a b : Nat} (w : Way f n a b) : a < n ∧ b < n := by
  induction w with
  | one h => exact ff _ _ h
  | step h _ _ ih => exact ⟨(ff _ _ h).1, ih.2⟩

theorem clK_fit {n : Nat} {f : Nat → Nat} (ff : Fit n f) : Fit n (clK n f n) := fun a b h => way_fit ff ((clK_bit ff a b).1 h)

theorem way_way {n : Nat} {f : Nat → Nat} (ff : Fit n f) {a b : Nat} : Way (clK n f n) n a b ↔ Way f n a b := by
  constructor
  · intro w
    induction w with
    | one h => exact (clK_bit ff _ _).1 h
    | step h hc _ ih => exact ((clK_bit ff _ _).1 h).trans hc ih
  · intro w; exact .one ((clK_bit ff _ _).2 w)

variable {E : Env}

theorem clamp_eq (a : Int) : (if 64 < (if 0 > a then 0 else a) then 64 else (if 0 > a then 0 else a)) = ((clamp a : Nat) : Int) := by
  unfold clamp; split <;> split <;> omega
theorem clamp_le (a : Int) : clamp a ≤ 64 := by unfold clamp; omega

theorem RelAlgebra_R (hE : jacquardlaw8_RelAlgebra_In E) (ht : TabOk E) (a0 : Int) {x1 x2 : Cell} {l1 l2 : List (Int × Int)} {h : AHeap} (hx1 : SlAt h x1 2 (pairC l1) l1.length) (hl1 : Low h.length x1)
    (hx2 : SlAt h x2 2 (pairC l2) l2.length) (hl2 : Low h.length x2) : R E 243 [.c (.int .i64 a0), .c x1, .c x2] h = some ([.c (.bool true)], h) := by
  refine R_intro hE.fn ?_
  rw [jacquardlaw8_RelAlgebra_eq]
  have hn := clamp_le a0
  simp only [clamp_eq]
  generalize clamp a0 = n at hn
  rw [Of_R hE.c1 (n : Int) hx1 hl1, c2_ok, asA_ok, asA_ok, clamp_nat hn]
  have hf := words_of n (l1.take 200)
  have hg := words_of n (l2.take 200)
  have ff := of_fit hn (l1.take 200)
  have fg := of_fit hn (l2.take 200)
  simp only [relL_len, zero_len, and_self, if_true]
  rw [Of_R hE.c1 (n : Int) hx2 hl2, c2_ok, asA_ok, asA_ok, clamp_nat hn]
  simp only [relL_len, and_self, if_true]
  generalize ofR n (l1.take 200) = f at *
  generalize ofR n (l2.take 200) = g at *
  have hc := words_clK hf n n
  have fc := clK_fit ff
  have e1 : relL n (UNI n f g) = relL n (UNI n g f) := rel_eq (w_UNI _ _ _) (w_UNI _ _ _) fun i j => by simp only [b_UNI hn]; constructor <;> (rintro ⟨q1, q2, q⟩; exact ⟨q1, q2, q.symm⟩)
  have e2 : relL n (MEE n f g) = relL n (MEE n g f) := rel_eq (w_MEE _ _ _) (w_MEE _ _ _) fun i j => by simp only [b_MEE hn]; constructor <;> (rintro ⟨q1, q2, q⟩; exact ⟨q1, q2, q.symm⟩)
  have e3 : relL n (INV n (INV n f)) = relL n f := rel_eq (w_INV _ _) hf fun i j => by
    simp only [b_INV hn]
    exact ⟨fun q => q.2.2, fun q => ⟨(ff _ _ q).2, (ff _ _ q).1, q⟩⟩
  have e4 : relL n (clK n (clK n f n) n) = relL n (clK n f n) := rel_eq (words_clK hc n n) hc fun i j => by
    rw [clK_bit fc, clK_bit ff, way_way ff]
  have e5 : relL n (INV n (TH n f g)) = relL n (TH n (INV n g) (INV n f)) := rel_eq (w_INV _ _) (w_TH _ _ _) fun i j => by
    simp only [b_INV hn, b_TH hn]
    constructor
    · rintro ⟨q1, _, q2, k, q3, q4, q5⟩; exact ⟨q2, q1, k, q3, ⟨q3, q5⟩, q1, q4⟩
    · rintro ⟨q2, q1, k, q3, ⟨_, q5⟩, _, q4⟩; exact ⟨q1, q1, q2, k, q3, q4, q5⟩
  have e6 : relL n (UNI n (MIN n f g) (MEE n f g)) = relL n f := rel_eq (w_UNI _ _ _) hf fun i j => by
    simp only [b_UNI hn, b_MIN hn, b_MEE hn]
    constructor
    · rintro ⟨_, _, ⟨_, _, q, _⟩ | ⟨_, _, q, _⟩⟩ <;> exact q
    · intro q
      obtain ⟨q1, q2⟩ := ff _ _ q
      by_cases hgb : (g i).testBit j = true
      · exact ⟨q1, q2, .inr ⟨q1, q2, q, hgb⟩⟩
      · exact ⟨q1, q2, .inl ⟨q1, q2, q, hgb⟩⟩
  have e6' : relL n (UNI n (MIN n f g) (MEE n g f)) = relL n f := rel_eq (w_UNI _ _ _) hf fun i j => by
    simp only [b_UNI hn, b_MIN hn, b_MEE hn]
    constructor
    · rintro ⟨_, _, ⟨_, _, q, _⟩ | ⟨_, _, _, q⟩⟩ <;> exact q
    · intro q
      obtain ⟨q1, q2⟩ := ff _ _ q
      by_cases hgb : (g i).testBit j = true
      · exact ⟨q1, q2, .inr ⟨q1, q2, hgb, q⟩⟩
      · exact ⟨q1, q2, .inl ⟨q1, q2, q, hgb⟩⟩
  have e7 : relL n (UNI n (TH n (clK n f n) (clK n f n)) (clK n f n)) = relL n (clK n f n) := rel_eq (w_UNI _ _ _) hc fun i j => by
    simp only [b_UNI hn, b_TH hn]
    constructor
    · rintro ⟨_, _, ⟨_, _, k, q3, q4, q5⟩ | q⟩
      · exact (clK_bit ff _ _).2 (((clK_bit ff _ _).1 q4).trans q3 ((clK_bit ff _ _).1 q5))
      · exact q
    · intro q
      exact ⟨(fc _ _ q).1, (fc _ _ q).2, .inr q⟩
  have e8 : relL n (UNI n f (clK n f n)) = relL n (clK n f n) := rel_eq (w_UNI _ _ _) hc fun i j => by
    simp only [b_UNI hn]
    constructor
    · rintro ⟨_, _, q | q⟩
      · exact (clK_bit ff _ _).2 (.one q)
      · exact q
    · intro q
      exact ⟨(fc _ _ q).1, (fc _ _ q).2, .inr q⟩
  have e9 : relL n (UNI n f f) = relL n f := rel_eq (w_UNI _ _ _) hf fun i j => by
    simp only [b_UNI hn, or_self]
    exact ⟨fun q => q.2.2, fun q => ⟨(ff _ _ q).1, (ff _ _ q).2, q⟩⟩
  simp only [relL_len, zero_len, and_self, if_true, Then_S hE.c58 ht hn, Union_S hE.c59 hn, Meet_S hE.c67 hn, Minus_S hE.c68 hn, Inverse_S hE.c40 ht hn, Closure_R hE.c12 hn, awake8_R hE.c55, hf, hg, hc, w_TH, w_UNI, w_MEE, w_MIN, w_INV, qh_ok, c1_ok, asA_ok, asB_ok, bind_ok, scK_ok, zero_rel, alike_rel, e1, e2, e3, e4, e5, e6, e6', e7, e8, e9, decide_true]

theorem RelAlgebra_law (ht : TabOk E) (hE : jacquardlaw8_RelAlgebra_In E) {h : AHeap} {c0 c1 c2 : List Cell} (o0 : okC h (.i .i64) c0) (o1 : okC h (.sl shPair) c1) (o2 : okC h (.sl shPair) c2) :
    ∃ h', R E 243 [av1 (.i .i64) c0, av1 (.sl shPair) c1, av1 (.sl shPair) c2] h = some ([.c (.bool true)], h') := by
  obtain ⟨a0, e0, _⟩ := arg_int o0
  obtain ⟨x1, l1, e1, hx1, hl1, _⟩ := arg_pairs o1
  obtain ⟨x2, l2, e2, hx2, hl2, _⟩ := arg_pairs o2
  rw [e0, e1, e2]
  exact ⟨h, RelAlgebra_R hE ht a0 hx1 hl1 hx2 hl2⟩

end Jq

/- Relations told once more, by hand: closing, none leading to itself, cutting down, whether two are the same. -/
namespace Jq
open Go

theorem Low_mono {n m : Nat} (hm : n ≤ m) : ∀ {x : Cell}, Low n x → Low m x := by
  intro x h
  unfold Low at *
  split <;> simp_all
  omega

theorem avOk_rel (m n : Nat) (f : Nat → Nat) : avOk m (.agg (relL n f)) = true := by simp [avOk, AV.cells, relL, idOk]

/-- What holds, over r. -/
def ACC (r : Nat) (q : Nat → Nat → Bool) : Nat → Nat := fun a => mkN fun b => decide (a < r) && decide (b < r) && q a b

theorem w_ACC (r : Nat) (q : Nat → Nat → Bool) : Words (ACC r q) := fun _ => mkN_lt _

theorem b_ACC {r : Nat} (hr : r ≤ 64) (q : Nat → Nat → Bool) (a b : Nat) : (ACC r q a).testBit b = (decide (a < r) && decide (b < r) && q a b) := by
  unfold ACC
  rw [testBit_mkN, Bool.eq_iff_iff]
  simp only [Bool.and_eq_true, decide_eq_true_eq]
  constructor
  · rintro ⟨_, h⟩; exact h
  · rintro h; exact ⟨by omega, h⟩

theorem ACC_fit {r : Nat} (hr : r ≤ 64) (q : Nat → Nat → Bool) : Fit r (ACC r q) := fun a b h => by
  rw [b_ACC hr] at h; simp only [Bool.and_eq_true, decide_eq_true_eq] at h; exact h.1

theorem ACC_eq {r : Nat} (hr : r ≤ 64) {q q' : Nat → Nat → Bool} (h : ∀ a b, a < r → b < r → q a b = q' a b) : relL r (ACC r q) = relL r (ACC r q') := rel_eq (w_ACC _ _) (w_ACC _ _) fun a b => by
  rw [b_ACC hr, b_ACC hr]
  simp only [Bool.and_eq_true, decide_eq_true_eq]
  constructor
  · rintro ⟨⟨h1, h2⟩, h3⟩; exact ⟨⟨h1, h2⟩, by rw [← h a b h1 h2]; exact h3⟩
  · rintro ⟨⟨h1, h2⟩, h3⟩; exact ⟨⟨h1, h2⟩, by rw [h a b h1 h2]; exact h3⟩

theorem ACC_add {r : Nat} (hr : r ≤ 64) {q q' : Nat → Nat → Bool} {i j : Nat} (hi : i < r) (hj : j < r) (h : ∀ a b, a < r → b < r → q' a b = (q a b || (decide (a = i) && decide (b = j)))) :
    relL r (addR r (ACC r q) (i : Int) (j : Int)) = relL r (ACC r q') := rel_eq (words_add (w_ACC _ _) _ _) (w_ACC _ _) fun a b => by
  rw [addR_bit hr, b_ACC hr, b_ACC hr, inR_nat, inR_nat, show decide (i < r) = true by simpa using hi, show decide (j < r) = true by simpa using hj]
  simp only [Bool.and_eq_true, Bool.or_eq_true, decide_eq_true_eq, Bool.true_and]
  constructor
  · rintro (⟨⟨h1, h2⟩, h3⟩ | ⟨h1, h2⟩)
    · exact ⟨⟨h1, h2⟩, by rw [h a b h1 h2, h3]; rfl⟩
    · have h1 : a = i := (Int.ofNat.inj h1).symm
      have h2 : b = j := (Int.ofNat.inj h2).symm
      subst h1; subst h2
      exact ⟨⟨hi, hj⟩, by rw [h a b hi hj]; simp⟩
  · rintro ⟨⟨h1, h2⟩, h3⟩
    rw [h a b h1 h2] at h3
    simp only [Bool.or_eq_true, Bool.and_eq_true, decide_eq_true_eq] at h3
    rcases h3 with h3 | ⟨rfl, rfl⟩
    · exact .inl ⟨⟨h1, h2⟩, h3⟩
    · exact .inr ⟨rfl, rfl⟩

theorem ACC_none {r : Nat} (hr : r ≤ 64) {q : Nat → Nat → Bool} (h : ∀ a b, a < r → b < r → q a b = false) : relL r (ACC r q) = relL r fun _ => 0 := rel_eq (w_ACC _ _) words_zero fun a b => by
  rw [b_ACC hr]
  simp only [Bool.and_eq_true, decide_eq_true_eq, Nat.zero_testBit]
  constructor
  · rintro ⟨⟨h1, h2⟩, h3⟩; rw [h a b h1 h2] at h3; exact h3
  · intro h; cases h

variable {E : Env}

theorem refClosure_R (hE : jacquardref6_Closure_In E) {n : Nat} (hn : n ≤ 64) {f : Nat → Nat} (hf : Words f) (h : AHeap) :
    R E 6 [.agg (relL n f)] h = some ([.agg (relL n (clK n f n))], h) := by
  refine R_intro hE.fn ?_
  rw [jacquardref6_Closure_eq]
  have outer : Lim (jacquardref6_Closure_F2 (R E) Lim E.glob) (jacquardref6_Closure_s2 h.length 65 0 ((0 : Nat) : Int) zeroL (h ++ [some ⟨true, 0, relL n (clK n f 0)⟩])) = some (.exit 0, jacquardref6_Closure_x2_1 h.length 65 0 zeroL (h ++ [some ⟨true, 0, relL n (clK n f n)⟩])) := by
    refine Lim_count (fun k => jacquardref6_Closure_s2 h.length 65 0 (k : Int) zeroL (h ++ [some ⟨true, 0, relL n (clK n f k)⟩])) 0 n (by omega) (fun k _ hk => ?_) (Lim_exit ?_)
    · have inner : Lim (jacquardref6_Closure_F1 (R E) Lim E.glob) (jacquardref6_Closure_s1 h.length 65 0 k ((0 : Nat) : Int) zeroL (h ++ [some ⟨true, 0, relL n (cl1 k 0 (clK n f k))⟩])) = some (.exit 2, jacquardref6_Closure_x1_3 h.length 65 0 k zeroL (h ++ [some ⟨true, 0, relL n (cl1 k n (clK n f k))⟩])) := by
        refine Lim_count (fun i => jacquardref6_Closure_s1 h.length 65 0 k (i : Int) zeroL (h ++ [some ⟨true, 0, relL n (cl1 k i (clK n f k))⟩])) 0 n (by omega) (fun i _ hi => ?_) (Lim_exit ?_)
        · have hw := words_cl1 (words_clK hf n k) k i
          have q1 : 0 ≤ (i : Int) ∧ (i : Int) < ((64 : Nat) : Int) := by omega
          have q2 : 0 ≤ (k : Int) ∧ (k : Int) < ((64 : Nat) : Int) := by omega
          have rd : ∀ {α : Type} (g : List Cell → Option α), rdH (h ++ [some ⟨true, 0, relL n (cl1 k i (clK n f k))⟩]) h.length 65 g = g (relL n (cl1 k i (clK n f k))) := fun g => rdH_ok (blk_new h _) (relL_len _ _)
          rw [jacquardref6_Closure_r1, rd, atK_ok (i := 0 + 0) (relL_zero _ _), asI_ok, if_pos (by simp; omega), refHas_R hE.c7 hw (by omega) (by omega) (blk_new h _), c1_ok, asB_ok, cl1, clS]
          cases hb : (cl1 k i (clK n f k) i).testBit k with
          | true =>
            simp only [if_true]
            rw [if_pos q1, rd, Int.toNat_natCast, Int.toNat_natCast, show 0 + 1 + i * 1 = 1 + i by omega, show 0 + 1 + k * 1 = 1 + k by omega, atK_ok (relL_row (by omega)), asI_ok, if_pos q2, rd, atK_ok (relL_row (by omega)), asI_ok, if_pos q1, rd, if_pos (by rw [relL_len]; omega), g_bor (hw _) (hw _), relL_set, putH_ok (blk_new h _) rfl, setBlk_last, g_succ (by omega)]
          | false => simp only [Bool.false_eq_true, if_false]; rw [g_succ (by omega)]
        · rw [jacquardref6_Closure_r1, rdH_ok (blk_new h _) (relL_len _ _), atK_ok (i := 0 + 0) (relL_zero _ _), asI_ok, if_neg (by simp)]
      rw [jacquardref6_Closure_r2, rdH_ok (blk_new h _) (relL_len _ _), atK_ok (i := 0 + 0) (relL_zero _ _), asI_ok, if_pos (by simp; omega), show jacquardref6_Closure_s1 h.length 65 0 k 0 zeroL (h ++ [some ⟨true, 0, relL n (clK n f k)⟩]) = jacquardref6_Closure_s1 h.length 65 0 k ((0 : Nat) : Int) zeroL (h ++ [some ⟨true, 0, relL n (cl1 k 0 (clK n f k))⟩]) from rfl, inner, bind_ok, jacquardref6_Closure_e1_3, g_succ (by omega)]
      rfl
    · rw [jacquardref6_Closure_r2, rdH_ok (blk_new h _) (relL_len _ _), atK_ok (i := 0 + 0) (relL_zero _ _), asI_ok, if_neg (by simp)]
  have hc : (AV.cells (.agg (relL n f))).length = 65 := relL_len _ _
  rw [hc, show jacquardref6_Closure_s2 h.length 65 0 0 ([Cell.int .i64 0] ++ List.replicate 64 (Cell.int .u64 0)) (h ++ [some (Blk.mk true 0 (AV.cells (.agg (relL n f))))]) = jacquardref6_Closure_s2 h.length 65 0 ((0 : Nat) : Int) zeroL (h ++ [some ⟨true, 0, relL n (clK n f 0)⟩]) from rfl, outer, bind_ok, jacquardref6_Closure_e2_1, rdH_ok (blk_new h _) (relL_len _ _)]
  simp only [relL_len, zeroL, zero_len, and_self, if_true]
  exact finish_gc (Kp.app _ (Nat.le_refl _)) (by simp [avOk_rel])

theorem refAcyclic_R (hE : jacquardref6_Acyclic_In E) {n : Nat} (hn : n ≤ 64) {f : Nat → Nat} (hf : Words f) (h : AHeap) :
    R E 71 [.agg (relL n f)] h = some ([.c (.bool (acycR n f))], h) := by
  refine R_intro hE.fn ?_
  have hw := words_clK hf n n
  rw [jacquardref6_Acyclic_eq, if_pos ⟨rfl, relL_len _ _⟩, refClosure_R hE.c6 hn hf, c1_ok, asA_ok, rdH_ok (blk_new h _) zero_len, if_pos ⟨rfl, zero_len, relL_len _ _⟩, putH_ok (blk_new h _) rfl, setBlk_last, zero_len]
  dsimp only
  have loop := Lim_any (F := jacquardref6_Acyclic_F1 (R E) Lim E.glob) (fun i => jacquardref6_Acyclic_s1 h.length 65 0 (i : Int) (relL n f) (h ++ [some ⟨true, 0, relL n (clK n f n)⟩])) (fun i => (clK n f n i).testBit i) (.ret, jacquardref6_Acyclic_x1_0 false (h ++ [some ⟨true, 0, relL n (clK n f n)⟩])) (.exit 0, jacquardref6_Acyclic_x1_1 (h ++ [some ⟨true, 0, relL n (clK n f n)⟩])) n (fun i hi => by
      rw [jacquardref6_Acyclic_r1, atK_ok (relL_zero _ _), asI_ok, if_pos (by simp; omega), refHas_R hE.c7 hw (by omega) (by omega) (blk_new h _), c1_ok, asB_ok, g_succ (by omega)]) (by simp) (by
      rw [jacquardref6_Acyclic_r1, atK_ok (relL_zero _ _), asI_ok, if_neg (by simp)]) (by simp)
  simp only [Int.ofNat_zero, Int.natCast_zero] at loop
  rw [loop, bind_ok]
  unfold acycR
  cases (List.range n).any fun i => (clK n f n i).testBit i with
  | true => simp only [if_true]; rw [jacquardref6_Acyclic_e1_0]; exact finish_gc (Kp.app _ (Nat.le_refl _)) (by simp [avOk, AV.cells, idOk])
  | false => simp only [Bool.false_eq_true, if_false]; rw [jacquardref6_Acyclic_e1_1]; exact finish_gc (Kp.app _ (Nat.le_refl _)) (by simp [avOk, AV.cells, idOk])

theorem Same_R (hE : jacquardlaw8_Same_In E) {n : Nat} (hn : n ≤ 64) {f g : Nat → Nat} (hfg : ∀ i, i < 64 → (if i < n then f i else 0) = g i) (h : AHeap) :
    R E 69 [.agg (relL n f), .agg (relL n g)] h = some ([.c (.bool true)], h) := by
  refine R_intro hE.fn ?_
  have loop : Lim (jacquardlaw8_Same_F1 (R E) Lim E.glob) (jacquardlaw8_Same_s1 ((0 : Nat) : Int) (relL n f) (relL n g) h) = some (.exit 0, jacquardlaw8_Same_x1_1 h) := by
    refine Lim_count (fun i => jacquardlaw8_Same_s1 (i : Int) (relL n f) (relL n g) h) 0 64 (by omega) (fun i _ hi => ?_) (Lim_exit ?_)
    · have q1 : 0 ≤ (i : Int) ∧ (i : Int) < ((64 : Nat) : Int) := by omega
      have hr := hfg i hi
      rw [jacquardlaw8_Same_r1, if_pos (by simp; omega), if_pos ⟨rfl, relL_len _ _⟩, Row_R hE.c41 hn, qh_ok, c1_ok, asI_ok, if_pos q1, Int.toNat_natCast, Nat.mul_one, atK_ok (relL_row hi), asI_ok, inR_nat, g_succ (by omega)]
      simp only [decide_eq_true_eq]
      rw [hr, bne_self_eq_false, if_neg (by simp)]
    · rw [jacquardlaw8_Same_r1, if_neg (by simp)]
  rw [jacquardlaw8_Same_eq, if_pos ⟨rfl, relL_len _ _⟩, N_R hE.c14, qh_ok, c1_ok, asI_ok, atK_ok (relL_zero _ _), asI_ok, bne_self_eq_false, if_neg (by simp), show (0 : Int) = ((0 : Nat) : Int) from rfl, loop, bind_ok, jacquardlaw8_Same_e1_1]

theorem Same_S (hE : jacquardlaw8_Same_In E) {n : Nat} (hn : n ≤ 64) {f g : Nat → Nat} (hf : Words f) (hg : Words g) (hfg : ∀ i j, ((f i).testBit j = true ∧ i < n) ↔ (g i).testBit j = true) (h : AHeap) :
    R E 69 [.agg (relL n f), .agg (relL n g)] h = some ([.c (.bool true)], h) := by
  refine Same_R hE hn (fun i _ => ?_) h
  by_cases hi : i < n
  · rw [if_pos hi]
    refine eq_of_bits (hf i) (hg i) fun j _ => ?_
    rw [Bool.eq_iff_iff, ← hfg i j]
    exact ⟨fun q => ⟨q, hi⟩, fun q => q.1⟩
  · rw [if_neg hi]
    refine eq_of_bits (by omega) (hg i) fun j _ => ?_
    rw [Bool.eq_iff_iff, ← hfg i j, Nat.zero_testBit]
    exact ⟨fun q => (by cases q), fun q => absurd q.2 hi⟩

/-- Up to row i, place j. -/
def upto (i j a b : Nat) : Bool := decide (a < i) || (decide (a = i) && decide (b < j))

theorem cut_R (hE : jacquardlaw8_cut_In E) {n m : Nat} (hn : n ≤ 64) (hm : m ≤ 64) {f : Nat → Nat} (hf : Words f) (h : AHeap) :
    R E 70 [.agg (relL n f), .c (.int .i64 (m : Int))] h = some ([.agg (relL (min n m) (ACC (min n m) fun a b => (f a).testBit b))], h) := by
  refine R_intro hE.fn ?_
  have hc : AV.cells (.agg (relL n f)) = relL n f := rfl
  have hmin : (if (m : Int) < (n : Int) then (m : Int) else (n : Int)) = ((min n m : Nat) : Int) := by split <;> omega
  have hl1 : (h ++ [some (Blk.mk true 0 (relL n f))]).length = h.length + 1 := by simp
  have hb1 : ∀ t, blk? ((h ++ [some (Blk.mk true 0 (relL n f))]) ++ t) h.length = some ⟨true, 0, relL n f⟩ := fun t => blk_old (blk_new h _) t
  have hb2 : ∀ c, blk? ((h ++ [some (Blk.mk true 0 (relL n f))]) ++ [some (Blk.mk true 0 c)]) (h ++ [some (Blk.mk true 0 (relL n f))]).length = some ⟨true, 0, c⟩ := fun c => blk_new _ _
  have hset : ∀ c c', setBlk ((h ++ [some (Blk.mk true 0 (relL n f))]) ++ [some (Blk.mk true 0 c)]) (h ++ [some (Blk.mk true 0 (relL n f))]).length (some ⟨true, 0, c'⟩) = (h ++ [some (Blk.mk true 0 (relL n f))]) ++ [some (Blk.mk true 0 c')] := fun c c' => setBlk_last _ _ _
  have hK : Kp h.length h (h ++ [some (Blk.mk true 0 (relL n f))]) := Kp.app _ (Nat.le_refl _)
  rw [jacquardlaw8_cut_eq, hc, rdH_ok (blk_new h _) rfl, atK_ok (relL_zero _ _), asI_ok, hmin]
  generalize hH : h ++ [some (Blk.mk true 0 (relL n f))] = H at *
  have hr : min n m ≤ 64 := by omega
  have hrn : min n m ≤ n := by omega
  generalize min n m = r at *
  rw [rdH_ok (hb2 _) rfl, if_pos ⟨rfl, zero_len, by rw [zero_rel, splice_zero, relL_len]⟩, putH_ok (hb2 _) rfl, hset, zero_rel, splice_zero, relL_len, relL_len]
  have rd2 : ∀ {α : Type} (u : Nat → Nat) (g : List Cell → Option α), rdH (H ++ [some ⟨true, 0, relL r u⟩]) H.length 65 g = g (relL r u) := fun u g => rdH_ok (hb2 _) (relL_len _ _)
  have e0 : relL r (fun _ => 0) = relL r (ACC r fun a b => upto 0 0 a b && (f a).testBit b) := (ACC_none hr fun a b _ _ => by simp [upto]).symm
  have outer : Lim (jacquardlaw8_cut_F2 (R E) Lim E.glob) (jacquardlaw8_cut_s2 h.length 65 0 H.length 65 0 ((0 : Nat) : Int) (relL 0 fun _ => 0) (H ++ [some ⟨true, 0, relL r (ACC r fun a b => upto 0 0 a b && (f a).testBit b)⟩])) = some (.exit 0, jacquardlaw8_cut_x2_1 H.length 65 0 (relL 0 fun _ => 0) (H ++ [some ⟨true, 0, relL r (ACC r fun a b => upto r 0 a b && (f a).testBit b)⟩])) := by
    refine Lim_count (fun i => jacquardlaw8_cut_s2 h.length 65 0 H.length 65 0 (i : Int) (relL 0 fun _ => 0) (H ++ [some ⟨true, 0, relL r (ACC r fun a b => upto i 0 a b && (f a).testBit b)⟩])) 0 r (by omega) (fun i _ hi => ?_) (Lim_exit ?_)
    · have inner : Lim (jacquardlaw8_cut_F1 (R E) Lim E.glob) (jacquardlaw8_cut_s1 h.length 65 0 H.length 65 0 i ((0 : Nat) : Int) (relL 0 fun _ => 0) (H ++ [some ⟨true, 0, relL r (ACC r fun a b => upto i 0 a b && (f a).testBit b)⟩])) = some (.exit 2, jacquardlaw8_cut_x1_3 h.length 65 0 H.length 65 0 i (relL 0 fun _ => 0) (H ++ [some ⟨true, 0, relL r (ACC r fun a b => upto i r a b && (f a).testBit b)⟩])) := by
        refine Lim_count (fun j => jacquardlaw8_cut_s1 h.length 65 0 H.length 65 0 i (j : Int) (relL 0 fun _ => 0) (H ++ [some ⟨true, 0, relL r (ACC r fun a b => upto i j a b && (f a).testBit b)⟩])) 0 r (by omega) (fun j _ hj => ?_) (Lim_exit ?_)
        · rw [jacquardlaw8_cut_r1, rd2, atK_ok (i := 0 + 0) (relL_zero _ _), asI_ok, if_pos (by simp; omega), refHas_R hE.c7 hf (by omega) (by omega) (hb1 _), c1_ok, asB_ok]
          cases hb : (f i).testBit j with
          | true =>
            have e : relL r (addR r (ACC r fun a b => upto i j a b && (f a).testBit b) (i : Int) (j : Int)) = relL r (ACC r fun a b => upto i (j + 1) a b && (f a).testBit b) := by
              refine ACC_add hr hi hj fun a b _ _ => ?_
              rw [Bool.eq_iff_iff]
              simp only [upto, Bool.and_eq_true, Bool.or_eq_true, decide_eq_true_eq]
              constructor
              · rintro ⟨q1 | ⟨q1, q2⟩, q3⟩
                · exact .inl ⟨.inl q1, q3⟩
                · by_cases q4 : b = j
                  · exact .inr ⟨q1, q4⟩
                  · exact .inl ⟨.inr ⟨q1, by omega⟩, q3⟩
              · rintro (⟨q1 | ⟨q1, q2⟩, q3⟩ | ⟨rfl, rfl⟩)
                · exact ⟨.inl q1, q3⟩
                · exact ⟨.inr ⟨q1, by omega⟩, q3⟩
                · exact ⟨.inr ⟨rfl, by omega⟩, hb⟩
            rw [if_pos rfl, refAdd_R hE.c13 hr (w_ACC _ _) (by rw [inR_nat]; simpa using hi) (by rw [inR_nat]; simpa using hj) (hb2 _), c0_ok, hset, e, g_succ (by omega)]
          | false =>
            have e : relL r (ACC r fun a b => upto i j a b && (f a).testBit b) = relL r (ACC r fun a b => upto i (j + 1) a b && (f a).testBit b) := by
              refine ACC_eq hr fun a b _ _ => ?_
              rw [Bool.eq_iff_iff]
              simp only [upto, Bool.and_eq_true, Bool.or_eq_true, decide_eq_true_eq]
              constructor
              · rintro ⟨q1 | ⟨q1, q2⟩, q3⟩
                · exact ⟨.inl q1, q3⟩
                · exact ⟨.inr ⟨q1, by omega⟩, q3⟩
              · rintro ⟨q1 | ⟨q1, q2⟩, q3⟩
                · exact ⟨.inl q1, q3⟩
                · refine ⟨.inr ⟨q1, ?_⟩, q3⟩
                  by_cases q4 : b = j
                  · rw [q1, q4, hb] at q3; cases q3
                  · omega
            rw [if_neg (by simp), e, g_succ (by omega)]
        · rw [jacquardlaw8_cut_r1, rd2, atK_ok (i := 0 + 0) (relL_zero _ _), asI_ok, if_neg (by simp)]
      have e : relL r (ACC r fun a b => upto i r a b && (f a).testBit b) = relL r (ACC r fun a b => upto (i + 1) 0 a b && (f a).testBit b) := by
        refine ACC_eq hr fun a b ha hb => ?_
        congr 1
        rw [Bool.eq_iff_iff]
        simp only [upto, Bool.and_eq_true, Bool.or_eq_true, decide_eq_true_eq]
        omega
      rw [jacquardlaw8_cut_r2, rd2, atK_ok (i := 0 + 0) (relL_zero _ _), asI_ok, if_pos (by simp; omega), show (0 : Int) = ((0 : Nat) : Int) from rfl, inner, bind_ok, jacquardlaw8_cut_e1_3, g_succ (by omega), e]
    · rw [jacquardlaw8_cut_r2, rd2, atK_ok (i := 0 + 0) (relL_zero _ _), asI_ok, if_neg (by simp)]
  have e1 : relL r (ACC r fun a b => upto r 0 a b && (f a).testBit b) = relL r (ACC r fun a b => (f a).testBit b) := ACC_eq hr fun a b ha _ => by
    rw [show upto r 0 a b = true by simp [upto, ha], Bool.true_and]
  rw [e1] at outer
  rw [show (0 : Int) = ((0 : Nat) : Int) from rfl, e0, outer, bind_ok, jacquardlaw8_cut_e2_1, rd2]
  simp only [relL_len, and_self, if_true]
  exact finish_gc (hK.trans (Kp.app _ (by omega))) (by simp [avOk_rel])

end Jq

/- RelTells: what the package tells of two relations is what is told by hand, place by place. -/
namespace Jq
open Go

theorem b_upF (T : Nat → Nat) (k i j : Nat) : (upF T k i).testBit j = (decide (i < k) && (T i).testBit j) := by
  unfold upF
  by_cases h : i < k <;> simp [h]

theorem upF_rows (T : Nat → Nat) {r : Nat} (hr : r ≤ 64) {P : Nat → Nat → Bool} (h : ∀ i j, (T i).testBit j = (decide (i < r) && decide (j < r) && P i j)) (i j : Nat) :
    ((mkN fun j => decide (i < r) && decide (j < r) && P i j).testBit j = true ∧ i < r) ↔ (upF T 64 i).testBit j = true := by
  rw [b_upF, testBit_mkN, h]
  simp only [Bool.and_eq_true, decide_eq_true_eq]
  constructor
  · rintro ⟨⟨_, h1⟩, h2⟩; exact ⟨by omega, h1⟩
  · rintro ⟨_, h1⟩; exact ⟨⟨by omega, h1⟩, h1.1.1⟩

/-- Behind one another, so far. -/
def TT (F G : Nat → Nat) (i j : Nat) : Nat → Nat := fun a => mkN fun b => (List.range 64).any fun k => upto i j a k && (F a).testBit k && (G k).testBit b

theorem w_TT (F G : Nat → Nat) (i j : Nat) : Words (TT F G i j) := fun _ => mkN_lt _

theorem b_TT {F G : Nat → Nat} (hG : Words G) (i j a b : Nat) : (TT F G i j a).testBit b = true ↔ ∃ k, k < 64 ∧ upto i j a k = true ∧ (F a).testBit k = true ∧ (G k).testBit b = true := by
  unfold TT
  rw [testBit_mkN]
  simp only [Bool.and_eq_true, decide_eq_true_eq, List.any_eq_true, List.mem_range]
  constructor
  · rintro ⟨_, k, h1, ⟨h2, h3⟩, h4⟩; exact ⟨k, h1, h2, h3, h4⟩
  · rintro ⟨k, h1, h2, h3, h4⟩
    refine ⟨?_, k, h1, ⟨h2, h3⟩, h4⟩
    rcases Nat.lt_or_ge b 64 with hb | hb
    · exact hb
    · rw [Nat.testBit_lt_two_pow (Nat.lt_of_lt_of_le (hG k) (Nat.pow_le_pow_right (by omega) hb))] at h4; cases h4

theorem upto_iff {i j a b : Nat} : upto i j a b = true ↔ (a < i ∨ (a = i ∧ b < j)) := by
  simp only [upto, Bool.or_eq_true, Bool.and_eq_true, decide_eq_true_eq]

theorem TT_yes {r : Nat} {F G : Nat → Nat} (hG : Words G) {i j : Nat} (hj : j < 64) (hb : (F i).testBit j = true) : relL r (updF (TT F G i j) i (TT F G i j i ||| G j)) = relL r (TT F G i (j + 1)) :=
  rel_eq (words_upd (w_TT _ _ _ _) (or_lt (w_TT _ _ _ _ _) (hG j))) (w_TT _ _ _ _) fun a b => by
    unfold updF
    by_cases ha : a = i
    · subst ha
      rw [if_pos rfl, Nat.testBit_or, Bool.or_eq_true, b_TT hG, b_TT hG]
      simp only [upto_iff, true_and]
      constructor
      · rintro (⟨k, h1, h2, h3⟩ | h)
        · exact ⟨k, h1, by omega, h3⟩
        · exact ⟨j, hj, by omega, hb, h⟩
      · rintro ⟨k, h1, h2, h3⟩
        by_cases hk : k = j
        · subst hk; exact .inr h3.2
        · exact .inl ⟨k, h1, by omega, h3⟩
    · rw [if_neg ha, b_TT hG, b_TT hG]
      simp only [upto_iff, true_and]
      constructor <;> (rintro ⟨k, h1, h2, h3⟩; exact ⟨k, h1, by omega, h3⟩)

theorem TT_no {r : Nat} {F G : Nat → Nat} (hG : Words G) {i j : Nat} (hb : (F i).testBit j = false) : relL r (TT F G i j) = relL r (TT F G i (j + 1)) :=
  rel_eq (w_TT _ _ _ _) (w_TT _ _ _ _) fun a b => by
    rw [b_TT hG, b_TT hG]
    simp only [upto_iff, true_and]
    constructor
    · rintro ⟨k, h1, h2, h3⟩; exact ⟨k, h1, by omega, h3⟩
    · rintro ⟨k, h1, h2, h3⟩
      refine ⟨k, h1, ?_, h3⟩
      by_cases hk : a = i ∧ k = j
      · rw [hk.1, hk.2, hb] at h3; cases h3.1
      · omega

theorem TT_row {r : Nat} {F G : Nat → Nat} (hG : Words G) (i : Nat) : relL r (TT F G i 64) = relL r (TT F G (i + 1) 0) :=
  rel_eq (w_TT _ _ _ _) (w_TT _ _ _ _) fun a b => by
    rw [b_TT hG, b_TT hG]
    simp only [upto_iff, true_and]
    constructor <;> (rintro ⟨k, h1, h2, h3⟩; exact ⟨k, h1, by omega, h3⟩)

theorem TT_zero {r : Nat} {F G : Nat → Nat} (hG : Words G) : relL r (fun _ => 0) = relL r (TT F G 0 0) :=
  rel_eq words_zero (w_TT _ _ _ _) fun a b => by
    rw [b_TT hG, Nat.zero_testBit]
    simp only [upto_iff, true_and]
    constructor
    · intro h; cases h
    · rintro ⟨k, h1, h2, h3⟩; omega

/-- Places so far, turned or not. -/
def acA (n : Nat) (t : Bool) (P : Nat → Nat → Bool) (i j : Nat) : List Cell := relL n (ACC n fun a b => if t then upto i j b a && P b a else upto i j a b && P a b)

theorem acA_len (n : Nat) (t : Bool) (P : Nat → Nat → Bool) (i j : Nat) : (acA n t P i j).length = 65 := relL_len _ _

theorem acA_no {n : Nat} (hn : n ≤ 64) {t : Bool} {P : Nat → Nat → Bool} {i j : Nat} (hb : ¬ (i < n ∧ j < n ∧ P i j = true)) : acA n t P i j = acA n t P i (j + 1) := by
  refine ACC_eq hn fun a b ha hb' => ?_
  cases t
  · simp only [Bool.false_eq_true, if_false]
    rw [Bool.eq_iff_iff]
    simp only [Bool.and_eq_true, upto_iff]
    constructor
    · rintro ⟨h1, h2⟩; exact ⟨by omega, h2⟩
    · rintro ⟨h1, h2⟩
      refine ⟨?_, h2⟩
      by_cases h3 : a = i ∧ b = j
      · rw [h3.1, h3.2] at h2; exact absurd ⟨by omega, by omega, h2⟩ hb
      · omega
  · simp only [if_true]
    rw [Bool.eq_iff_iff]
    simp only [Bool.and_eq_true, upto_iff]
    constructor
    · rintro ⟨h1, h2⟩; exact ⟨by omega, h2⟩
    · rintro ⟨h1, h2⟩
      refine ⟨?_, h2⟩
      by_cases h3 : b = i ∧ a = j
      · rw [h3.1, h3.2] at h2; exact absurd ⟨by omega, by omega, h2⟩ hb
      · omega

theorem acA_row {n : Nat} (hn : n ≤ 64) {t : Bool} {P : Nat → Nat → Bool} (i : Nat) : acA n t P i 64 = acA n t P (i + 1) 0 := by
  refine ACC_eq hn fun a b ha hb' => ?_
  cases t
  · simp only [Bool.false_eq_true, if_false]
    congr 1
    rw [Bool.eq_iff_iff, upto_iff, upto_iff]; omega
  · simp only [if_true]
    congr 1
    rw [Bool.eq_iff_iff, upto_iff, upto_iff]; omega

theorem acA_zero {n : Nat} (hn : n ≤ 64) {t : Bool} {P : Nat → Nat → Bool} : relL n (fun _ => 0) = acA n t P 0 0 :=
  (ACC_none hn fun a b _ _ => by cases t <;> simp [upto]).symm

/-- Over the lesser: joined, left, met, behind one another. -/
def UN (r : Nat) (f g : Nat → Nat) : Nat → Nat := fun i => mkN fun j => decide (i < r) && decide (j < r) && ((f i).testBit j || (g i).testBit j)
def DI (r : Nat) (f g : Nat → Nat) : Nat → Nat := fun i => mkN fun j => decide (i < r) && decide (j < r) && ((f i).testBit j && !(g i).testBit j)
def ME (r : Nat) (f g : Nat → Nat) : Nat → Nat := fun i => mkN fun j => decide (i < r) && decide (j < r) && ((f i).testBit j && (g i).testBit j)
def TN (r : Nat) (f g : Nat → Nat) : Nat → Nat := fun i => mkN fun j => decide (i < r) && decide (j < r) && (List.range r).any fun k => (f i).testBit k && (g k).testBit j

variable {E : Env}

theorem acA_yes (hE : jacquardref6_Rel_Add_In E) {n : Nat} (hn : n ≤ 64) {t : Bool} {P : Nat → Nat → Bool} {i j : Nat} (hi : i < n) (hj : j < n) (hb : P i j = true) {k : Nat} {h : AHeap} (hk : blk? h k = some ⟨true, 0, acA n t P i j⟩) :
    R E 13 [.c (.ptr k 65 0), .c (.int .i64 ((if t then j else i : Nat) : Int)), .c (.int .i64 ((if t then i else j : Nat) : Int))] h = some ([], setBlk h k (some ⟨true, 0, acA n t P i (j + 1)⟩)) := by
  have hi' : inR n (i : Int) = true := by rw [inR_nat]; simpa using hi
  have hj' : inR n (j : Int) = true := by rw [inR_nat]; simpa using hj
  rw [refAdd_R hE hn (w_ACC _ _) (by cases t <;> simp [hi', hj']) (by cases t <;> simp [hi', hj']) hk]
  congr 4
  congr 1
  cases t
  · simp only [Bool.false_eq_true, if_false]
    refine ACC_add hn hi hj fun a b _ _ => ?_
    simp only [Bool.false_eq_true, if_false]
    rw [Bool.eq_iff_iff]
    simp only [Bool.and_eq_true, Bool.or_eq_true, decide_eq_true_eq, upto_iff]
    constructor
    · rintro ⟨h1, h2⟩
      by_cases h3 : a = i ∧ b = j
      · exact .inr h3
      · exact .inl ⟨by omega, h2⟩
    · rintro (⟨h1, h2⟩ | ⟨rfl, rfl⟩)
      · exact ⟨by omega, h2⟩
      · exact ⟨by omega, hb⟩
  · simp only [if_true]
    refine ACC_add hn hj hi fun a b _ _ => ?_
    simp only [if_true]
    rw [Bool.eq_iff_iff]
    simp only [Bool.and_eq_true, Bool.or_eq_true, decide_eq_true_eq, upto_iff]
    constructor
    · rintro ⟨h1, h2⟩
      by_cases h3 : b = i ∧ a = j
      · exact .inr ⟨h3.2, h3.1⟩
      · exact .inl ⟨by omega, h2⟩
    · rintro (⟨h1, h2⟩ | ⟨rfl, rfl⟩)
      · exact ⟨by omega, h2⟩
      · exact ⟨by omega, hb⟩

/-- The heap of the places so far: two relations behind the others. -/
def HP (H : AHeap) (cu cv : List Cell) : AHeap := (H ++ [some ⟨true, 0, cu⟩]) ++ [some ⟨true, 0, cv⟩]

theorem HP_u (H : AHeap) (cu cv : List Cell) : blk? (HP H cu cv) H.length = some ⟨true, 0, cu⟩ := blk_old (blk_new _ _) _
theorem HP_v (H : AHeap) (cu cv : List Cell) : blk? (HP H cu cv) (H.length + 1) = some ⟨true, 0, cv⟩ := by
  have := blk_new (H ++ [some ⟨true, 0, cu⟩]) ⟨true, 0, cv⟩
  rw [List.length_append, List.length_singleton] at this; exact this
theorem HP_old {H : AHeap} {k : Nat} {b : Blk} (hk : blk? H k = some b) (cu cv : List Cell) : blk? (HP H cu cv) k = some b := blk_old (blk_old hk _) _
theorem HP_setu (H : AHeap) (cu cv c : List Cell) : setBlk (HP H cu cv) H.length (some ⟨true, 0, c⟩) = HP H c cv := by
  unfold HP; rw [setBlk_app (by simp), setBlk_last]
theorem HP_setv (H : AHeap) (cu cv c : List Cell) : setBlk (HP H cu cv) (H.length + 1) (some ⟨true, 0, c⟩) = HP H cu c := by
  have := setBlk_last (H ++ [some (Blk.mk true 0 cu)]) (some ⟨true, 0, cv⟩) (some ⟨true, 0, c⟩)
  rw [List.length_append, List.length_singleton] at this; exact this
theorem HP_kp (H : AHeap) (cu cv : List Cell) : Kp H.length H (HP H cu cv) := by
  unfold HP; rw [List.append_assoc]; exact Kp.app _ (Nat.le_refl _)

theorem rd_rel {α : Type} {h : AHeap} {k n : Nat} {f : Nat → Nat} (hk : blk? h k = some ⟨true, 0, relL n f⟩) {g : List Cell → Option α} : rdH h k 65 g = g (relL n f) := rdH_ok hk (relL_len _ _)

section
variable {n r : Nat} {f FX GY : Nat → Nat} {s k12 k15 : Nat} {H : AHeap} {s0 s1 : List Cell} {m : Nat}

/-- One place. -/
theorem tells_r1 (hE : jacquardlaw8_RelTells_In E) (hn : n ≤ 64) (hf : Words f) (ff : Fit n f) (hF : Words FX) (fF : Fit r FX) (hr : r ≤ 64) (hG : Words GY) (hs : s < 2 ^ 64)
    (h12 : blk? H k12 = some ⟨true, 0, relL n f⟩) (h15 : blk? H k15 = some ⟨true, 0, relL r FX⟩) {s4 s5 s6 : List Cell} {i j : Nat} (hi : i < 64) (hj : j < 64) :
    jacquardlaw8_RelTells_F1 (R E) Lim E.glob (jacquardlaw8_RelTells_s1 s k12 65 0 k15 65 0 H.length 65 0 (H.length + 1) 65 0 i (j : Nat) s0 s1 (relL r GY) s4 s5 s6 (relL r (TT FX GY i j)) (HP H (acA n true (fun a b => (f a).testBit b) i j) (acA n false (fun a b => (f a).testBit b && (s.testBit a && s.testBit b)) i j))) =
      some (Ex.normal, jacquardlaw8_RelTells_s1 s k12 65 0 k15 65 0 H.length 65 0 (H.length + 1) 65 0 i ((j + 1 : Nat) : Int) s0 s1 (relL r GY) s4 s5 s6 (relL r (TT FX GY i (j + 1))) (HP H (acA n true (fun a b => (f a).testBit b) i (j + 1)) (acA n false (fun a b => (f a).testBit b && (s.testBit a && s.testBit b)) i (j + 1)))) := by
  have q1 : 0 ≤ (i : Int) ∧ (i : Int) < ((64 : Nat) : Int) := by omega
  have q2 : 0 ≤ (j : Int) ∧ (j : Int) < ((64 : Nat) : Int) := by omega
  have ef : ∀ {N : Nat} {F : Nat → Nat}, Fit N F → (decide ((i : Int) < (N : Int)) && decide ((j : Int) < (N : Int)) && (F i).testBit j) = (F i).testBit j := by
    intro N F fF
    cases hb : (F i).testBit j with
    | false => simp
    | true => have := fF _ _ hb; simp; omega
  have o12 := fun cu cv => HP_old h12 cu cv
  have o15 := fun cu cv => HP_old h15 cu cv
  have e12 := fun cu cv => refHas_R hE.c7 hf hi (show j ≤ 64 by omega) (o12 cu cv)
  have e15 := fun cu cv => refHas_R hE.c7 hF hi (show j ≤ 64 by omega) (o15 cu cv)
  have rest : ∀ (l7 : List Cell), (rdH (HP H (acA n true (fun a b => (f a).testBit b) i j) (acA n false (fun a b => (f a).testBit b && (s.testBit a && s.testBit b)) i j)) k12 65 fun l => atK l (0 + 0) fun q => asI .i64 (.c q) fun n_1 => scK (decide ((i : Int) < n_1)) true (rdH (HP H (acA n true (fun a b => (f a).testBit b) i j) (acA n false (fun a b => (f a).testBit b && (s.testBit a && s.testBit b)) i j)) k12 65 fun l => atK l (0 + 0) fun q => asI .i64 (.c q) fun n_2 => some (decide ((j : Int) < n_2), HP H (acA n true (fun a b => (f a).testBit b) i j) (acA n false (fun a b => (f a).testBit b && (s.testBit a && s.testBit b)) i j))) false (HP H (acA n true (fun a b => (f a).testBit b) i j) (acA n false (fun a b => (f a).testBit b && (s.testBit a && s.testBit b)) i j)) fun b h1 => scK b true (c1 (R E 7 [.c (.ptr k12 65 0), .c (.int .i64 (i : Int)), .c (.int .i64 (j : Int))] h1) fun y h2 => asB y fun b => some (b, h2)) false h1 fun b h3 =>
      if b = true then c0 (R E 13 [.c (.ptr H.length 65 0), .c (.int .i64 (j : Int)), .c (.int .i64 (i : Int))] h3) fun h4 => if (i : Int) < 0 then none else scK (E.glob.band .u64 (E.glob.shr .u64 s i) 1 == 1) true (if (j : Int) < 0 then none else some ((E.glob.band .u64 (E.glob.shr .u64 s j) 1 == 1), h4)) false h4 fun b h5 =>
        if b = true then c0 (R E 13 [.c (.ptr (H.length + 1) 65 0), .c (.int .i64 (i : Int)), .c (.int .i64 (j : Int))] h5) fun h6 => some (Ex.normal, jacquardlaw8_RelTells_s1 s k12 65 0 k15 65 0 H.length 65 0 (H.length + 1) 65 0 i (E.glob.wrap .i64 ((j : Int) + 1)) s0 s1 (relL r GY) s4 s5 s6 l7 h6)
        else some (Ex.normal, jacquardlaw8_RelTells_s1 s k12 65 0 k15 65 0 H.length 65 0 (H.length + 1) 65 0 i (E.glob.wrap .i64 ((j : Int) + 1)) s0 s1 (relL r GY) s4 s5 s6 l7 h5)
      else some (Ex.normal, jacquardlaw8_RelTells_s1 s k12 65 0 k15 65 0 H.length 65 0 (H.length + 1) 65 0 i (E.glob.wrap .i64 ((j : Int) + 1)) s0 s1 (relL r GY) s4 s5 s6 l7 h3)) =
      some (Ex.normal, jacquardlaw8_RelTells_s1 s k12 65 0 k15 65 0 H.length 65 0 (H.length + 1) 65 0 i ((j + 1 : Nat) : Int) s0 s1 (relL r GY) s4 s5 s6 l7 (HP H (acA n true (fun a b => (f a).testBit b) i (j + 1)) (acA n false (fun a b => (f a).testBit b && (s.testBit a && s.testBit b)) i (j + 1)))) := by
    intro l7
    rw [rd_rel (o12 _ _), atK_ok (i := 0 + 0) (relL_zero _ _), asI_ok, rd_rel (o12 _ _), atK_ok (i := 0 + 0) (relL_zero _ _), asI_ok, scK_and, e12, c1_ok, asB_ok, scK_and, ef ff, g_succ (by omega)]
    cases hb : (f i).testBit j with
    | false =>
      rw [if_neg (by simp), acA_no (t := true) (j := j) hn (by rintro ⟨_, _, h⟩; rw [hb] at h; cases h), acA_no (t := false) (j := j) hn (by rintro ⟨_, _, h⟩; rw [hb] at h; cases h)]
    | true =>
      obtain ⟨hin, hjn⟩ := ff _ _ hb
      have a1 := acA_yes (t := true) (P := fun a b => (f a).testBit b) hE.c13 hn hin hjn hb (HP_u H _ (acA n false (fun a b => (f a).testBit b && (s.testBit a && s.testBit b)) i j))
      simp only [if_true] at a1
      rw [if_pos rfl, a1, c0_ok, HP_setu, if_neg (by omega), if_neg (by omega), g_bit1 hs (by omega), g_bit1 hs (by omega), scK_and]
      cases hsb : (s.testBit i && s.testBit j) with
      | false => rw [if_neg (by simp), acA_no (t := false) (j := j) hn (by rintro ⟨_, _, h⟩; rw [hsb] at h; simp at h)]
      | true =>
        have a2 := acA_yes (t := false) (P := fun a b => (f a).testBit b && (s.testBit a && s.testBit b)) hE.c13 hn hin hjn (by rw [hb, hsb]; rfl) (HP_v H (acA n true (fun a b => (f a).testBit b) i (j + 1)) _)
        simp only [Bool.false_eq_true, if_false] at a2
        rw [if_pos rfl, a2, c0_ok, HP_setv]
  rw [jacquardlaw8_RelTells_r1, if_pos (by simp; omega), rd_rel (o15 _ _), atK_ok (i := 0 + 0) (relL_zero _ _), asI_ok, rd_rel (o15 _ _), atK_ok (i := 0 + 0) (relL_zero _ _), asI_ok, scK_and, e15, c1_ok, asB_ok, scK_and, ef fF]
  cases hb : (FX i).testBit j with
  | false =>
    rw [if_neg (by simp), rest, TT_no hG hb]
  | true =>
    rw [if_pos rfl, if_pos q1, Int.toNat_natCast, Int.toNat_natCast, Nat.mul_one, Nat.mul_one, atK_ok (relL_row hi), asI_ok, if_pos q2, atK_ok (relL_row hj), asI_ok, if_pos q1, if_pos (by rw [relL_len]; omega), g_bor (w_TT _ _ _ _ _) (hG _), relL_set, TT_yes hG hj hb, rest]

/-- The heap at a place. -/
abbrev tHP (H : AHeap) (n : Nat) (f : Nat → Nat) (s i j : Nat) : AHeap := HP H (acA n true (fun a b => (f a).testBit b) i j) (acA n false (fun a b => (f a).testBit b && (s.testBit a && s.testBit b)) i j)

theorem tells_r2 (hE : jacquardlaw8_RelTells_In E) (hn : n ≤ 64) (hf : Words f) (ff : Fit n f) (hF : Words FX) (fF : Fit r FX) (hr : r ≤ 64) (hG : Words GY) (hs : s < 2 ^ 64)
    (h12 : blk? H k12 = some ⟨true, 0, relL n f⟩) (h15 : blk? H k15 = some ⟨true, 0, relL r FX⟩) {i : Nat} (hi : i < 64) :
    jacquardlaw8_RelTells_F2 (R E) Lim E.glob (jacquardlaw8_RelTells_s2 s k12 65 0 k15 65 0 H.length 65 0 (H.length + 1) 65 0 (i : Nat) s0 s1 (relL r GY) (relL r (upF (fun a => FX a ||| GY a) i)) (relL r (upF (fun a => ndiff (FX a) (GY a)) i)) (relL r (upF (fun a => FX a &&& GY a) i)) (relL r (TT FX GY i 0)) (tHP H n f s i 0)) =
      some (.normal, jacquardlaw8_RelTells_s2 s k12 65 0 k15 65 0 H.length 65 0 (H.length + 1) 65 0 ((i + 1 : Nat) : Int) s0 s1 (relL r GY) (relL r (upF (fun a => FX a ||| GY a) (i + 1))) (relL r (upF (fun a => ndiff (FX a) (GY a)) (i + 1))) (relL r (upF (fun a => FX a &&& GY a) (i + 1))) (relL r (TT FX GY (i + 1) 0)) (tHP H n f s (i + 1) 0)) := by
  have q1 : 0 ≤ (i : Int) ∧ (i : Int) < ((64 : Nat) : Int) := by omega
  have o15 := fun cu cv => HP_old h15 cu cv
  have e4 := upF_succ (fun a => FX a ||| GY a) i
  have e5 := upF_succ (fun a => ndiff (FX a) (GY a)) i
  have e6 := upF_succ (fun a => FX a &&& GY a) i
  have ln : ∀ F : Nat → Nat, 1 + i < (relL r F).length := fun F => by rw [relL_len]; omega
  have rg : ∀ F : Nat → Nat, (relL r F)[0 + 1 + i]? = some (.int .u64 (F i)) := fun F => by rw [show 0 + 1 + i = 1 + i by omega]; exact relL_row hi
  have inner : ∀ s4 s5 s6, Lim (jacquardlaw8_RelTells_F1 (R E) Lim E.glob) (jacquardlaw8_RelTells_s1 s k12 65 0 k15 65 0 H.length 65 0 (H.length + 1) 65 0 i ((0 : Nat) : Int) s0 s1 (relL r GY) s4 s5 s6 (relL r (TT FX GY i 0)) (tHP H n f s i 0)) = some (.exit 2, jacquardlaw8_RelTells_x1_3 s k12 65 0 k15 65 0 H.length 65 0 (H.length + 1) 65 0 i s0 s1 (relL r GY) s4 s5 s6 (relL r (TT FX GY i 64)) (tHP H n f s i 64)) := by
    intro s4 s5 s6
    refine Lim_count (fun j => jacquardlaw8_RelTells_s1 s k12 65 0 k15 65 0 H.length 65 0 (H.length + 1) 65 0 i (j : Nat) s0 s1 (relL r GY) s4 s5 s6 (relL r (TT FX GY i j)) (tHP H n f s i j)) 0 64 (by omega) (fun j _ hj => tells_r1 hE hn hf ff hF fF hr hG hs h12 h15 hi hj) (Lim_exit ?_)
    rw [jacquardlaw8_RelTells_r1, if_neg (by simp)]
  have eT : tHP H n f s i 64 = tHP H n f s (i + 1) 0 := by unfold tHP; rw [acA_row hn, acA_row hn]
  rw [jacquardlaw8_RelTells_r2, if_pos (by simp; omega)]
  simp only [if_pos q1, Int.toNat_natCast, Nat.mul_one, rd_rel (o15 _ _), atK_ok (rg _), atK_ok (relL_row hi), asI_ok, if_pos (ln _), g_bor (hF i) (hG i), g_bandNot (hF i) (hG i), g_band (hF i) (hG i), relL_set, e4, e5, e6]
  rw [show (0 : Int) = ((0 : Nat) : Int) from rfl, inner, bind_ok, jacquardlaw8_RelTells_e1_3, g_succ (by omega), TT_row hG, eT]

theorem tells_loop (hE : jacquardlaw8_RelTells_In E) (hn : n ≤ 64) (hf : Words f) (ff : Fit n f) (hF : Words FX) (fF : Fit r FX) (hr : r ≤ 64) (hG : Words GY) (hs : s < 2 ^ 64)
    (h12 : blk? H k12 = some ⟨true, 0, relL n f⟩) (h15 : blk? H k15 = some ⟨true, 0, relL r FX⟩) :
    Lim (jacquardlaw8_RelTells_F2 (R E) Lim E.glob) (jacquardlaw8_RelTells_s2 s k12 65 0 k15 65 0 H.length 65 0 (H.length + 1) 65 0 0 s0 s1 (relL r GY) (relL r fun _ => 0) (relL r fun _ => 0) (relL r fun _ => 0) (relL r fun _ => 0) (HP H (relL n fun _ => 0) (relL n fun _ => 0))) =
      some (.exit 0, jacquardlaw8_RelTells_x2_1 s k12 65 0 H.length 65 0 (H.length + 1) 65 0 s0 s1 (relL r (upF (fun a => FX a ||| GY a) 64)) (relL r (upF (fun a => ndiff (FX a) (GY a)) 64)) (relL r (upF (fun a => FX a &&& GY a) 64)) (relL r (TT FX GY 64 0)) (tHP H n f s 64 0)) := by
  have z4 := upF_zero (fun a => FX a ||| GY a)
  have z5 := upF_zero (fun a => ndiff (FX a) (GY a))
  have z6 := upF_zero (fun a => FX a &&& GY a)
  have zt : HP H (relL n fun _ => 0) (relL n fun _ => 0) = tHP H n f s 0 0 := by
    unfold tHP; rw [← acA_zero hn, ← acA_zero hn]
  have loop := Lim_count (F := jacquardlaw8_RelTells_F2 (R E) Lim E.glob) (fun i => jacquardlaw8_RelTells_s2 s k12 65 0 k15 65 0 H.length 65 0 (H.length + 1) 65 0 (i : Nat) s0 s1 (relL r GY) (relL r (upF (fun a => FX a ||| GY a) i)) (relL r (upF (fun a => ndiff (FX a) (GY a)) i)) (relL r (upF (fun a => FX a &&& GY a) i)) (relL r (TT FX GY i 0)) (tHP H n f s i 0)) 0 64 (by omega) (fun i _ hi => tells_r2 hE hn hf ff hF fF hr hG hs h12 h15 hi) (p := (.exit 0, jacquardlaw8_RelTells_x2_1 s k12 65 0 H.length 65 0 (H.length + 1) 65 0 s0 s1 (relL r (upF (fun a => FX a ||| GY a) 64)) (relL r (upF (fun a => ndiff (FX a) (GY a)) 64)) (relL r (upF (fun a => FX a &&& GY a) 64)) (relL r (TT FX GY 64 0)) (tHP H n f s 64 0))) (Lim_exit (by
      rw [jacquardlaw8_RelTells_r2, if_neg (by simp)]))
  rw [z4, z5, z6, ← TT_zero hG, ← zt] at loop
  exact loop

end

theorem RelTells_R (hE : jacquardlaw8_RelTells_In E) (ht : TabOk E) (a0 a2 : Int) {x1 x3 : Cell} {l1 l3 : List (Int × Int)} {s : Nat} (hs : s < 2 ^ 64) {h : AHeap} (hx1 : SlAt h x1 2 (pairC l1) l1.length) (hl1 : Low h.length x1)
    (hx3 : SlAt h x3 2 (pairC l3) l3.length) (hl3 : Low h.length x3) :
    R E 244 [.c (.int .i64 a0), .c x1, .c (.int .i64 a2), .c x3, .c (.int .u64 (s : Int))] h = some ([.c (.bool true)], h) := by
  refine R_intro hE.fn ?_
  rw [jacquardlaw8_RelTells_eq]
  dsimp only
  generalize (if 66 < (if (-2) > a0 then (-2) else a0) then 66 else (if (-2) > a0 then (-2) else a0) : Int) = a
  generalize (if 66 < (if (-2) > a2 then (-2) else a2) then 66 else (if (-2) > a2 then (-2) else a2) : Int) = b
  rw [Of_R hE.c1 a hx1 hl1, c2_ok, asA_ok, asA_ok]
  have hn := clamp_le a
  generalize clamp a = n at hn
  have hf := words_of n (l1.take 200)
  have ff := of_fit hn (l1.take 200)
  generalize ofR n (l1.take 200) = f at *
  simp only [relL_len, zero_len, and_self, if_true]
  rw [rdH_ok (blk_new h _) zero_len, if_pos ⟨by trivial, zero_len, by trivial⟩, putH_ok (blk_new h _) rfl, setBlk_last]
  dsimp only
  have hk1 : Kp h.length h (h ++ [some ⟨true, 0, relL n f⟩]) := Kp.app _ (Nat.le_refl _)
  have hb1 : blk? (h ++ [some ⟨true, 0, relL n f⟩]) h.length = some ⟨true, 0, relL n f⟩ := blk_new _ _
  have hlt1 : h.length < (h ++ [some (Blk.mk true 0 (relL n f))]).length := by simp
  generalize h ++ [some (Blk.mk true 0 (relL n f))] = H1 at *
  rw [Of_R hE.c1 b (hx3.keep hl3 hk1) (Low_mono hk1.1 hl3), c2_ok, asA_ok, asA_ok]
  have hm := clamp_le b
  generalize clamp b = m at hm
  have hg := words_of m (l3.take 200)
  have fg := of_fit hm (l3.take 200)
  generalize ofR m (l3.take 200) = g at *
  simp only [relL_len, and_self, if_true]
  have hr : min n m ≤ 64 := by omega
  have sx := Same_S hE.c69 hn hf hf (fun i j => ⟨fun q => q.1, fun q => ⟨q, (ff _ _ q).1⟩⟩)
  have sy := Same_S hE.c69 hm hg hg (fun i j => ⟨fun q => q.1, fun q => ⟨q, (fg _ _ q).1⟩⟩)
  rw [rd_rel hb1, if_pos ⟨by trivial, relL_len _ _⟩, sx, c1_ok, asB_ok, Bool.not_true, scK_ok, sy, c1_ok, asB_ok, Bool.not_true, bind_ok]
  dsimp only
  rw [if_neg (by simp), rd_rel hb1, if_pos ⟨by trivial, relL_len _ _⟩, atK_ok (relL_zero _ _), asI_ok, cut_R hE.c70 hn hm hf, qh_ok, c1_ok, asA_ok, rd_rel hb1, atK_ok (relL_zero _ _), asI_ok, cut_R hE.c70 hm hn hg, qh_ok, c1_ok, asA_ok, Nat.min_comm m n]
  have hF := w_ACC (min n m) fun a b => (f a).testBit b
  have fF := ACC_fit hr fun a b => (f a).testBit b
  have hG := w_ACC (min n m) fun a b => (g a).testBit b
  have bF := b_ACC hr fun a b => (f a).testBit b
  have bG := b_ACC hr fun a b => (g a).testBit b
  generalize (ACC (min n m) fun a b => (f a).testBit b) = FX at *
  generalize (ACC (min n m) fun a b => (g a).testBit b) = GY at *
  simp only [relL_len, zero_len, and_self, if_true]
  have hk2 : Kp H1.length H1 (H1 ++ [some ⟨true, 0, relL (min n m) FX⟩]) := Kp.app _ (Nat.le_refl _)
  have hb2 : blk? (H1 ++ [some ⟨true, 0, relL (min n m) FX⟩]) H1.length = some ⟨true, 0, relL (min n m) FX⟩ := blk_new _ _
  have hb12 : blk? (H1 ++ [some ⟨true, 0, relL (min n m) FX⟩]) h.length = some ⟨true, 0, relL n f⟩ := blk_old hb1 _
  generalize H1 ++ [some (Blk.mk true 0 (relL (min n m) FX))] = H2 at *
  generalize hr' : min n m = r at *
  have hzl : ∀ b, (H2 ++ [b]).length = H2.length + 1 := fun b => by rw [List.length_append]; rfl
  rw [rd_rel hb2, atK_ok (relL_zero _ _), asI_ok, rd_rel hb2, atK_ok (relL_zero _ _), asI_ok, rd_rel hb2, atK_ok (relL_zero _ _), asI_ok, rd_rel hb2, atK_ok (relL_zero _ _), asI_ok, rd_rel hb12, atK_ok (relL_zero _ _), asI_ok, rd_rel hb12, atK_ok (relL_zero _ _), asI_ok]
  simp only [zero_rel, splice_zero, relL_len, hzl, and_self, if_true]
  rw [show (H2 ++ [some (Blk.mk true 0 (relL n fun _ => 0))]) ++ [some (Blk.mk true 0 (relL n fun _ => 0))] = HP H2 (relL n fun _ => 0) (relL n fun _ => 0) from rfl]
  rw [tells_loop hE hn hf ff hF fF hr hG hs hb12 hb2, bind_ok, jacquardlaw8_RelTells_e2_1]
  have hK : Kp h.length h (tHP H2 n f s 64 0) := hk1.trans ((hk2.mono hk1.1).trans ((HP_kp _ _ _).mono (Nat.le_trans hk1.1 hk2.1)))
  generalize hHH : tHP H2 n f s 64 0 = HH at *
  have o21 : blk? HH H2.length = some ⟨true, 0, acA n true (fun a b => (f a).testBit b) 64 0⟩ := by rw [← hHH]; exact HP_u _ _ _
  have o22 : blk? HH (H2.length + 1) = some ⟨true, 0, acA n false (fun a b => (f a).testBit b && (s.testBit a && s.testBit b)) 64 0⟩ := by rw [← hHH]; exact HP_v _ _ _
  have o12 : blk? HH h.length = some ⟨true, 0, relL n f⟩ := by rw [← hHH]; exact HP_old hb12 _ _
  have p1 : ∀ h', R E 69 [.agg (relL r (UN r f g)), .agg (relL r (upF (fun a => FX a ||| GY a) 64))] h' = some ([.c (.bool true)], h') := Same_S hE.c69 hr (fun _ => mkN_lt _) (words_upF (fun i => or_lt (hF i) (hG i)) _) (upF_rows _ hr fun i j => by
    rw [Nat.testBit_or, bF, bG]; cases decide (i < r) <;> cases decide (j < r) <;> rfl)
  have p2 : ∀ h', R E 69 [.agg (relL r (DI r f g)), .agg (relL r (upF (fun a => ndiff (FX a) (GY a)) 64))] h' = some ([.c (.bool true)], h') := Same_S hE.c69 hr (fun _ => mkN_lt _) (words_upF (fun i => ndiff_lt (hF i)) _) (upF_rows _ hr fun i j => by
    rw [testBit_ndiff, bF, bG]; cases decide (i < r) <;> cases decide (j < r) <;> simp)
  have p3 : ∀ h', R E 69 [.agg (relL r (ME r f g)), .agg (relL r (upF (fun a => FX a &&& GY a) 64))] h' = some ([.c (.bool true)], h') := Same_S hE.c69 hr (fun _ => mkN_lt _) (words_upF (fun i => and_lt (hF i)) _) (upF_rows _ hr fun i j => by
    rw [Nat.testBit_and, bF, bG]; cases decide (i < r) <;> cases decide (j < r) <;> simp)
  have p4 : ∀ h', R E 69 [.agg (relL r (TN r f g)), .agg (relL r (TT FX GY 64 0))] h' = some ([.c (.bool true)], h') := Same_S hE.c69 hr (fun _ => mkN_lt _) (w_TT _ _ _ _) (fun i j => by
    unfold TN
    rw [testBit_mkN, b_TT hG]
    simp only [bF, bG, Bool.and_eq_true, decide_eq_true_eq, List.any_eq_true, List.mem_range, upto_iff]
    constructor
    · rintro ⟨⟨_, ⟨q1, q2⟩, k, q3, q4, q5⟩, _⟩; exact ⟨k, by omega, by omega, ⟨⟨q1, q3⟩, q4⟩, ⟨q3, q2⟩, q5⟩
    · rintro ⟨k, q3, _, ⟨⟨q1, q4⟩, q5⟩, ⟨_, q2⟩, q6⟩; exact ⟨⟨by omega, ⟨q1, q2⟩, k, q4, q5, q6⟩, q1⟩)
  have p5 : ∀ h', R E 69 [.agg (relL n (INV n f)), .agg (acA n true (fun a b => (f a).testBit b) 64 0)] h' = some ([.c (.bool true)], h') := Same_S hE.c69 hn (w_INV _ _) (w_ACC _ _) (fun i j => by
    rw [b_INV hn, b_ACC hn]
    simp only [if_true, Bool.and_eq_true, decide_eq_true_eq, upto_iff]
    constructor
    · rintro ⟨⟨q1, q2⟩, q3⟩; exact ⟨⟨q3, q1⟩, by omega, q2⟩
    · rintro ⟨⟨q3, q1⟩, _, q2⟩; exact ⟨⟨q1, q2⟩, q3⟩)
  have p6 : ∀ h', R E 69 [.agg (relL n (KEE n f s)), .agg (acA n false (fun a b => (f a).testBit b && (s.testBit a && s.testBit b)) 64 0)] h' = some ([.c (.bool true)], h') := Same_S hE.c69 hn (w_KEE _ _ _) (w_ACC _ _) (fun i j => by
    rw [b_KEE s hs, b_ACC hn]
    simp only [Bool.false_eq_true, if_false, Bool.and_eq_true, decide_eq_true_eq, upto_iff]
    constructor
    · rintro ⟨⟨q1, q2, q3, q4⟩, _⟩; exact ⟨⟨q1, (ff _ _ q3).2⟩, by omega, q3, q2, q4⟩
    · rintro ⟨⟨q1, _⟩, _, q3, q2, q4⟩; exact ⟨⟨q1, q2, q3, q4⟩, q1⟩)
  have hc := words_clK hf n n
  have fc := clK_fit ff
  have p7 := Same_S hE.c69 hn hc hc (fun i j => ⟨fun q => q.1, fun q => ⟨q, (fc _ _ q).1⟩⟩)
  have u1 : ∀ h', R E 59 [.agg (relL n f), .agg (relL m g)] h' = some ([.agg (relL r (UN r f g))], h') := fun h' => by rw [Union_R hE.c59 hn hm hf hg, hr']; rfl
  have u2 : ∀ h', R E 68 [.agg (relL n f), .agg (relL m g)] h' = some ([.agg (relL r (DI r f g))], h') := fun h' => by rw [Minus_R hE.c68 hn hm hf hg, hr']; rfl
  have u3 : ∀ h', R E 67 [.agg (relL n f), .agg (relL m g)] h' = some ([.agg (relL r (ME r f g))], h') := fun h' => by rw [Meet_R hE.c67 hn hm hf hg, hr']; rfl
  have u4 : ∀ h', R E 58 [.agg (relL n f), .agg (relL m g)] h' = some ([.agg (relL r (TN r f g))], h') := fun h' => by rw [Then_R hE.c58 ht hn hm hf hg, hr']; rfl
  simp only [relL_len, acA_len, and_self, if_true, u1, u2, u3, u4, p1, p2, p3, p4, p5, p6, p7, Inverse_S hE.c40 ht hn hf, Keep_S hE.c66 hn hf hs, Closure_R hE.c12 hn hf, Acyclic_R hE.c26 hn hf, refClosure_R hE.c6 hn hf, refAcyclic_R hE.c71 hn hf, awake8_R hE.c55, rdH_ok o21 (acA_len _ _ _ _ _), rdH_ok o22 (acA_len _ _ _ _ _), rd_rel o12, qh_ok, c1_ok, asA_ok, asB_ok, bind_ok, scK_ok, beq_self_eq_true]
  exact finish_gc hK (by simp [avOk, AV.cells, idOk])

theorem RelTells_law (ht : TabOk E) (hE : jacquardlaw8_RelTells_In E) {h : AHeap} {c0 c1 c2 c3 c4 : List Cell} (o0 : okC h (.i .i64) c0) (o1 : okC h (.sl shPair) c1) (o2 : okC h (.i .i64) c2) (o3 : okC h (.sl shPair) c3) (o4 : okC h (.i .u64) c4) :
    ∃ h', R E 244 [av1 (.i .i64) c0, av1 (.sl shPair) c1, av1 (.i .i64) c2, av1 (.sl shPair) c3, av1 (.i .u64) c4] h = some ([.c (.bool true)], h') := by
  obtain ⟨a0, e0, _⟩ := arg_int o0
  obtain ⟨x1, l1, e1, hx1, hl1, _⟩ := arg_pairs o1
  obtain ⟨a2, e2, _⟩ := arg_int o2
  obtain ⟨x3, l3, e3, hx3, hl3, _⟩ := arg_pairs o3
  obtain ⟨s, e4, hs⟩ := arg_u64 o4
  rw [e0, e1, e2, e3, e4]
  exact ⟨h, RelTells_R hE ht a0 a2 hs hx1 hl1 hx3 hl3⟩

end Jq

/- RelTells: whatever the input the call says true, and each argument reads behind it as before. No conditions. -/
namespace Go.Proofs.YtkdicbhkkancoaaDoor.LRelTells
open Go Jq Go.ChangeShapes Go.WideShapes Go.ChangeAt Go.RowKit
set_option linter.unusedVariables false

theorem own : ownKnob Tryd.prog.godebug = none := by kernel_rfl
theorem laidOut : laidOutB Tryd.prog = true := by kernel_rfl

theorem gN : Tryd.prog.globalNamed "math/bits.deBruijn64tab" = some 0 := by kernel_rfl
theorem met (os : Os) (args : Array Value) : laidMetH Tryd.prog Rows.relTellsRow.laid ((World.doorLaid Tryd.prog 400 os).forCall (fun _ _ => 0) ⟨#[], args, []⟩).memory :=
  laidMetH_of_parts3 (fuel := 8) (laidMet_of_run' 8 (by kernel_rfl) (by kernel_rfl)) (by kernel_rfl) (by kernel_rfl)
theorem of_laid {W : World} (h : laidMetH Tryd.prog Rows.relTellsRow.laid W) : ∀ i, i < deB.length → W.cell? ⟨0, i, none⟩ = some (.int .u8 (deB.getD i 0)) := by
  rw [MakeChecks.laidMetH_plain _ _ _ (by kernel_rfl)] at h
  have hT := Lib.tabIs_of_head (zs := deB) (n := 64) gN (t := 70) (by kernel_rfl) (e := 5) (by kernel_rfl) (by kernel_rfl) (by kernel_rfl) (by kernel_rfl) h
  exact fun i hi => hT.cell gN i hi

set_option maxRecDepth 100000 in
theorem lifted (os : Os) (started : os.Started) (H : Type) (enc : TypeId × Value → H) :
    ReturnsInHanded {} Tryd.checked os 11 .any (fun w args => (Rows.relTellsSpec.pre enc Tryd.prog Tryd.f11 [] false w args ∧ laidMetH Tryd.prog Rows.relTellsRow.laid w) ∧ sizedMet enc Tryd.prog Tryd.f11 (OpenSpec.ofChange Rows.relTellsSpec) false w args) (Rows.relTellsSpec.post enc Tryd.prog Tryd.f11 false true false false) := by
  refine returnsInHanded_of_change_and (C := Tryd.checked) (X := fun w _ => laidMetH Tryd.prog Rows.relTellsRow.laid w) (fun _ _ _ hh h => h.of_heap hh) own started (by kernel_rfl) Tryd.func11
    (ChangeSpec.witness_shaped (enc := enc) (C := Tryd.checked) (os := os) (X := fun w _ => laidMetH Tryd.prog Rows.relTellsRow.laid w) false (World.doorLaid Tryd.prog 400 os) #[.int .i64 0, .slice none 0 0, .int .i64 0, .slice none 0 0, .int .u64 0] 8 rfl (World.shaped_of_RefB (by kernel_rfl) (by kernel_rfl)) (by kernel_rfl) (by kernel_rfl) (by kernel_rfl) (met os _)) ?_
  intro W base args ds gs before hval0 hW _ _ hL _
  have hval : ∀ (j : Nat) t v, Tryd.f11.params[j]? = some t → args[j]? = some v → Value.okWide Tryd.prog W .any base t v := hval0
  have hW' := hW
  obtain ⟨p, q, hA0, hV, rfl, hfz, hnd⟩ := hW
  have hA : DataW.TrodAll enc Tryd.prog W 0 (fun _ => true) true Tryd.f11.params.toList args.toList ds p := hA0
  rw [Tryd.params11] at hA hval
  obtain ⟨v0, vs0, d0, ds0, p0, q0, hargs, rfl, rfl, h0, r0⟩ := trodAll_cons hA
  obtain ⟨v1, vs1, d1, ds1, p1, q1, rfl, rfl, rfl, h1, r1⟩ := trodAll_cons r0
  obtain ⟨v2, vs2, d2, ds2, p2, q2, rfl, rfl, rfl, h2, r2⟩ := trodAll_cons r1
  obtain ⟨v3, vs3, d3, ds3, p3, q3, rfl, rfl, rfl, h3, r3⟩ := trodAll_cons r2
  obtain ⟨v4, vs4, d4, ds4, p4, q4, rfl, rfl, rfl, h4, r4⟩ := trodAll_cons r3
  obtain ⟨rfl, rfl, rfl⟩ := trodAll_nil r4
  obtain rfl : args = #[v0, v1, v2, v3, v4] := by cases args; simp_all
  obtain ⟨rfl, rfl⟩ := trodVars_none hV
  have lt0 : ∀ x ∈ p0, x.block < W.heap.size := by obtain ⟨m, hm⟩ := h0; exact DataW.trod_lt m _ _ _ hm
  have lt1 : ∀ x ∈ p1, x.block < W.heap.size := by obtain ⟨m, hm⟩ := h1; exact DataW.trod_lt m _ _ _ hm
  have lt2 : ∀ x ∈ p2, x.block < W.heap.size := by obtain ⟨m, hm⟩ := h2; exact DataW.trod_lt m _ _ _ hm
  have lt3 : ∀ x ∈ p3, x.block < W.heap.size := by obtain ⟨m, hm⟩ := h3; exact DataW.trod_lt m _ _ _ hm
  have lt4 : ∀ x ∈ p4, x.block < W.heap.size := by obtain ⟨m, hm⟩ := h4; exact DataW.trod_lt m _ _ _ hm
  have c := Come.tab1 (S := seat) (W := W) deB (fun _ => rfl) (of_laid hL)
  have k0 : ((.i .i64) : Sh).chk seat.P 3 = true := by kernel_rfl
  obtain ⟨b0, ρ0, cs0, c0, e0, x0, a0, o0⟩ := opens_arg (S := seat) (W := W) (sh := (.i .i64)) k0 h0 (wide_of k0 (hval 0 3 v0 rfl rfl)) ⟨nofun, nofun⟩ c
  have k1 : ((.sl shPair) : Sh).chk seat.P 22 = true := by kernel_rfl
  obtain ⟨b1, ρ1, cs1, c1, e1, x1, a1, o1⟩ := opens_arg (S := seat) (W := W) (sh := (.sl shPair)) k1 h1 (wide_of k1 (hval 1 22 v1 rfl rfl)) ⟨nofun, nofun⟩ c0
  have k2 : ((.i .i64) : Sh).chk seat.P 3 = true := by kernel_rfl
  obtain ⟨b2, ρ2, cs2, c2, e2, x2, a2, o2⟩ := opens_arg (S := seat) (W := W) (sh := (.i .i64)) k2 h2 (wide_of k2 (hval 2 3 v2 rfl rfl)) ⟨nofun, nofun⟩ c1
  have k3 : ((.sl shPair) : Sh).chk seat.P 22 = true := by kernel_rfl
  obtain ⟨b3, ρ3, cs3, c3, e3, x3, a3, o3⟩ := opens_arg (S := seat) (W := W) (sh := (.sl shPair)) k3 h3 (wide_of k3 (hval 3 22 v3 rfl rfl)) ⟨nofun, nofun⟩ c2
  have k4 : ((.i .u64) : Sh).chk seat.P 23 = true := by kernel_rfl
  obtain ⟨b4, ρ4, cs4, c4, e4, x4, a4, o4⟩ := opens_arg (S := seat) (W := W) (sh := (.i .u64)) k4 h4 (wide_of k4 (hval 4 23 v4 rfl rfl)) ⟨nofun, nofun⟩ c3
  obtain ⟨h', hR⟩ := RelTells_law (E := env) tabOk in_244 (okC_mono x4 _ _ (okC_mono x3 _ _ (okC_mono x2 _ _ (okC_mono x1 _ _ o0)))) (okC_mono x4 _ _ (okC_mono x3 _ _ (okC_mono x2 _ _ o1))) (okC_mono x4 _ _ (okC_mono x3 _ _ o2)) (okC_mono x4 _ _ o3) o4
  refine (law_call (S := seat) (R_sound (S := seat) (E := env) rfl allOk) c4 (vals := #[v0, v1, v2, v3, v4]) (L2.cons (relA.mono e4 (relA.mono e3 (relA.mono e2 (relA.mono e1 a0)))) (L2.cons (relA.mono e4 (relA.mono e3 (relA.mono e2 a1))) (L2.cons (relA.mono e4 (relA.mono e3 a2)) (L2.cons (relA.mono e4 a3) (L2.cons a4 L2.nil))))) hR).mono fun e W' ⟨he, bel⟩ => ?_
  subst he
  exact ⟨_, rfl, _, _, _, [], _, [], hW', trodAll_mk1 (shut_bool Tryd.underlying4 _), (trodAll_cons_mk (Below.trod laidOut (by kernel_rfl) (of_decide_eq_true (by kernel_rfl)) h0 bel lt0) (trodAll_cons_mk (Below.trod laidOut (by kernel_rfl) (of_decide_eq_true (by kernel_rfl)) h1 bel lt1) (trodAll_cons_mk (Below.trod laidOut (by kernel_rfl) (of_decide_eq_true (by kernel_rfl)) h2 bel lt2) (trodAll_cons_mk (Below.trod laidOut (by kernel_rfl) (of_decide_eq_true (by kernel_rfl)) h3 bel lt3) (trodAll_cons_mk (Below.trod laidOut (by kernel_rfl) (of_decide_eq_true (by kernel_rfl)) h4 bel lt4) trodAll_mk0))))), rfl, bel.frame _, fun h => by cases h⟩

theorem over : Rows.relTellsRow.holds Tryd.pinned (OpenSpec.ofChange Rows.relTellsSpec) :=
  OpenClaim.holds_of_wide 11 Tryd.f11 rfl rfl rfl rfl rfl rfl rfl ⟨rfl, rfl, rfl, rfl, rfl⟩ rfl rfl rfl rfl rfl (by kernel_rfl) Tryd.func11 (by kernel_rfl)
    (of_decide_eq_true (by kernel_rfl)) (by unfold Func.isWrapper; first | (rw [if_pos (by decide +kernel)]; kernel_rfl) | (rw [if_neg (by decide +kernel)]; exact ⟨rfl, rfl⟩))
    (fun os started H enc _ => lifted os started H enc)

theorem proved : Rows.RelTellsCardSaid :=
  Claim7.holds_tied_plain_at .later [] [.data] true (true, "247157c4400f09dbf37c7c2675cf8478a89aff0d810297ef4dd9ce74afe5d438") false
    over (fun _ h => by cases h) (by kernel_rfl) (fun _ h => by cases h) relTells_row_tie rfl ⟨rfl, rfl⟩ (by kernel_rfl) rfl
    (fun f fn hf hfn => by
      obtain rfl : f = 11 := Option.some.inj ((show Tryd.prog.funcNamed "jacquard/jacquardlaw8.RelTells" = some 11 by kernel_rfl).symm.trans hf) |>.symm
      obtain rfl : fn = Tryd.f11 := (Option.some.inj (Tryd.func11.symm.trans hfn)).symm
      exact ⟨by kernel_rfl, fun j t ht => by
        rw [Tryd.params11] at ht
        have hm : t ∈ [3, 22, 3, 22, 23] := by simpa using Array.mem_of_getElem? ht
        have hall : ([3, 22, 3, 22, 23].all fun u => !Tryd.prog.wantsStandIn u) = true := by kernel_rfl
        exact (show Tryd.prog.wantsStandIn t = false by simpa using List.all_eq_true.1 hall t hm)⟩)
    (by kernel_rfl)
#print axioms proved

end Go.Proofs.YtkdicbhkkancoaaDoor.LRelTells

