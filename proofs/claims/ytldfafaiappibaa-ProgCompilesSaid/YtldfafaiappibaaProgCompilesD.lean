/- YtldfafaiappibaaProgCompilesD: a part of the proof; no conditions of its own. -/
import Derived.KernelRfl
import Derived.Test.YtldfafaiappibaaRows
import Derived.WalkKit
import Derived.ProofKit
import Derived.OpenShut
import Derived.ShutString
import Derived.ChangeOld
import Derived.Below
import Derived.Carry
import Derived.Test.YtldfafaiappibaaProgCompilesC
set_option linter.unusedVariables false
set_option linter.unusedSimpArgs false

namespace Jq
open Go

/- jacquard/jacquardlaw6.awake: 95 -/
set_option maxRecDepth 100000 in
theorem jacquardlaw6_awake_eq (C : CallF) (L : LoopF) (G : Glo)  (h0 : AHeap) :
    jacquardlaw6_awake.body C L G [] h0 =
    if (splice (splice [Cell.int .i64 0, Cell.int .i64 0] 0 ([(.int .i64 (-1))] : List Cell)) 1 ([(.int .i64 1)] : List Cell)).length = 2 ∧ 3 + 2 ≤ (splice (List.replicate 9 (Cell.int .i64 0)) 0 ([(.int .i64 5)] : List Cell)).length then if (splice [Cell.int .i64 0, Cell.int .i64 0] 0 ([(.int .i64 (-1))] : List Cell)).length = 2 ∧ 6 + 2 ≤ (splice (splice (List.replicate 9 (Cell.int .i64 0)) 0 ([(.int .i64 5)] : List Cell)) 3 (splice (splice [Cell.int .i64 0, Cell.int .i64 0] 0 ([(.int .i64 (-1))] : List Cell)) 1 ([(.int .i64 1)] : List Cell))).length then if [Cell.int .i64 0, Cell.int .i64 0].length = 2 ∧ 3 + 2 ≤ (splice (splice (List.replicate 9 (Cell.int .i64 0)) 0 ([(.int .i64 1)] : List Cell)) 2 ([(.int .i64 120)] : List Cell)).length then if (splice (splice (splice (List.replicate 9 (Cell.int .i64 0)) 0 ([(.int .i64 5)] : List Cell)) 3 (splice (splice [Cell.int .i64 0, Cell.int .i64 0] 0 ([(.int .i64 (-1))] : List Cell)) 1 ([(.int .i64 1)] : List Cell))) 6 (splice [Cell.int .i64 0, Cell.int .i64 0] 0 ([(.int .i64 (-1))] : List Cell))).length = 9 ∧ 0 + 9 ≤ (List.replicate 18 (Cell.int .i64 0)).length then if (splice (splice (splice (List.replicate 9 (Cell.int .i64 0)) 0 ([(.int .i64 1)] : List Cell)) 2 ([(.int .i64 120)] : List Cell)) 3 [Cell.int .i64 0, Cell.int .i64 0]).length = 9 ∧ 9 + 9 ≤ (splice (List.replicate 18 (Cell.int .i64 0)) 0 (splice (splice (splice (List.replicate 9 (Cell.int .i64 0)) 0 ([(.int .i64 5)] : List Cell)) 3 (splice (splice [Cell.int .i64 0, Cell.int .i64 0] 0 ([(.int .i64 (-1))] : List Cell)) 1 ([(.int .i64 1)] : List Cell))) 6 (splice [Cell.int .i64 0, Cell.int .i64 0] 0 ([(.int .i64 (-1))] : List Cell)))).length then if (splice (splice (List.replicate 18 (Cell.int .i64 0)) 0 (splice (splice (splice (List.replicate 9 (Cell.int .i64 0)) 0 ([(.int .i64 5)] : List Cell)) 3 (splice (splice [Cell.int .i64 0, Cell.int .i64 0] 0 ([(.int .i64 (-1))] : List Cell)) 1 ([(.int .i64 1)] : List Cell))) 6 (splice [Cell.int .i64 0, Cell.int .i64 0] 0 ([(.int .i64 (-1))] : List Cell)))) 9 (splice (splice (splice (List.replicate 9 (Cell.int .i64 0)) 0 ([(.int .i64 1)] : List Cell)) 2 ([(.int .i64 120)] : List Cell)) 3 [Cell.int .i64 0, Cell.int .i64 0])).length = 2 * 9 then if (splice [Cell.nils] 0 ([(.sl h0.length ((splice (splice (List.replicate 18 (Cell.int .i64 0)) 0 (splice (splice (splice (List.replicate 9 (Cell.int .i64 0)) 0 ([(.int .i64 5)] : List Cell)) 3 (splice (splice [Cell.int .i64 0, Cell.int .i64 0] 0 ([(.int .i64 (-1))] : List Cell)) 1 ([(.int .i64 1)] : List Cell))) 6 (splice [Cell.int .i64 0, Cell.int .i64 0] 0 ([(.int .i64 (-1))] : List Cell)))) 9 (splice (splice (splice (List.replicate 9 (Cell.int .i64 0)) 0 ([(.int .i64 1)] : List Cell)) 2 ([(.int .i64 120)] : List Cell)) 3 [Cell.int .i64 0, Cell.int .i64 0])).length) 0 2)] : List Cell)).length = 1 * 1 then if 0 = 0 ∧ [Cell.str (ByteArray.mk #[]), Cell.nils, Cell.nils, Cell.int .i64 0, Cell.nils].length = 5 ∧ (splice (splice [Cell.str (ByteArray.mk #[]), Cell.nils, Cell.nils, Cell.int .i64 0, Cell.nils] 0 ([(.str (ByteArray.mk #[97]))] : List Cell)) 2 ([(.sl ((h0 ++ [some (Blk.mk true 9 (splice (splice (List.replicate 18 (Cell.int .i64 0)) 0 (splice (splice (splice (List.replicate 9 (Cell.int .i64 0)) 0 ([(.int .i64 5)] : List Cell)) 3 (splice (splice [Cell.int .i64 0, Cell.int .i64 0] 0 ([(.int .i64 (-1))] : List Cell)) 1 ([(.int .i64 1)] : List Cell))) 6 (splice [Cell.int .i64 0, Cell.int .i64 0] 0 ([(.int .i64 (-1))] : List Cell)))) 9 (splice (splice (splice (List.replicate 9 (Cell.int .i64 0)) 0 ([(.int .i64 1)] : List Cell)) 2 ([(.int .i64 120)] : List Cell)) 3 [Cell.int .i64 0, Cell.int .i64 0])))]).length) ((splice [Cell.nils] 0 ([(.sl h0.length ((splice (splice (List.replicate 18 (Cell.int .i64 0)) 0 (splice (splice (splice (List.replicate 9 (Cell.int .i64 0)) 0 ([(.int .i64 5)] : List Cell)) 3 (splice (splice [Cell.int .i64 0, Cell.int .i64 0] 0 ([(.int .i64 (-1))] : List Cell)) 1 ([(.int .i64 1)] : List Cell))) 6 (splice [Cell.int .i64 0, Cell.int .i64 0] 0 ([(.int .i64 (-1))] : List Cell)))) 9 (splice (splice (splice (List.replicate 9 (Cell.int .i64 0)) 0 ([(.int .i64 1)] : List Cell)) 2 ([(.int .i64 120)] : List Cell)) 3 [Cell.int .i64 0, Cell.int .i64 0])).length) 0 2)] : List Cell)).length) 0 1)] : List Cell)).length = 5 then if 0 = 0 ∧ (splice (splice [Cell.str (ByteArray.mk #[]), Cell.nils, Cell.nils, Cell.int .i64 0, Cell.nils] 0 ([(.str (ByteArray.mk #[97]))] : List Cell)) 2 ([(.sl ((h0 ++ [some (Blk.mk true 9 (splice (splice (List.replicate 18 (Cell.int .i64 0)) 0 (splice (splice (splice (List.replicate 9 (Cell.int .i64 0)) 0 ([(.int .i64 5)] : List Cell)) 3 (splice (splice [Cell.int .i64 0, Cell.int .i64 0] 0 ([(.int .i64 (-1))] : List Cell)) 1 ([(.int .i64 1)] : List Cell))) 6 (splice [Cell.int .i64 0, Cell.int .i64 0] 0 ([(.int .i64 (-1))] : List Cell)))) 9 (splice (splice (splice (List.replicate 9 (Cell.int .i64 0)) 0 ([(.int .i64 1)] : List Cell)) 2 ([(.int .i64 120)] : List Cell)) 3 [Cell.int .i64 0, Cell.int .i64 0])))]).length) ((splice [Cell.nils] 0 ([(.sl h0.length ((splice (splice (List.replicate 18 (Cell.int .i64 0)) 0 (splice (splice (splice (List.replicate 9 (Cell.int .i64 0)) 0 ([(.int .i64 5)] : List Cell)) 3 (splice (splice [Cell.int .i64 0, Cell.int .i64 0] 0 ([(.int .i64 (-1))] : List Cell)) 1 ([(.int .i64 1)] : List Cell))) 6 (splice [Cell.int .i64 0, Cell.int .i64 0] 0 ([(.int .i64 (-1))] : List Cell)))) 9 (splice (splice (splice (List.replicate 9 (Cell.int .i64 0)) 0 ([(.int .i64 1)] : List Cell)) 2 ([(.int .i64 120)] : List Cell)) 3 [Cell.int .i64 0, Cell.int .i64 0])).length) 0 2)] : List Cell)).length) 0 1)] : List Cell)).length = 5 then c2 (C 98 [(.agg (splice (splice [Cell.str (ByteArray.mk #[]), Cell.nils, Cell.nils, Cell.int .i64 0, Cell.nils] 0 ([(.str (ByteArray.mk #[97]))] : List Cell)) 2 ([(.sl ((h0 ++ [some (Blk.mk true 9 (splice (splice (List.replicate 18 (Cell.int .i64 0)) 0 (splice (splice (splice (List.replicate 9 (Cell.int .i64 0)) 0 ([(.int .i64 5)] : List Cell)) 3 (splice (splice [Cell.int .i64 0, Cell.int .i64 0] 0 ([(.int .i64 (-1))] : List Cell)) 1 ([(.int .i64 1)] : List Cell))) 6 (splice [Cell.int .i64 0, Cell.int .i64 0] 0 ([(.int .i64 (-1))] : List Cell)))) 9 (splice (splice (splice (List.replicate 9 (Cell.int .i64 0)) 0 ([(.int .i64 1)] : List Cell)) 2 ([(.int .i64 120)] : List Cell)) 3 [Cell.int .i64 0, Cell.int .i64 0])))]).length) ((splice [Cell.nils] 0 ([(.sl h0.length ((splice (splice (List.replicate 18 (Cell.int .i64 0)) 0 (splice (splice (splice (List.replicate 9 (Cell.int .i64 0)) 0 ([(.int .i64 5)] : List Cell)) 3 (splice (splice [Cell.int .i64 0, Cell.int .i64 0] 0 ([(.int .i64 (-1))] : List Cell)) 1 ([(.int .i64 1)] : List Cell))) 6 (splice [Cell.int .i64 0, Cell.int .i64 0] 0 ([(.int .i64 (-1))] : List Cell)))) 9 (splice (splice (splice (List.replicate 9 (Cell.int .i64 0)) 0 ([(.int .i64 1)] : List Cell)) 2 ([(.int .i64 120)] : List Cell)) 3 [Cell.int .i64 0, Cell.int .i64 0])).length) 0 2)] : List Cell)).length) 0 1)] : List Cell)))] ((h0 ++ [some (Blk.mk true 9 (splice (splice (List.replicate 18 (Cell.int .i64 0)) 0 (splice (splice (splice (List.replicate 9 (Cell.int .i64 0)) 0 ([(.int .i64 5)] : List Cell)) 3 (splice (splice [Cell.int .i64 0, Cell.int .i64 0] 0 ([(.int .i64 (-1))] : List Cell)) 1 ([(.int .i64 1)] : List Cell))) 6 (splice [Cell.int .i64 0, Cell.int .i64 0] 0 ([(.int .i64 (-1))] : List Cell)))) 9 (splice (splice (splice (List.replicate 9 (Cell.int .i64 0)) 0 ([(.int .i64 1)] : List Cell)) 2 ([(.int .i64 120)] : List Cell)) 3 [Cell.int .i64 0, Cell.int .i64 0])))]) ++ [some (Blk.mk true 1 (splice [Cell.nils] 0 ([(.sl h0.length ((splice (splice (List.replicate 18 (Cell.int .i64 0)) 0 (splice (splice (splice (List.replicate 9 (Cell.int .i64 0)) 0 ([(.int .i64 5)] : List Cell)) 3 (splice (splice [Cell.int .i64 0, Cell.int .i64 0] 0 ([(.int .i64 (-1))] : List Cell)) 1 ([(.int .i64 1)] : List Cell))) 6 (splice [Cell.int .i64 0, Cell.int .i64 0] 0 ([(.int .i64 (-1))] : List Cell)))) 9 (splice (splice (splice (List.replicate 9 (Cell.int .i64 0)) 0 ([(.int .i64 1)] : List Cell)) 2 ([(.int .i64 120)] : List Cell)) 3 [Cell.int .i64 0, Cell.int .i64 0])).length) 0 2)] : List Cell)))])) fun y_2 y_3 h_1 => asA y_2 fun l_4 => asI .i64 y_3 fun n_5 => if 0 = 0 ∧ [Cell.nils, Cell.nils, Cell.nils].length = 3 ∧ l_4.length = 3 then if 0 = 0 ∧ l_4.length = 3 then c1 (C 94 [(.agg l_4), (.c (.int .i64 0))] h_1) fun y_7 h_6 => asA y_7 fun l_8 => if 0 = 0 ∧ [Cell.int .i64 0, Cell.int .i64 0, Cell.int .i64 0, Cell.int .i64 0, Cell.int .i64 0].length = 5 ∧ l_8.length = 5 then if 0 = 0 ∧ l_4.length = 3 then if 0 = 0 ∧ l_8.length = 5 then c2 (C 105 [(.agg l_4), (.c (.int .i64 0)), (.agg l_8)] h_6) fun y_10 y_11 h_9 => asA y_10 fun l_12 => asB y_11 fun b_13 => if 0 = 0 ∧ (List.replicate 9 (Cell.int .i64 0)).length = 9 ∧ l_12.length = 9 then scK (n_5 == 0) true (atK l_8 0 fun q_14 => asI .i64 (.c q_14) fun n_15 => some ((n_15 == 1), h_9)) false h_9 fun b_16 h_17 => scK b_16 true (atK l_8 1 fun q_18 => asI .i64 (.c q_18) fun n_19 => some ((n_19 == 1), h_17)) false h_17 fun b_20 h_21 => scK b_20 true (some (b_13, h_21)) false h_21 fun b_22 h_23 => scK b_22 true (atK l_12 0 fun q_24 => asI .i64 (.c q_24) fun n_25 => some ((n_25 == 1), h_23)) false h_23 fun b_26 h_27 => scK b_26 true (if 0 = 0 ∧ l_4.length = 3 then c1 (C 102 [(.agg l_4)] h_27) fun y_29 h_28 => asI .i64 y_29 fun n_30 => some ((n_30 == 2), h_28) else none) false h_27 fun b_31 h_32 => finish true h0 [(.c (.bool b_31))] h_32 else none else none else none else none else none else none else none else none else none else none else none else none else none else none else none := by kernel_rfl

/- jacquard/jacquardlaw6.Same: 100 -/
def jacquardlaw6_Same_k2 (C : CallF) (L : LoopF) (G : Glo) (h0 : AHeap) : Ex → St → Option (List AV × AHeap) :=
  kSeq (fun st => jacquardlaw6_Same_p1.exec C L G st (jacquardlaw6_Same.fin G h0)) (jacquardlaw6_Same.fin G h0)
def jacquardlaw6_Same_k3 (C : CallF) (L : LoopF) (G : Glo) (h0 : AHeap) : Ex → St → Option (List AV × AHeap) :=
  kBlk 0 (jacquardlaw6_Same_k2 C L G h0)
def jacquardlaw6_Same_s1 (a5 : Int) (s0 : List Cell) (s1 : List Cell) (h : AHeap) : St := ⟨[.top, .top, .loc 0 0, .loc 1 0, .top, .v (.c (.int .i64 a5)), .top, .top, .top, .top, .top, .top, .top, .top, .top, .top, .top, .top, .top, .top, .top, .top, .top, .top, .top, .top, .top, .top, .top, .top, .top, .top, .top, .top, .top, .top, .top, .top, .top, .top, .top, .top, .top, .top, .top, .top, .top, .top, .top, .top, .top, .top, .top, .top, .top, .top, .top, .top, .top, .top, .top, .top, .top, .top, .top, .top, .top, .top, .top, .top, .top, .top, .top, .top, .top, .top, .top, .top, .top, .top, .top, .top, .top, .top, .top, .top, .top, .top, .top, .top, .top, .top, .top, .top, .top, .top, .top, .top], [some s0, some s1], h⟩
def jacquardlaw6_Same_F1 (C : CallF) (L : LoopF) (G : Glo) : St → Option (Ex × St) :=
  roundF (fun st f => jacquardlaw6_Same_b1.exec C L G st f) [2, 3, 5] [0, 1] [(0, [4], []), (1, [2, 3], [0, 1])]
def jacquardlaw6_Same_x1_0 (b4 : Bool) (h : AHeap) : St := ⟨[.top, .top, .top, .top, .v (.c (.bool b4)), .top, .top, .top, .top, .top, .top, .top, .top, .top, .top, .top, .top, .top, .top, .top, .top, .top, .top, .top, .top, .top, .top, .top, .top, .top, .top, .top, .top, .top, .top, .top, .top, .top, .top, .top, .top, .top, .top, .top, .top, .top, .top, .top, .top, .top, .top, .top, .top, .top, .top, .top, .top, .top, .top, .top, .top, .top, .top, .top, .top, .top, .top, .top, .top, .top, .top, .top, .top, .top, .top, .top, .top, .top, .top, .top, .top, .top, .top, .top, .top, .top, .top, .top, .top, .top, .top, .top, .top, .top, .top, .top, .top, .top], [none, none], h⟩
def jacquardlaw6_Same_x1_1 (s0 : List Cell) (s1 : List Cell) (h : AHeap) : St := ⟨[.top, .top, .loc 0 0, .loc 1 0, .top, .top, .top, .top, .top, .top, .top, .top, .top, .top, .top, .top, .top, .top, .top, .top, .top, .top, .top, .top, .top, .top, .top, .top, .top, .top, .top, .top, .top, .top, .top, .top, .top, .top, .top, .top, .top, .top, .top, .top, .top, .top, .top, .top, .top, .top, .top, .top, .top, .top, .top, .top, .top, .top, .top, .top, .top, .top, .top, .top, .top, .top, .top, .top, .top, .top, .top, .top, .top, .top, .top, .top, .top, .top, .top, .top, .top, .top, .top, .top, .top, .top, .top, .top, .top, .top, .top, .top, .top, .top, .top, .top, .top, .top], [some s0, some s1], h⟩
def jacquardlaw6_Same_k4 (C : CallF) (L : LoopF) (G : Glo) (h0 : AHeap) : Ex → St → Option (List AV × AHeap) :=
  kSeq (fun st => jacquardlaw6_Same_p2.exec C L G st (jacquardlaw6_Same.fin G h0)) (jacquardlaw6_Same.fin G h0)
def jacquardlaw6_Same_k5 (C : CallF) (L : LoopF) (G : Glo) (h0 : AHeap) : Ex → St → Option (List AV × AHeap) :=
  kBlk 2 (jacquardlaw6_Same_k4 C L G h0)
def jacquardlaw6_Same_s3 (a6 : Int) (s0 : List Cell) (s1 : List Cell) (h : AHeap) : St := ⟨[.top, .top, .loc 0 0, .loc 1 0, .top, .top, .v (.c (.int .i64 a6)), .top, .top, .top, .top, .top, .top, .top, .top, .top, .top, .top, .top, .top, .top, .top, .top, .top, .top, .top, .top, .top, .top, .top, .top, .top, .top, .top, .top, .top, .top, .top, .top, .top, .top, .top, .top, .top, .top, .top, .top, .top, .top, .top, .top, .top, .top, .top, .top, .top, .top, .top, .top, .top, .top, .top, .top, .top, .top, .top, .top, .top, .top, .top, .top, .top, .top, .top, .top, .top, .top, .top, .top, .top, .top, .top, .top, .top, .top, .top, .top, .top, .top, .top, .top, .top, .top, .top, .top, .top, .top, .top], [some s0, some s1], h⟩
def jacquardlaw6_Same_F3 (C : CallF) (L : LoopF) (G : Glo) : St → Option (Ex × St) :=
  roundF (fun st f => jacquardlaw6_Same_b3.exec C L G st f) [2, 3, 6] [0, 1] [(0, [4], []), (3, [], [])]
def jacquardlaw6_Same_k6 (C : CallF) (L : LoopF) (G : Glo) : Ex → St → Option (Ex × St) :=
  kSeq (fun st => jacquardlaw6_Same_p3.exec C L G st (kLoop [2, 3, 6] [0, 1] [(0, [4], []), (3, [], [])])) (kLoop [2, 3, 6] [0, 1] [(0, [4], []), (3, [], [])])
def jacquardlaw6_Same_k7 (C : CallF) (L : LoopF) (G : Glo) : Ex → St → Option (Ex × St) :=
  kBlk 3 (jacquardlaw6_Same_k6 C L G)
def jacquardlaw6_Same_x3_0 (b4 : Bool) (h : AHeap) : St := ⟨[.top, .top, .top, .top, .v (.c (.bool b4)), .top, .top, .top, .top, .top, .top, .top, .top, .top, .top, .top, .top, .top, .top, .top, .top, .top, .top, .top, .top, .top, .top, .top, .top, .top, .top, .top, .top, .top, .top, .top, .top, .top, .top, .top, .top, .top, .top, .top, .top, .top, .top, .top, .top, .top, .top, .top, .top, .top, .top, .top, .top, .top, .top, .top, .top, .top, .top, .top, .top, .top, .top, .top, .top, .top, .top, .top, .top, .top, .top, .top, .top, .top, .top, .top, .top, .top, .top, .top, .top, .top, .top, .top, .top, .top, .top, .top, .top, .top, .top, .top, .top, .top], [none, none], h⟩
def jacquardlaw6_Same_k8 (C : CallF) (L : LoopF) (G : Glo) : Ex → St → Option (Ex × St) :=
  kBlk 4 (jacquardlaw6_Same_k7 C L G)
def jacquardlaw6_Same_s2 (a6 : Int) (a7 : Int) (s0 : List Cell) (s1 : List Cell) (h : AHeap) : St := ⟨[.top, .top, .loc 0 0, .loc 1 0, .top, .top, .v (.c (.int .i64 a6)), .v (.c (.int .i64 a7)), .top, .top, .top, .top, .top, .top, .top, .top, .top, .top, .top, .top, .top, .top, .top, .top, .top, .top, .top, .top, .top, .top, .top, .top, .top, .top, .top, .top, .top, .top, .top, .top, .top, .top, .top, .top, .top, .top, .top, .top, .top, .top, .top, .top, .top, .top, .top, .top, .top, .top, .top, .top, .top, .top, .top, .top, .top, .top, .top, .top, .top, .top, .top, .top, .top, .top, .top, .top, .top, .top, .top, .top, .top, .top, .top, .top, .top, .top, .top, .top, .top, .top, .top, .top, .top, .top, .top, .top, .top, .top], [some s0, some s1], h⟩
def jacquardlaw6_Same_F2 (C : CallF) (L : LoopF) (G : Glo) : St → Option (Ex × St) :=
  roundF (fun st f => jacquardlaw6_Same_b2.exec C L G st f) [2, 3, 6, 7] [0, 1] [(0, [4], []), (5, [2, 3, 6], [0, 1])]
def jacquardlaw6_Same_x2_0 (b4 : Bool) (h : AHeap) : St := ⟨[.top, .top, .top, .top, .v (.c (.bool b4)), .top, .top, .top, .top, .top, .top, .top, .top, .top, .top, .top, .top, .top, .top, .top, .top, .top, .top, .top, .top, .top, .top, .top, .top, .top, .top, .top, .top, .top, .top, .top, .top, .top, .top, .top, .top, .top, .top, .top, .top, .top, .top, .top, .top, .top, .top, .top, .top, .top, .top, .top, .top, .top, .top, .top, .top, .top, .top, .top, .top, .top, .top, .top, .top, .top, .top, .top, .top, .top, .top, .top, .top, .top, .top, .top, .top, .top, .top, .top, .top, .top, .top, .top, .top, .top, .top, .top, .top, .top, .top, .top, .top, .top], [none, none], h⟩
def jacquardlaw6_Same_x2_5 (a6 : Int) (s0 : List Cell) (s1 : List Cell) (h : AHeap) : St := ⟨[.top, .top, .loc 0 0, .loc 1 0, .top, .top, .v (.c (.int .i64 a6)), .top, .top, .top, .top, .top, .top, .top, .top, .top, .top, .top, .top, .top, .top, .top, .top, .top, .top, .top, .top, .top, .top, .top, .top, .top, .top, .top, .top, .top, .top, .top, .top, .top, .top, .top, .top, .top, .top, .top, .top, .top, .top, .top, .top, .top, .top, .top, .top, .top, .top, .top, .top, .top, .top, .top, .top, .top, .top, .top, .top, .top, .top, .top, .top, .top, .top, .top, .top, .top, .top, .top, .top, .top, .top, .top, .top, .top, .top, .top, .top, .top, .top, .top, .top, .top, .top, .top, .top, .top, .top, .top], [some s0, some s1], h⟩
def jacquardlaw6_Same_x3_3 (h : AHeap) : St := ⟨[.top, .top, .top, .top, .top, .top, .top, .top, .top, .top, .top, .top, .top, .top, .top, .top, .top, .top, .top, .top, .top, .top, .top, .top, .top, .top, .top, .top, .top, .top, .top, .top, .top, .top, .top, .top, .top, .top, .top, .top, .top, .top, .top, .top, .top, .top, .top, .top, .top, .top, .top, .top, .top, .top, .top, .top, .top, .top, .top, .top, .top, .top, .top, .top, .top, .top, .top, .top, .top, .top, .top, .top, .top, .top, .top, .top, .top, .top, .top, .top, .top, .top, .top, .top, .top, .top, .top, .top, .top, .top, .top, .top, .top, .top, .top, .top, .top, .top], [none, none], h⟩
theorem jacquardlaw6_Same_r1 (C : CallF) (L : LoopF) (G : Glo) (a5 : Int) (s0 : List Cell) (s1 : List Cell) (h : AHeap) :
    jacquardlaw6_Same_F1 C L G (jacquardlaw6_Same_s1 a5 s0 s1 h) =
    atK s0 1 fun q_19 => lenK q_19 fun n_20 => if (decide (a5 < n_20)) = true then atK s0 1 fun q_21 => idxSK 1 q_21 a5 fun k_22 N_23 o_24 => rdH h k_22 N_23 fun l_25 => atK l_25 o_24 fun q_26 => asI .i64 (.c q_26) fun n_27 => atK s1 1 fun q_28 => idxSK 1 q_28 a5 fun k_29 N_30 o_31 => rdH h k_29 N_30 fun l_32 => atK l_32 o_31 fun q_33 => asI .i64 (.c q_33) fun n_34 => if (n_27 != n_34) = true then some (.ret, (jacquardlaw6_Same_x1_0 false h)) else some (.normal, (jacquardlaw6_Same_s1 (G.wrap .i64 (a5 + 1)) s0 s1 h)) else some ((.exit 0), (jacquardlaw6_Same_x1_1 s0 s1 h)) := by kernel_rfl
theorem jacquardlaw6_Same_e1_0 (C : CallF) (L : LoopF) (G : Glo) (h0 : AHeap) (b4 : Bool) (h : AHeap) :
    (jacquardlaw6_Same_k3 C L G h0) .ret (jacquardlaw6_Same_x1_0 b4 h) =
    some ([(.c (.bool b4))], h) := by kernel_rfl
theorem jacquardlaw6_Same_r2 (C : CallF) (L : LoopF) (G : Glo) (a6 : Int) (a7 : Int) (s0 : List Cell) (s1 : List Cell) (h : AHeap) :
    jacquardlaw6_Same_F2 C L G (jacquardlaw6_Same_s2 a6 a7 s0 s1 h) =
    atK s0 2 fun q_51 => idxSK 1 q_51 a6 fun k_52 N_53 o_54 => rdH h k_52 N_53 fun l_55 => atK l_55 o_54 fun q_56 => lenK q_56 fun n_57 => if (decide (a7 < n_57)) = true then atK s0 2 fun q_58 => idxSK 1 q_58 a6 fun k_59 N_60 o_61 => rdH h k_59 N_60 fun l_62 => atK l_62 o_61 fun q_63 => idxSK 9 q_63 a7 fun k_64 N_65 o_66 => rdH h k_64 N_65 fun l_67 => if o_66 + 9 ≤ l_67.length then atK s1 2 fun q_68 => idxSK 1 q_68 a6 fun k_69 N_70 o_71 => rdH h k_69 N_70 fun l_72 => atK l_72 o_71 fun q_73 => idxSK 9 q_73 a7 fun k_74 N_75 o_76 => rdH h k_74 N_75 fun l_77 => if o_76 + 9 ≤ l_77.length then if alike ((l_67.drop o_66).take 9) (List.replicate 9 (Cell.int .i64 0)) = true ∧ alike ((l_77.drop o_76).take 9) (List.replicate 9 (Cell.int .i64 0)) = true then if (!(decide (((l_67.drop o_66).take 9) = ((l_77.drop o_76).take 9)))) = true then some (.ret, (jacquardlaw6_Same_x2_0 false h)) else some (.normal, (jacquardlaw6_Same_s2 a6 (G.wrap .i64 (a7 + 1)) s0 s1 h)) else none else none else none else some ((.exit 4), (jacquardlaw6_Same_x2_5 a6 s0 s1 h)) := by kernel_rfl
theorem jacquardlaw6_Same_e2_0 (C : CallF) (L : LoopF) (G : Glo) (b4 : Bool) (h : AHeap) :
    (jacquardlaw6_Same_k8 C L G) .ret (jacquardlaw6_Same_x2_0 b4 h) =
    some (.ret, (jacquardlaw6_Same_x3_0 b4 h)) := by kernel_rfl
theorem jacquardlaw6_Same_e2_5 (C : CallF) (L : LoopF) (G : Glo) (a6 : Int) (s0 : List Cell) (s1 : List Cell) (h : AHeap) :
    (jacquardlaw6_Same_k8 C L G) (.exit 4) (jacquardlaw6_Same_x2_5 a6 s0 s1 h) =
    some (.normal, (jacquardlaw6_Same_s3 (G.wrap .i64 (a6 + 1)) s0 s1 h)) := by kernel_rfl
theorem jacquardlaw6_Same_r3 (C : CallF) (L : LoopF) (G : Glo) (a6 : Int) (s0 : List Cell) (s1 : List Cell) (h : AHeap) :
    jacquardlaw6_Same_F3 C L G (jacquardlaw6_Same_s3 a6 s0 s1 h) =
    atK s0 2 fun q_35 => lenK q_35 fun n_36 => if (decide (a6 < n_36)) = true then atK s0 2 fun q_37 => idxSK 1 q_37 a6 fun k_38 N_39 o_40 => rdH h k_38 N_39 fun l_41 => atK l_41 o_40 fun q_42 => lenK q_42 fun n_43 => atK s1 2 fun q_44 => idxSK 1 q_44 a6 fun k_45 N_46 o_47 => rdH h k_45 N_46 fun l_48 => atK l_48 o_47 fun q_49 => lenK q_49 fun n_50 => if (n_43 != n_50) = true then some (.ret, (jacquardlaw6_Same_x3_0 false h)) else (L (jacquardlaw6_Same_F2 C L G) (jacquardlaw6_Same_s2 a6 0 s0 s1 h)).bind fun p_78 => (jacquardlaw6_Same_k8 C L G) p_78.1 p_78.2 else some ((.exit 2), (jacquardlaw6_Same_x3_3 h)) := by kernel_rfl
theorem jacquardlaw6_Same_e3_0 (C : CallF) (L : LoopF) (G : Glo) (h0 : AHeap) (b4 : Bool) (h : AHeap) :
    (jacquardlaw6_Same_k5 C L G h0) .ret (jacquardlaw6_Same_x3_0 b4 h) =
    some ([(.c (.bool b4))], h) := by kernel_rfl
theorem jacquardlaw6_Same_e3_3 (C : CallF) (L : LoopF) (G : Glo) (h0 : AHeap) (h : AHeap) :
    (jacquardlaw6_Same_k5 C L G h0) (.exit 2) (jacquardlaw6_Same_x3_3 h) =
    some ([(.c (.bool true))], h) := by kernel_rfl
theorem jacquardlaw6_Same_e1_1 (C : CallF) (L : LoopF) (G : Glo) (h0 : AHeap) (s0 : List Cell) (s1 : List Cell) (h : AHeap) :
    (jacquardlaw6_Same_k3 C L G h0) (.exit 0) (jacquardlaw6_Same_x1_1 s0 s1 h) =
    (L (jacquardlaw6_Same_F3 C L G) (jacquardlaw6_Same_s3 0 s0 s1 h)).bind fun p_79 => (jacquardlaw6_Same_k5 C L G h0) p_79.1 p_79.2 := by kernel_rfl
set_option maxRecDepth 100000 in
theorem jacquardlaw6_Same_eq (C : CallF) (L : LoopF) (G : Glo) (l0 : List Cell) (l1 : List Cell) (h0 : AHeap) :
    jacquardlaw6_Same.body C L G [(.agg l0), (.agg l1)] h0 =
    atK l0 0 fun q_1 => (slCells h0 1 q_1).bind fun l_2 => (bytesOf l_2).bind fun l_3 => atK l1 0 fun q_4 => (slCells h0 1 q_4).bind fun l_5 => (bytesOf l_5).bind fun l_6 => scK (!(ByteArray.toList (ByteArray.mk l_3.toArray) == ByteArray.toList (ByteArray.mk l_6.toArray))) false (atK l0 1 fun q_7 => lenK q_7 fun n_8 => atK l1 1 fun q_9 => lenK q_9 fun n_10 => some ((n_8 != n_10), h0)) true h0 fun b_11 h_12 => scK b_11 false (atK l0 2 fun q_13 => lenK q_13 fun n_14 => atK l1 2 fun q_15 => lenK q_15 fun n_16 => some ((n_14 != n_16), h_12)) true h_12 fun b_17 h_18 => if b_17 = true then some ([(.c (.bool false))], h_18) else (L (jacquardlaw6_Same_F1 C L G) (jacquardlaw6_Same_s1 0 l0 l1 h_18)).bind fun p_80 => (jacquardlaw6_Same_k3 C L G h0) p_80.1 p_80.2 := by kernel_rfl

/- jacquard/jacquardlaw6.ProgCompiles: 231 -/
def jacquardlaw6_ProgCompiles_k2 (C : CallF) (L : LoopF) (G : Glo) (h0 : AHeap) : Ex → St → Option (List AV × AHeap) :=
  kSeq (fun st => jacquardlaw6_ProgCompiles_p1.exec C L G st (jacquardlaw6_ProgCompiles.fin G h0)) (jacquardlaw6_ProgCompiles.fin G h0)
def jacquardlaw6_ProgCompiles_k3 (C : CallF) (L : LoopF) (G : Glo) (h0 : AHeap) : Ex → St → Option (List AV × AHeap) :=
  kBlk 0 (jacquardlaw6_ProgCompiles_k2 C L G h0)
def jacquardlaw6_ProgCompiles_s1 (a6 : Int) (s0 : List Cell) (s1 : List Cell) (h : AHeap) : St := ⟨[.top, .top, .loc 0 0, .top, .top, .loc 1 0, .v (.c (.int .i64 a6)), .top, .top, .top, .top, .top, .top, .top, .top, .top, .top, .top, .top, .top, .top, .top, .top, .top, .top, .top, .top, .top, .top, .top, .top, .top, .top, .top, .top, .top, .top, .top, .top, .top, .top, .top, .top, .top, .top, .top, .top, .top, .top, .top, .top, .top, .top, .top, .top, .top, .top, .top, .top, .top, .top, .top, .top, .top], [some s0, some s1, none], h⟩
def jacquardlaw6_ProgCompiles_F1 (C : CallF) (L : LoopF) (G : Glo) : St → Option (Ex × St) :=
  roundF (fun st f => jacquardlaw6_ProgCompiles_b1.exec C L G st f) [2, 5, 6] [0, 1] [(0, [4], []), (1, [], [])]
def jacquardlaw6_ProgCompiles_k4 (C : CallF) (L : LoopF) (G : Glo) : Ex → St → Option (Ex × St) :=
  kSeq (fun st => jacquardlaw6_ProgCompiles_p2.exec C L G st (kLoop [2, 5, 6] [0, 1] [(0, [4], []), (1, [], [])])) (kLoop [2, 5, 6] [0, 1] [(0, [4], []), (1, [], [])])
def jacquardlaw6_ProgCompiles_k5 (C : CallF) (L : LoopF) (G : Glo) : Ex → St → Option (Ex × St) :=
  kBlk 1 (jacquardlaw6_ProgCompiles_k4 C L G)
def jacquardlaw6_ProgCompiles_k6 (C : CallF) (L : LoopF) (G : Glo) : Ex → St → Option (Ex × St) :=
  kSeq (fun st => jacquardlaw6_ProgCompiles_p3.exec C L G st (jacquardlaw6_ProgCompiles_k5 C L G)) (jacquardlaw6_ProgCompiles_k5 C L G)
def jacquardlaw6_ProgCompiles_c1 (a6 : Int) (s0 : List Cell) (s1 : List Cell) (h : AHeap) : St := ⟨[.top, .top, .loc 0 0, .top, .top, .loc 1 0, .v (.c (.int .i64 a6)), .top, .top, .top, .top, .top, .top, .top, .top, .top, .top, .top, .top, .top, .top, .top, .top, .top, .top, .top, .top, .top, .top, .top, .top, .top, .top, .top, .top, .top, .top, .top, .top, .top, .top, .top, .top, .top, .top, .top, .top, .top, .top, .top, .top, .top, .top, .top, .top, .top, .top, .top, .top, .top, .top, .top, .top, .top], [some s0, some s1, none], h⟩
def jacquardlaw6_ProgCompiles_x1_0 (b4 : Bool) (h : AHeap) : St := ⟨[.top, .top, .top, .top, .v (.c (.bool b4)), .top, .top, .top, .top, .top, .top, .top, .top, .top, .top, .top, .top, .top, .top, .top, .top, .top, .top, .top, .top, .top, .top, .top, .top, .top, .top, .top, .top, .top, .top, .top, .top, .top, .top, .top, .top, .top, .top, .top, .top, .top, .top, .top, .top, .top, .top, .top, .top, .top, .top, .top, .top, .top, .top, .top, .top, .top, .top, .top], [none, none, none], h⟩
def jacquardlaw6_ProgCompiles_x1_1 (h : AHeap) : St := ⟨[.top, .top, .top, .top, .top, .top, .top, .top, .top, .top, .top, .top, .top, .top, .top, .top, .top, .top, .top, .top, .top, .top, .top, .top, .top, .top, .top, .top, .top, .top, .top, .top, .top, .top, .top, .top, .top, .top, .top, .top, .top, .top, .top, .top, .top, .top, .top, .top, .top, .top, .top, .top, .top, .top, .top, .top, .top, .top, .top, .top, .top, .top, .top, .top], [none, none, none], h⟩
theorem jacquardlaw6_ProgCompiles_ec1_n (C : CallF) (L : LoopF) (G : Glo) (a6 : Int) (s0 : List Cell) (s1 : List Cell) (h : AHeap) :
    (jacquardlaw6_ProgCompiles_k6 C L G) .normal (jacquardlaw6_ProgCompiles_c1 a6 s0 s1 h) =
    if 0 = 0 ∧ s0.length = 5 then c2 (C 98 [(.agg s0)] h) fun y_11 y_12 h_10 => asA y_11 fun l_13 => asI .i64 y_12 fun n_14 => if 0 = 0 ∧ [Cell.nils, Cell.nils, Cell.nils].length = 3 ∧ l_13.length = 3 then if 0 = 0 ∧ s0.length = 5 then c1 (C 99 [(.agg s0)] h_10) fun y_16 h_15 => asI .i64 y_16 fun n_17 => scK (n_14 != n_17) false (scK (n_17 != 0) true (if 0 = 0 ∧ l_13.length = 3 then c1 (qh h_15 (C 100 [(.agg l_13), (.agg [Cell.nils, Cell.nils, Cell.nils])] h_15)) fun y_19 h_18 => asB y_19 fun b_20 => some ((!b_20), h_15) else none) false h_15 fun b_21 h_22 => some (b_21, h_22)) true h_15 fun b_23 h_24 => scK b_23 false (scK (n_17 == 0) true (if 0 = 0 ∧ l_13.length = 3 then if 0 = 0 ∧ s0.length = 5 then c1 (C 101 [(.agg s0)] h_24) fun y_26 h_25 => asA y_26 fun l_27 => c1 (qh h_25 (C 100 [(.agg l_13), (.agg l_27)] h_25)) fun y_29 h_28 => asB y_29 fun b_30 => some ((!b_30), h_25) else none else none) false h_24 fun b_31 h_32 => some (b_31, h_32)) true h_24 fun b_33 h_34 => if b_33 = true then some (.ret, (jacquardlaw6_ProgCompiles_x1_0 false h_34)) else scK (n_17 == 0) true (if 0 = 0 ∧ l_13.length = 3 then c1 (qh h_34 (C 102 [(.agg l_13)] h_34)) fun y_36 h_35 => asI .i64 y_36 fun n_37 => if 0 = 0 ∧ l_13.length = 3 then c1 (qh h_34 (C 103 [(.agg l_13)] h_34)) fun y_39 h_38 => asI .i64 y_39 fun n_40 => some ((n_37 != n_40), h_34) else none else none) false h_34 fun b_41 h_42 => if b_41 = true then some (.ret, (jacquardlaw6_ProgCompiles_x1_0 false h_42)) else some (.normal, (jacquardlaw6_ProgCompiles_s1 (G.wrap .i64 (a6 + 1)) s0 s1 h_42)) else none else none else none := by kernel_rfl
theorem jacquardlaw6_ProgCompiles_r1 (C : CallF) (L : LoopF) (G : Glo) (a6 : Int) (s0 : List Cell) (s1 : List Cell) (h : AHeap) :
    jacquardlaw6_ProgCompiles_F1 C L G (jacquardlaw6_ProgCompiles_s1 a6 s0 s1 h) =
    if (decide (a6 < 2)) = true then (if (a6 == 1) = true then if 0 = 0 ∧ s1.length = 5 then if 0 = 0 ∧ s0.length = 5 ∧ s1.length = 5 then some (.normal, (jacquardlaw6_ProgCompiles_c1 a6 s1 s1 h)) else none else none else some (.normal, (jacquardlaw6_ProgCompiles_c1 a6 s0 s1 h)) : Option (Ex × St)).bind fun p_43 => (jacquardlaw6_ProgCompiles_k6 C L G) p_43.1 p_43.2 else some ((.exit 0), (jacquardlaw6_ProgCompiles_x1_1 h)) := by kernel_rfl
theorem jacquardlaw6_ProgCompiles_e1_0 (C : CallF) (L : LoopF) (G : Glo) (h0 : AHeap) (b4 : Bool) (h : AHeap) :
    (jacquardlaw6_ProgCompiles_k3 C L G h0) .ret (jacquardlaw6_ProgCompiles_x1_0 b4 h) =
    some ([(.c (.bool b4))], h) := by kernel_rfl
theorem jacquardlaw6_ProgCompiles_e1_1 (C : CallF) (L : LoopF) (G : Glo) (h0 : AHeap) (h : AHeap) :
    (jacquardlaw6_ProgCompiles_k3 C L G h0) (.exit 0) (jacquardlaw6_ProgCompiles_x1_1 h) =
    c1 (C 95 [] h) fun y_45 h_44 => asB y_45 fun b_46 => some ([(.c (.bool b_46))], h_44) := by kernel_rfl
set_option maxRecDepth 100000 in
theorem jacquardlaw6_ProgCompiles_eq (C : CallF) (L : LoopF) (G : Glo) (l0 : List Cell) (x1 : Cell) (h0 : AHeap) :
    jacquardlaw6_ProgCompiles.body C L G [(.agg l0), (.c x1)] h0 =
    if 0 = 0 ∧ l0.length = 5 then c1 (C 96 [(.agg l0)] h0) fun y_2 h_1 => asB y_2 fun b_3 => if (!b_3) = true then c1 (C 95 [] h_1) fun y_5 h_4 => asB y_5 fun b_6 => some ([(.c (.bool b_6))], h_4) else c1 (C 97 [(.c x1), (.c (.int .i64 12))] h_1) fun y_8 h_7 => asA y_8 fun l_9 => if 0 = 0 ∧ [Cell.str (ByteArray.mk #[]), Cell.nils, Cell.nils, Cell.int .i64 0, Cell.nils].length = 5 ∧ l_9.length = 5 then (L (jacquardlaw6_ProgCompiles_F1 C L G) (jacquardlaw6_ProgCompiles_s1 0 l0 l_9 h_7)).bind fun p_47 => (jacquardlaw6_ProgCompiles_k3 C L G h0) p_47.1 p_47.2 else none else none := by kernel_rfl


end Jq

/- Tests made of numbers, and their programs. -/
namespace Jq
open Go

section
variable {E : Env}

def tName : ByteArray := ByteArray.mk #[116]

theorem small_end (hE : jacquardlaw3_Small_1_In E) {h0 h hb : AHeap} {x : Cell} {l : List Int} (hx : SlAt h0 x 1 (intC .i64 l) l.length) (hlow : Low h0.length x) (hl : l.length < 9223372036854775808) {m : Nat} (hv : VarsAt h0 x h m) (hm : m < 1000)
    {most : Nat} {rows : List (List Ins)} {a y : Cell} {inits : List (Int × Int)} {Nb : Nat} (hNb : h0.length + 2 ≤ Nb) (hN : Nb ≤ h.length) (hy : RowsOwn 9 codeC Nb h y rows) (ha : SlAt h a 2 (pairC inits) inits.length ∧ Low h.length a ∧ ∀ k, isBlk a k → k ≠ h0.length + 1)
    (hi : inits = [] ∨ ∃ v : Int, 0 ≤ v ∧ v < 3 ∧ inits = [(120, v)]) (hn : 2 ≤ rows.length ∧ rows.length ≤ 3) (hmem : (rows.map memC).sum ≤ most) (hc : ∃ L : Int, (L = 2 ∨ L = 3) ∧ ∀ c ∈ rows, ∃ k, k ≤ 3 ∧ ThrOk L k c) {s0 : List Cell} (hs0 : s0.length = 5) :
    ∃ (cs : List Cell) (h' : AHeap) (T : PTest), (jacquardlaw3_Small_k4 (R E) Lim E.glob hb) (.exit 0) (jacquardlaw3_Small_x2_1 (nxF h0) s0 [.str tName, a, y, .int .i64 0, .nils] h) = some ([.agg cs], h') ∧ TestAt h' cs T ∧ GoodT most T ∧ Kp h0.length h0 h' := by
  obtain ⟨r, r0, r1, hF, hv2⟩ := next_R hE hx hlow hl hv (by omega)
  have hset := KpX.set (h0.length + 1) h.length h (some ⟨true, 0, [.int .i64 ((m + 1 : Nat) : Int)]⟩)
  have hy2 := hy.keepX (show h0.length + 1 < Nb by omega) hset
  have ha2 : SlAt (setBlk h (h0.length + 1) (some ⟨true, 0, [.int .i64 ((m + 1 : Nat) : Int)]⟩)) a 2 (pairC inits) inits.length := by
    refine ⟨ha.1.1, ha.1.2.imp id ?_⟩
    rintro ⟨k, N, off, e, hh | ⟨b, hb, hN, hle, hat⟩⟩
    · exact ⟨k, N, off, e, .inl hh⟩
    · have hk := ha.2.2 k (by rw [e]; rfl)
      exact ⟨k, N, off, e, .inr ⟨b, by rw [blk_set_ne (fun q => hk q.symm)]; exact hb, hN, hle, hat⟩⟩
  have hal2 : Low (setBlk h (h0.length + 1) (some ⟨true, 0, [.int .i64 ((m + 1 : Nat) : Int)]⟩)).length a := by rw [setBlk_len]; exact ha.2.1
  rw [jacquardlaw3_Small_e2_1, hF, asI_ok]
  generalize setBlk h (h0.length + 1) (some ⟨true, 0, [.int .i64 ((m + 1 : Nat) : Int)]⟩) = H at *
  have q5 := rem_rng (E := E) (shr_nn (E := E) (k := 5) r0) (show (0 : Int) < 3 by omega)
  by_cases h3 : (E.glob.rem .i64 r 3 == 0) = true
  · rw [if_pos h3]
    dsimp only
    generalize E.glob.band .i64 (E.glob.shr .i64 r 3) 1 = b3
    generalize E.glob.band .i64 (E.glob.shr .i64 r 4) 1 = b4
    generalize E.glob.rem .i64 (E.glob.shr .i64 r 5) 3 = v5
    generalize E.glob.band .i64 (E.glob.shr .i64 r 7) 1 = b7
    generalize E.glob.wrap .i64 (E.glob.rem .i64 (E.glob.quo .i64 r 3) 2 + 1) = ck
    have e1 : splice (splice (splice [Cell.int .i64 0, Cell.int .i64 0, Cell.int .i64 0, Cell.int .i64 0] 0 ([(.int .i64 0)] : List Cell)) 1 ([(.int .i64 b3)] : List Cell)) 3 ([(.int .i64 b4)] : List Cell) = (Atm.mk 0 b3 0 b4).cs := rfl
    have e2 : splice (splice (splice [Cell.int .i64 0, Cell.int .i64 0, Cell.int .i64 0, Cell.int .i64 0] 0 ([(.int .i64 (-1))] : List Cell)) 2 ([(.int .i64 120)] : List Cell)) 3 ([(.int .i64 v5)] : List Cell) = (Atm.mk (-1) 0 120 v5).cs := rfl
    have e3 : splice (splice (splice [Cell.int .i64 0, Cell.int .i64 0, Cell.int .i64 0, Cell.int .i64 0] 0 ([(.int .i64 1)] : List Cell)) 1 ([(.int .i64 0)] : List Cell)) 3 ([(.int .i64 b7)] : List Cell) = (Atm.mk 1 0 0 b7).cs := rfl
    have e4 : ∀ a : Atm, splice [Cell.int .i64 0, Cell.int .i64 0, Cell.int .i64 0, Cell.int .i64 0] 0 a.cs = atmC [a] := fun _ => rfl
    have e5 : ∀ a b : Atm, splice (splice (List.replicate 8 (Cell.int .i64 0)) 0 a.cs) 4 b.cs = atmC [a, b] := fun _ _ => rfl
    have e6 : ∀ a b : Cell, splice (splice [Cell.nils, Cell.nils] 0 ([a] : List Cell)) 1 ([b] : List Cell) = [a, b] := fun _ _ => rfl
    have e7 : ∀ a b : Cell, splice (splice [Cell.int .i64 0, Cell.nils] 0 ([a] : List Cell)) 1 ([b] : List Cell) = [a, b] := fun _ _ => rfl
    have l1 : ∀ a : Atm, (atmC [a]).length = 4 := fun _ => rfl
    have l2 : ∀ a b : Atm, (atmC [a, b]).length = 8 := fun _ _ => rfl
    simp only [e1, e2, e3, e4, e5, e6, e7, l1, l2]
    rw [if_pos ⟨rfl, by simp⟩, if_pos trivial, if_pos ⟨rfl, by simp⟩, if_pos ⟨rfl, by simp [splice, Atm.cs]⟩, if_pos trivial, if_pos (by simp), if_pos (by simp), if_pos (by simp [splice]), if_pos (by simp [splice, hs0]), if_pos (by simp [splice])]
    have k1 : Kp H.length H (H ++ [some ⟨true, 4, atmC [⟨0, b3, 0, b4⟩]⟩]) := Kp.app _ (Nat.le_refl _)
    have n1 : (H ++ [some (Blk.mk true 4 (atmC [⟨0, b3, 0, b4⟩]))]).length = H.length + 1 := by simp
    have c1' : blk? (H ++ [some ⟨true, 4, atmC [⟨0, b3, 0, b4⟩]⟩]) H.length = some ⟨true, 4, atmC [⟨0, b3, 0, b4⟩]⟩ := blk_new _ _
    generalize H ++ [some (Blk.mk true 4 (atmC [⟨0, b3, 0, b4⟩]))] = H1 at *
    have k2 : Kp H.length H (H1 ++ [some ⟨true, 4, atmC [⟨-1, 0, 120, v5⟩, ⟨1, 0, 0, b7⟩]⟩]) := k1.trans (Kp.app _ (by omega))
    have n2 : (H1 ++ [some (Blk.mk true 4 (atmC [⟨-1, 0, 120, v5⟩, ⟨1, 0, 0, b7⟩]))]).length = H1.length + 1 := by simp
    have c2' : blk? (H1 ++ [some ⟨true, 4, atmC [⟨-1, 0, 120, v5⟩, ⟨1, 0, 0, b7⟩]⟩]) H1.length = some ⟨true, 4, atmC [⟨-1, 0, 120, v5⟩, ⟨1, 0, 0, b7⟩]⟩ := blk_new _ _
    have c1'' : blk? (H1 ++ [some ⟨true, 4, atmC [⟨-1, 0, 120, v5⟩, ⟨1, 0, 0, b7⟩]⟩]) H.length = some ⟨true, 4, atmC [⟨0, b3, 0, b4⟩]⟩ := blk_old c1' _
    generalize H1 ++ [some (Blk.mk true 4 (atmC [⟨-1, 0, 120, v5⟩, ⟨1, 0, 0, b7⟩]))] = H2 at *
    have k3 : Kp H.length H (H2 ++ [some ⟨true, 1, [Cell.sl H.length 4 0 1, Cell.sl H1.length 8 0 2]⟩]) := k2.trans (Kp.app _ (by omega))
    have c3' : blk? (H2 ++ [some ⟨true, 1, [Cell.sl H.length 4 0 1, Cell.sl H1.length 8 0 2]⟩]) H2.length = some ⟨true, 1, [Cell.sl H.length 4 0 1, Cell.sl H1.length 8 0 2]⟩ := blk_new _ _
    have c2'' : blk? (H2 ++ [some ⟨true, 1, [Cell.sl H.length 4 0 1, Cell.sl H1.length 8 0 2]⟩]) H1.length = some ⟨true, 4, atmC [⟨-1, 0, 120, v5⟩, ⟨1, 0, 0, b7⟩]⟩ := blk_old c2' _
    have c1''' : blk? (H2 ++ [some ⟨true, 1, [Cell.sl H.length 4 0 1, Cell.sl H1.length 8 0 2]⟩]) H.length = some ⟨true, 4, atmC [⟨0, b3, 0, b4⟩]⟩ := blk_old c1'' _
    have n3 : (H2 ++ [some (Blk.mk true 1 [Cell.sl H.length 4 0 1, Cell.sl H1.length 8 0 2])]).length = H2.length + 1 := by simp
    refine ⟨_, _, ⟨tName, inits, rows, ck, [[⟨0, b3, 0, b4⟩], [⟨-1, 0, 120, v5⟩, ⟨1, 0, 0, b7⟩]]⟩, rfl, ?_, ⟨(by show tName.size ≤ 20; decide), hn, hc, hmem, hi, by simp, ?_⟩, hv2.2.2.2.trans (k3.mono (by have := hv2.2.2.1; omega))⟩
    · refine ⟨a, y, .sl H2.length 2 0 2, by simp [splice], ⟨ha2.keep hal2 k3, Low_mono k3.1 hal2⟩, hy2.of.keep k3, ⟨[Cell.sl H.length 4 0 1, Cell.sl H1.length 8 0 2], ⟨rfl, .inr ⟨_, _, 0, rfl, .inr ⟨_, c3', rfl, by simp, fun j _ => by simp⟩⟩⟩, .inr (by omega), fun t r ht => ?_⟩⟩
      match t, ht with
      | 0, ht =>
        cases ht
        exact ⟨_, rfl, ⟨rfl, .inr ⟨_, _, 0, rfl, .inr ⟨_, c1''', rfl, by simp, fun j _ => by simp⟩⟩⟩, .inr (by omega)⟩
      | 1, ht =>
        cases ht
        exact ⟨_, rfl, ⟨rfl, .inr ⟨_, _, 0, rfl, .inr ⟨_, c2'', rfl, by simp, fun j _ => by simp⟩⟩⟩, .inr (by omega)⟩
      | t + 2, ht => simp at ht
    · intro row hr
      simp only [List.mem_cons, List.not_mem_nil, or_false] at hr
      rcases hr with rfl | rfl
      · exact ⟨by simp, fun a ha => by simp at ha; subst ha; exact .inl rfl⟩
      · refine ⟨by simp, fun a ha => ?_⟩
        simp at ha
        rcases ha with rfl | rfl
        · exact .inr rfl
        · exact .inl rfl
  · rw [if_neg h3, if_pos ⟨rfl, rfl⟩, if_pos ⟨rfl, hs0, rfl⟩, if_pos ⟨rfl, rfl⟩]
    refine ⟨_, _, ⟨tName, inits, rows, 0, []⟩, rfl, ⟨a, y, .nils, rfl, ⟨ha2, hal2⟩, hy2.of, ⟨[], ⟨rfl, .inl ⟨rfl, rfl⟩⟩, trivial, fun t r ht => by simp at ht⟩⟩, ⟨(by show tName.size ≤ 20; decide), hn, hc, hmem, hi, by simp, by simp⟩, hv2.2.2.2⟩

theorem Small_R (hE : jacquardlaw3_Small_In E) {h : AHeap} {x : Cell} {l : List Int} (hx : SlAt h x 1 (intC .i64 l) l.length) (hlow : Low h.length x) (hl : l.length < 9223372036854775808) {most : Nat} (hmost : most ≤ 900) :
    ∃ (cs : List Cell) (h' : AHeap) (T : PTest), R E 97 [.c x, .c (.int .i64 (most : Int))] h = some ([.agg cs], h') ∧ TestAt h' cs T ∧ GoodT most T ∧ Kp h.length h h' := by
  suffices hs : ∃ (cs : List Cell) (h' : AHeap) (T : PTest), jacquardlaw3_Small.body (R E) Lim E.glob [.c x, .c (.int .i64 (most : Int))] h = some ([.agg cs], h') ∧ TestAt h' cs T ∧ GoodT most T ∧ Kp h.length h h' by
    obtain ⟨cs, h', T, h1, h2⟩ := hs; exact ⟨cs, h', T, R_intro hE.fn h1, h2⟩
  have hc : AV.cells (.c x) = [x] := rfl
  have hl1 : ([x] : List Cell).length = 1 := rfl
  have hl0 : ([Cell.int .i64 0] : List Cell).length = 1 := rfl
  have hln : (h ++ [some (Blk.mk true 0 [x])]).length = h.length + 1 := by simp
  have hnm : splice [Cell.str (ByteArray.mk #[]), Cell.nils, Cell.nils, Cell.int .i64 0, Cell.nils] 0 ([(.str (ByteArray.mk #[116]))] : List Cell) = [.str tName, .nils, .nils, .int .i64 0, .nils] := rfl
  rw [jacquardlaw3_Small_eq, hc, hl1, hl0, hnm, if_pos ⟨rfl, rfl, rfl⟩, rd1' (blk_new _ _), if_pos (by simp), putH_ok (blk_new _ _) rfl, setBlk_last]
  dsimp only [List.set]
  rw [hln]
  have hv0 : VarsAt h x (h ++ [some ⟨true, 0, [x]⟩] ++ [some ⟨true, 0, [Cell.int .i64 0]⟩]) 0 := by
    refine ⟨blk_old (blk_new _ _) _, ?_, by simp, ?_⟩
    · have := blk_new (h ++ [some (Blk.mk true 0 [x])]) ⟨true, 0, [Cell.int .i64 0]⟩
      rw [hln] at this; exact this
    · rw [List.append_assoc]; exact Kp.app _ (Nat.le_refl _)
  have hlen0 : (h ++ [some (Blk.mk true 0 [x])] ++ [some (Blk.mk true 0 [Cell.int .i64 0])]).length = h.length + 2 := by simp
  generalize h ++ [some (Blk.mk true 0 [x])] ++ [some (Blk.mk true 0 [Cell.int .i64 0])] = H0 at *
  rw [show (Cell.fn 115 [(h.length + 1, 1, 0), (h.length, 1, 0)]) = nxF h from rfl]
  obtain ⟨a0, a0p, _, hF1, hv1⟩ := next_R hE.c115 hx hlow hl hv0 (by omega)
  rw [hF1, asI_ok]
  have hlen1 : (setBlk H0 (h.length + 1) (some ⟨true, 0, [.int .i64 ((0 + 1 : Nat) : Int)]⟩)).length = h.length + 2 := by rw [setBlk_len, hlen0]
  generalize setBlk H0 (h.length + 1) (some ⟨true, 0, [.int .i64 ((0 + 1 : Nat) : Int)]⟩) = H1 at *
  obtain ⟨a1, a1p, _, hF2, hv2⟩ := next_R hE.c115 hx hlow hl hv1 (by omega)
  rw [hF2, asI_ok]
  have hlen2 : (setBlk H1 (h.length + 1) (some ⟨true, 0, [.int .i64 ((0 + 1 + 1 : Nat) : Int)]⟩)).length = h.length + 2 := by rw [setBlk_len, hlen1]
  generalize setBlk H1 (h.length + 1) (some ⟨true, 0, [.int .i64 ((0 + 1 + 1 : Nat) : Int)]⟩) = H2 at *
  obtain ⟨a2, a2p, _, hF3, hv3⟩ := next_R hE.c115 hx hlow hl hv2 (by omega)
  rw [hF3, asI_ok]
  have hlen3 : (setBlk H2 (h.length + 1) (some ⟨true, 0, [.int .i64 ((0 + 1 + 1 + 1 : Nat) : Int)]⟩)).length = h.length + 2 := by rw [setBlk_len, hlen2]
  generalize setBlk H2 (h.length + 1) (some ⟨true, 0, [.int .i64 ((0 + 1 + 1 + 1 : Nat) : Int)]⟩) = H3 at *
  have n2 := rem_rng (E := E) a0p (show (0 : Int) < 2 by omega)
  have n3 := rem_rng (E := E) a1p (show (0 : Int) < 2 by omega)
  have w2 : E.glob.wrap .i64 (E.glob.rem .i64 a0 2 + 2) = E.glob.rem .i64 a0 2 + 2 := g_wrap_i64 (by omega) (by omega)
  have w3 : E.glob.wrap .i64 (E.glob.rem .i64 a1 2 + 2) = E.glob.rem .i64 a1 2 + 2 := g_wrap_i64 (by omega) (by omega)
  rw [w2, w3]
  obtain ⟨n, hn⟩ : ∃ n : Nat, E.glob.rem .i64 a0 2 + 2 = (n : Int) := ⟨(E.glob.rem .i64 a0 2 + 2).toNat, by omega⟩
  generalize hLL : E.glob.rem .i64 a1 2 + 2 = L at *
  rw [hn]
  -- what is there from the loops on
  have rest : ∀ (m : Nat) (H : AHeap) (a : Cell) (inits : List (Int × Int)), m ≤ 4 → VarsAt h x H m → SlAt H a 2 (pairC inits) inits.length → Low H.length a → (∀ k, isBlk a k → k ≠ h.length + 1) → (inits = [] ∨ ∃ v : Int, 0 ≤ v ∧ v < 3 ∧ inits = [(120, v)]) →
      ∃ (cs : List Cell) (h' : AHeap) (T : PTest), (jacquardlaw3_Small_k2 (R E) Lim E.glob h) .normal (jacquardlaw3_Small_c1 (most : Int) (nxF h) (n : Int) L [Cell.str (ByteArray.mk #[]), Cell.nils, Cell.nils, Cell.int .i64 0, Cell.nils] [.str tName, a, .nils, .int .i64 0, .nils] H) = some ([.agg cs], h') ∧ TestAt h' cs T ∧ GoodT most T ∧ Kp h.length h h' := by
    intro m H a inits hm hv ha hal had hi
    obtain ⟨mem', m', rows', y', H', f1, f2, f3, f4, f5, f6, f7, f8, f9, f10⟩ := small_thrs hE.c115 hx hlow hl hmost (n := n) (by omega) (L := L) (by omega) [Cell.str (ByteArray.mk #[]), Cell.nils, Cell.nils, Cell.int .i64 0, Cell.nils] a (name := tName) (Nb := H.length) hv.2.2.1 n 0 0 m [] .nils H (by omega) rfl (by omega) (by omega) rfl (by simp) hv (Nat.le_refl _) (RowsOwn.nil _)
    have ha' : SlAt H' a 2 (pairC inits) inits.length := by
      refine ⟨ha.1, ha.2.imp id ?_⟩
      rintro ⟨k, N, off, e, hh | ⟨b, hb, hN, hle, hat⟩⟩
      · exact ⟨k, N, off, e, .inl hh⟩
      · exact ⟨k, N, off, e, .inr ⟨b, by rw [f10.blk (blk_lt' hb) (had k (by rw [e]; rfl))]; exact hb, hN, hle, hat⟩⟩
    obtain ⟨cs, h', T, g1, g2, g3, g4⟩ := small_end hE.c115 (hb := h) hx hlow hl f6 (by omega) (most := most) (rows := rows') (a := a) (y := y') (inits := inits) (Nb := H.length) hv.2.2.1 f8 f9 ⟨ha', Low_mono f10.1 hal, had⟩ hi (by omega) (by omega) ⟨L, by omega, f5⟩ (s0 := [Cell.str (ByteArray.mk #[]), Cell.nils, Cell.nils, Cell.int .i64 0, Cell.nils]) rfl
    refine ⟨cs, h', T, ?_, g2, g3, g4⟩
    rw [jacquardlaw3_Small_ec1_n]
    have e0 : jacquardlaw3_Small_s2 (most : Int) (nxF h) (n : Int) L 0 0 [Cell.str (ByteArray.mk #[]), Cell.nils, Cell.nils, Cell.int .i64 0, Cell.nils] [.str tName, a, .nils, .int .i64 0, .nils] H = jacquardlaw3_Small_s2 (most : Int) (nxF h) (n : Int) L ((0 : Nat) : Int) ((0 : Nat) : Int) [Cell.str (ByteArray.mk #[]), Cell.nils, Cell.nils, Cell.int .i64 0, Cell.nils] [.str tName, a, .nils, .int .i64 0, .nils] H := rfl
    rw [e0, f1, bind_ok, g1]
  by_cases h4 : (E.glob.rem .i64 a2 4 == 0) = true
  · obtain ⟨a3, a3p, _, hF4, hv4⟩ := next_R hE.c115 hx hlow hl hv3 (by omega)
    have q3 := rem_rng (E := E) a3p (show (0 : Int) < 3 by omega)
    rw [if_pos h4, show ∀ {α : Type} (f : Cell → Option α), atK [Cell.str tName, .nils, .nils, .int .i64 0, .nils] 1 f = f .nils from fun _ => rfl, hF4, asI_ok]
    have hlen4 : (setBlk H3 (h.length + 1) (some ⟨true, 0, [.int .i64 ((0 + 1 + 1 + 1 + 1 : Nat) : Int)]⟩)).length = h.length + 2 := by rw [setBlk_len, hlen3]
    generalize setBlk H3 (h.length + 1) (some ⟨true, 0, [.int .i64 ((0 + 1 + 1 + 1 + 1 : Nat) : Int)]⟩) = H4 at *
    generalize E.glob.rem .i64 a3 3 = v at *
    have e1 : splice (splice [Cell.int .i64 0, Cell.int .i64 0] 0 ([(.int .i64 120)] : List Cell)) 1 ([(.int .i64 v)] : List Cell) = pairC [(120, v)] := rfl
    have e2 : splice [Cell.int .i64 0, Cell.int .i64 0] 0 (pairC [(120, v)]) = pairC [(120, v)] := rfl
    have hm : maxBytes ≥ 100 := by unfold maxBytes; omega
    have hap : ∀ {α : Type} (f : Cell → AHeap → Option α), appK 2 16 .nils (pairC [(120, v)]) H4 f = f (.sl H4.length 2 0 1) (H4 ++ [some ⟨true, 2, pairC [(120, v)]⟩]) := by
      intro α f
      unfold appK
      simp only
      rw [if_neg (by simp [pairC]), if_pos ⟨by simp [pairC]; omega, by simp [pairC]; omega⟩]
      simp [pairC]
    rw [e1, if_pos ⟨rfl, by simp⟩, e2, if_pos (show (pairC [(120, v)]).length = 1 * 2 from rfl), hap, if_pos (by simp), bind_ok]
    have hv5 : VarsAt h x (H4 ++ [some ⟨true, 2, pairC [(120, v)]⟩]) (0 + 1 + 1 + 1 + 1) := hv4.keep (Kp.app _ (by omega))
    exact rest (0 + 1 + 1 + 1 + 1) _ (.sl H4.length 2 0 1) [(120, v)] (by omega) hv5 ⟨rfl, .inr ⟨_, _, 0, rfl, .inr ⟨_, blk_new _ _, rfl, by simp, fun j _ => by simp⟩⟩⟩ (.inr (by simp)) (fun k hk => by have : H4.length = k := hk; omega) (.inr ⟨v, q3.1, q3.2, rfl⟩)
  · rw [if_neg h4, bind_ok]
    exact rest (0 + 1 + 1 + 1) _ .nils [] (by omega) hv3 ⟨rfl, .inl ⟨rfl, rfl⟩⟩ trivial (fun k hk => by cases hk) (.inl rfl)

end
end Jq

/- Laws of events: kinds, orders. -/
namespace Jq
open Go

section
variable {E : Env}

end
end Jq

/- Laws of events: kinds, orders. -/
namespace Jq
open Go

section
variable {E : Env}

/-- A row of a block of its own. -/
theorem SlAt.whole {h : AHeap} {k len esz : Nat} {cs : List Cell} {o : Bool} {e : Nat} (hb : blk? h k = some ⟨o, e, cs⟩) (hl : cs.length = len * esz) : SlAt h (.sl k cs.length 0 len) esz cs len :=
  ⟨hl, .inr ⟨k, _, 0, rfl, .inr ⟨_, hb, rfl, by omega, fun j _ => by simp⟩⟩⟩

end
end Jq

/- Programs made of numbers; what a thread's events are. -/
namespace Jq
open Go

/-- Skips lead to where they may. -/
def SkipOk (code : List Ins) : Prop := ∀ (j : Nat) (i : Ins), code[j]? = some i → i.kind = 6 → 0 ≤ i.n ∧ (j : Int) + 1 + i.n ≤ code.length

structure GoodP (most : Nat) (P : PProg) : Prop where
  small : P.small
  good : P.good
  n : 2 ≤ P.thr.length ∧ P.thr.length ≤ 3
  init : P.init.length ≤ 3
  locs : P.locs.length = P.init.length
  code : ∀ c ∈ P.thr, c.length ≤ 6
  skip : ∀ c ∈ P.thr, SkipOk c

theorem SmI.good {L : Int} {i : Ins} (s : SmI L i) {n : Nat} (hn : 1 ≤ n) : GoodI n i := by
  rcases s with ⟨h1, h2, _⟩ | ⟨h1, h2, _⟩ | rfl | ⟨h1, h2, _⟩ | ⟨h1, h2, _, _, h3, _⟩ | ⟨h1, h2, _, _, h3, _, h4⟩
  all_goals refine ⟨?_, ?_, ?_, ?_⟩ <;> (try simp only) <;> omega

theorem SmI.skip {L : Int} {i : Ins} (s : SmI L i) (h : i.kind = 6) : i.n = 1 := by
  rcases s with ⟨h1, _⟩ | ⟨h1, _⟩ | rfl | ⟨h1, _⟩ | ⟨h1, _⟩ | ⟨h1, h2, _, _, h3, _, h4⟩
  · omega
  · omega
  · simp at h
  · omega
  · omega
  · exact h4

theorem ThrOk.skip {L : Int} {k : Nat} {c : List Ins} (t : ThrOk L k c) : SkipOk c := by
  induction t with
  | nil => intro j i h; simp at h
  | @one k c q t hq h6 ih =>
    intro j i h hk
    rcases Nat.lt_or_ge j c.length with hj | hj
    · rw [List.getElem?_append_left hj] at h
      have := ih j i h hk
      rw [List.length_append]; simp; omega
    · rw [List.getElem?_append_right hj] at h
      have := List.mem_of_getElem? h
      rw [List.mem_singleton] at this
      subst this; exact absurd hk h6
  | @two k c q r t hq h6 hr hr1 ih =>
    intro j i h hk
    rcases Nat.lt_or_ge j c.length with hj | hj
    · rw [List.getElem?_append_left hj] at h
      have := ih j i h hk
      rw [List.length_append]; simp; omega
    · rw [List.getElem?_append_right hj] at h
      have h2 := getI_lt h
      simp only [List.length_cons, List.length_nil] at h2
      rcases (show j - c.length = 0 ∨ j - c.length = 1 by omega) with e | e
      · rw [e] at h
        cases h
        have := hq.skip hk
        rw [List.length_append]; simp; omega
      · rw [e] at h
        cases h
        omega

theorem compI_kn {locs : List Int} {i : Ins} : (compI locs i).kind = i.kind ∧ (compI locs i).n = i.n := by
  unfold compI; split <;> exact ⟨rfl, rfl⟩

theorem SkipOk.map {locs : List Int} {c : List Ins} (s : SkipOk c) : SkipOk (c.map (compI locs)) := by
  intro j i h hk
  rw [List.getElem?_map] at h
  cases hc : c[j]? with
  | none => rw [hc] at h; cases h
  | some q =>
    rw [hc] at h
    cases h
    rw [compI_kn.1] at hk
    rw [compI_kn.2, List.length_map]
    exact s j q hc hk

theorem compI_good {locs : List Int} {i : Ins} {n : Nat} (g : GoodI n i) : GoodI n (compI locs i) := by
  unfold compI
  split
  · exact ⟨g.1, g.2, g.3, g.4⟩
  · exact g

theorem SmI.loc {L : Int} {i : Ins} (s : SmI L i) : i.loc = 0 ∨ (120 ≤ i.loc ∧ i.loc < 120 + L) := by
  rcases s with ⟨h1, h2, h3, _⟩ | ⟨h1, h2, h3, _⟩ | rfl | ⟨h1, h2, h3, _⟩ | ⟨h1, h2, h3, _, _⟩ | ⟨h1, h2, h3, _, _, _⟩
  · exact .inr h3
  · exact .inr h3
  · exact .inl rfl
  · exact .inr h3
  · exact .inl h3
  · exact .inl h3

theorem locsF_few (S : Nat → Bool) (hS : ∀ b, 97 ≤ b → b < 120 → S b = false) : ∀ n, n ≤ 26 → (locsF S n).length ≤ n - 23
  | 0, _ => by simp [locsF]
  | n + 1, h => by
    have ih := locsF_few S hS n (by omega)
    rw [locsF_succ]
    split
    · rename_i hs
      have : ¬ 97 + n < 120 := fun hlt => by rw [hS _ (by omega) hlt] at hs; cases hs
      rw [List.length_append, List.length_singleton]; omega
    · omega

theorem GoodT.small {most : Nat} {T : PTest} (g : GoodT most T) : T.small := by
  obtain ⟨L, hL, hc⟩ := g.code
  refine ⟨?_, by have := g.n; omega, fun c hcm => ?_, by have := g.any.1; omega, fun c hcm => by have := (g.any.2 c hcm).1; omega⟩
  · rcases g.inits with h | ⟨v, _, _, h⟩ <;> rw [h] <;> simp
  · obtain ⟨k, hk, ht⟩ := hc c hcm
    have := ht.len; omega

theorem GoodT.few {most : Nat} {T : PTest} (g : GoodT most T) : (locsT T).length ≤ 3 := by
  obtain ⟨L, hL, hc⟩ := g.code
  refine Nat.le_trans (locsF_few (thereT T) (fun b h1 h2 => ?_) 26 (Nat.le_refl _)) (by omega)
  unfold thereT
  rw [Bool.or_eq_false_iff, Bool.or_eq_false_iff]
  refine ⟨⟨?_, ?_⟩, ?_⟩
  · rw [List.any_eq_false]
    intro p hp
    rcases g.inits with h | ⟨v, _, _, h⟩
    · rw [h] at hp; cases hp
    · rw [h] at hp
      rw [List.mem_singleton] at hp
      subst hp
      rw [beq_iff_eq]; simp only; omega
  · rw [List.any_eq_false]
    intro c hcm
    rw [Bool.not_eq_true, List.any_eq_false]
    intro i hi
    obtain ⟨k, hk, ht⟩ := hc c hcm
    rw [beq_iff_eq]
    have := (ht.all i hi).loc
    omega
  · rw [List.any_eq_false]
    intro c hcm
    rw [Bool.not_eq_true, List.any_eq_false]
    intro i hi
    rw [beq_iff_eq]
    have := (g.any.2 c hcm).2 i hi
    omega

section
variable {E : Env}

end

/-- How many events read. -/
def rdc (l : List Evt) : Nat := l.countP evRd
def EvOk (t : Int) (all : List Int) (j n : Nat) (e : Evt) : Prop :=
  e.t = t ∧ e.i = (j : Int) ∧ 1 ≤ e.kind ∧ e.kind ≤ 5 ∧ (evWr e = false → e.w = 0) ∧ (evRd e = true → all[n]? = some e.r) ∧ (evRd e = false → e.r = 0)
def OutOk (t : Int) (all : List Int) (out : List Evt) : Prop := ∀ (j : Nat) (e : Evt), out[j]? = some e → EvOk t all j (rdc (out.take j)) e

theorem OutOk.nil (t : Int) (all : List Int) : OutOk t all [] := fun j e h => by simp at h
end Jq

/- Laws of threads step by step. -/
namespace Jq
open Go

section
variable {E : Env}

theorem Size_R (hE : prog_Size_In E) {cs : List Cell} {P : PProg} {h : AHeap} (p : ProgAt h cs P) (hs : P.small) : R E 102 [.agg cs] h = some ([.c (.int .i64 (sumL P.thr))], h) := by
  obtain ⟨a, b, c, ts, rfl, _, _, ⟨hc, _⟩, hx⟩ := p
  refine R_intro hE.fn ?_
  have a2 : ∀ {α : Type} (f : Cell → Option α), atK [a, b, c] 2 f = f c := fun _ => rfl
  have n2 := hs.1
  have loop := Lim_count (F := prog_Size_F1 (R E) Lim E.glob) (fun i => prog_Size_s1 (sumL (P.thr.take i)) c P.thr.length (i : Int) h) 0 P.thr.length (by omega) (p := (.exit 0, prog_Size_x1_1 (sumL (P.thr.take P.thr.length)) h))
    (fun i _ hi => by
      have hq : P.thr[i]? = some P.thr[i] := List.getElem?_eq_getElem hi
      generalize P.thr[i] = q at hq
      obtain ⟨y, y1, y2, y3⟩ := hx i q hq
      have hsum := sumT_le (P.thr.take i) fun c hc => hs.2 c (List.mem_of_mem_take hc)
      rw [List.length_take] at hsum
      have hql := hs.2 q (List.mem_of_getElem? hq)
      have hw : E.glob.wrap .i64 (sumL (P.thr.take i) + (q.length : Int)) = sumL (P.thr.take (i + 1)) := by
        rw [takeI_succ hq, sumL_snoc]
        unfold sumL
        exact g_wrap_i64 (by omega) (by omega)
      rw [prog_Size_r1, if_pos (by simp; omega), hc.get1 hi y1, y2.len, hw, g_succ (by omega)])
    (Lim_exit (by rw [prog_Size_r1, if_neg (by simp)]))
  rw [List.take_of_length_le (Nat.le_refl _), show sumL (P.thr.take 0) = 0 from rfl, show ((0 : Nat) : Int) = 0 from rfl] at loop
  rw [prog_Size_eq, a2, hc.len, loop, bind_ok, prog_Size_e1_1]

def T6 : PTest := ⟨ByteArray.mk #[97], [], [[⟨5, 0, 0, ⟨-1, 1⟩, 0, ⟨-1, 0⟩, 0⟩, ⟨1, 0, 120, ⟨0, 0⟩, 0, ⟨0, 0⟩, 0⟩]], 0, []⟩

theorem T6_small : T6.small := ⟨by decide, by decide, by decide, by decide, by decide⟩
theorem T6_check : checkT T6 = 0 := by decide +kernel

theorem awake6_R (hE : jacquardlaw6_awake_In E) (h : AHeap) : R E 95 [] h = some ([.c (.bool true)], h) := by
  refine R_intro hE.fn ?_
  rw [jacquardlaw6_awake_eq, if_pos (by exact ⟨rfl, Nat.le_of_ble_eq_true rfl⟩), if_pos (by exact ⟨rfl, Nat.le_of_ble_eq_true rfl⟩), if_pos (by exact ⟨rfl, Nat.le_of_ble_eq_true rfl⟩), if_pos (by exact ⟨rfl, Nat.le_of_ble_eq_true rfl⟩), if_pos (by exact ⟨rfl, Nat.le_of_ble_eq_true rfl⟩), if_pos (by exact rfl), if_pos (by exact rfl), if_pos (by exact ⟨rfl, rfl, rfl⟩), if_pos (by exact ⟨rfl, rfl⟩)]
  have p : TestAt ((h ++ [some (Blk.mk true 9 (codeC [⟨5, 0, 0, ⟨-1, 1⟩, 0, ⟨-1, 0⟩, 0⟩, ⟨1, 0, 120, ⟨0, 0⟩, 0, ⟨0, 0⟩, 0⟩]))]) ++ [some (Blk.mk true 1 [.sl h.length 18 0 2])]) [.str (ByteArray.mk #[97]), .nils, .sl (h ++ [some (Blk.mk true 9 (codeC [⟨5, 0, 0, ⟨-1, 1⟩, 0, ⟨-1, 0⟩, 0⟩, ⟨1, 0, 120, ⟨0, 0⟩, 0, ⟨0, 0⟩, 0⟩]))]).length 1 0 1, .int .i64 0, .nils] T6 := by
    refine ⟨.nils, _, .nils, rfl, ⟨⟨rfl, .inl ⟨rfl, rfl⟩⟩, trivial⟩, ⟨[.sl h.length 18 0 2], SlAt.whole (blk_new _ _) rfl, .inr (by simp), fun t r hr => ?_⟩, ⟨[], ⟨rfl, .inl ⟨rfl, rfl⟩⟩, trivial, fun t r hr => by simp [T6] at hr⟩⟩
    cases t with
    | zero =>
      cases hr
      exact ⟨_, rfl, SlAt.whole (blk_old (blk_new _ _) _) rfl, .inr (by simp)⟩
    | succ t => simp [T6] at hr
  have k0 : Kp h.length h ((h ++ [some (Blk.mk true 9 (codeC [⟨5, 0, 0, ⟨-1, 1⟩, 0, ⟨-1, 0⟩, 0⟩, ⟨1, 0, 120, ⟨0, 0⟩, 0, ⟨0, 0⟩, 0⟩]))]) ++ [some (Blk.mk true 1 [.sl h.length 18 0 2])]) := (Kp.app _ (Nat.le_refl _)).trans (Kp.app _ (by simp))
  obtain ⟨cs, h', r1, r2, r3⟩ := Compile_R hE.c98 p T6_small (by decide) T6_check
  have hsm : (compT T6).small := ⟨by decide +kernel, by decide +kernel⟩
  have hst := PStart_R hE.c94 hsm.fits r2 0
  have hnx := PNext_R hE.c105 r2 (t := 0) (l := startL (compT T6) 0)
  have hsz := Size_R hE.c102 r2 hsm
  have v1 : (startL (compT T6) 0).pc = 1 := by decide +kernel
  have v2 : (startL (compT T6) 0).r0 = 1 := by decide +kernel
  have v3 : (nextI ((compT T6).code 0) (startL (compT T6) 0)).isSome = true := by decide +kernel
  have v4 : ((nextI ((compT T6).code 0) (startL (compT T6) 0)).getD Ins.zero).kind = 1 := by decide +kernel
  have v5 : sumL (compT T6).thr = 2 := by decide +kernel
  rw [v5] at hsz
  rw [v3] at hnx
  have q0 : ∀ {α : Type} (f : Cell → Option α), atK (startL (compT T6) 0).cs 0 f = f (.int .i64 1) := fun f => by rw [← v1]; rfl
  have q1 : ∀ {α : Type} (f : Cell → Option α), atK (startL (compT T6) 0).cs 1 f = f (.int .i64 1) := fun f => by rw [← v2]; rfl
  refine Eq.trans (congrArg (fun z => c2 z _) r1) ?_
  rw [c2_ok, asA_ok, asI_ok, if_pos ⟨rfl, rfl, r2.len⟩, if_pos ⟨rfl, r2.len⟩, hst, c1_ok, asA_ok, if_pos ⟨rfl, rfl, rfl⟩, if_pos ⟨rfl, r2.len⟩, if_pos ⟨rfl, rfl⟩, hnx, c2_ok, asA_ok, asB_ok, if_pos ⟨rfl, rfl, rfl⟩]
  rw [show ((0 : Int) == 0) = true from rfl, scK_ok, q0, asI_ok, bind_ok]
  dsimp only
  rw [show ((1 : Int) == 1) = true from rfl, scK_ok, q1, asI_ok, bind_ok]
  dsimp only
  rw [show ((1 : Int) == 1) = true from rfl, scK_ok, bind_ok]
  dsimp only
  rw [scK_ok, ins_kind, asI_ok, v4, bind_ok]
  dsimp only
  rw [show ((1 : Int) == 1) = true from rfl, scK_ok, if_pos ⟨rfl, r2.len⟩, hsz, c1_ok, asI_ok, bind_ok]
  dsimp only
  exact finish_gc (k0.trans (r3.mono k0.1)) (by simp [avOk, AV.cells, idOk])

end
end Jq

namespace Jq
open Go

/- jacquard/jacquardlaw4.Few: 96 -/
def jacquardlaw4_Few_k2 (C : CallF) (L : LoopF) (G : Glo) (h0 : AHeap) : Ex → St → Option (List AV × AHeap) :=
  kSeq (fun st => jacquardlaw4_Few_p1.exec C L G st (jacquardlaw4_Few.fin G h0)) (jacquardlaw4_Few.fin G h0)
def jacquardlaw4_Few_k3 (C : CallF) (L : LoopF) (G : Glo) (h0 : AHeap) : Ex → St → Option (List AV × AHeap) :=
  kBlk 0 (jacquardlaw4_Few_k2 C L G h0)
def jacquardlaw4_Few_s1 (a3 : Int) (s0 : List Cell) (h : AHeap) : St := ⟨[.top, .loc 0 0, .top, .v (.c (.int .i64 a3)), .top, .top, .top, .top, .top, .top, .top, .top, .top, .top, .top, .top, .top, .top, .top, .top, .top, .top, .top, .top, .top, .top, .top, .top, .top, .top, .top, .top, .top, .top, .top, .top, .top, .top, .top, .top, .top, .top, .top, .top, .top, .top, .top, .top, .top, .top, .top, .top, .top, .top, .top, .top, .top, .top], [some s0], h⟩
def jacquardlaw4_Few_F1 (C : CallF) (L : LoopF) (G : Glo) : St → Option (Ex × St) :=
  roundF (fun st f => jacquardlaw4_Few_b1.exec C L G st f) [1, 3] [0] [(0, [2], []), (1, [1], [0])]
def jacquardlaw4_Few_x1_0 (b2 : Bool) (h : AHeap) : St := ⟨[.top, .top, .v (.c (.bool b2)), .top, .top, .top, .top, .top, .top, .top, .top, .top, .top, .top, .top, .top, .top, .top, .top, .top, .top, .top, .top, .top, .top, .top, .top, .top, .top, .top, .top, .top, .top, .top, .top, .top, .top, .top, .top, .top, .top, .top, .top, .top, .top, .top, .top, .top, .top, .top, .top, .top, .top, .top, .top, .top, .top, .top], [none], h⟩
def jacquardlaw4_Few_x1_1 (s0 : List Cell) (h : AHeap) : St := ⟨[.top, .loc 0 0, .top, .top, .top, .top, .top, .top, .top, .top, .top, .top, .top, .top, .top, .top, .top, .top, .top, .top, .top, .top, .top, .top, .top, .top, .top, .top, .top, .top, .top, .top, .top, .top, .top, .top, .top, .top, .top, .top, .top, .top, .top, .top, .top, .top, .top, .top, .top, .top, .top, .top, .top, .top, .top, .top, .top, .top], [some s0], h⟩
def jacquardlaw4_Few_k4 (C : CallF) (L : LoopF) (G : Glo) (h0 : AHeap) : Ex → St → Option (List AV × AHeap) :=
  kSeq (fun st => jacquardlaw4_Few_p2.exec C L G st (jacquardlaw4_Few.fin G h0)) (jacquardlaw4_Few.fin G h0)
def jacquardlaw4_Few_k5 (C : CallF) (L : LoopF) (G : Glo) (h0 : AHeap) : Ex → St → Option (List AV × AHeap) :=
  kBlk 2 (jacquardlaw4_Few_k4 C L G h0)
def jacquardlaw4_Few_s2 (a4 : Int) (s0 : List Cell) (h : AHeap) : St := ⟨[.top, .loc 0 0, .top, .top, .v (.c (.int .i64 a4)), .top, .top, .top, .top, .top, .top, .top, .top, .top, .top, .top, .top, .top, .top, .top, .top, .top, .top, .top, .top, .top, .top, .top, .top, .top, .top, .top, .top, .top, .top, .top, .top, .top, .top, .top, .top, .top, .top, .top, .top, .top, .top, .top, .top, .top, .top, .top, .top, .top, .top, .top, .top, .top], [some s0], h⟩
def jacquardlaw4_Few_F2 (C : CallF) (L : LoopF) (G : Glo) : St → Option (Ex × St) :=
  roundF (fun st f => jacquardlaw4_Few_b2.exec C L G st f) [1, 4] [0] [(0, [2], []), (3, [], [])]
def jacquardlaw4_Few_x2_0 (b2 : Bool) (h : AHeap) : St := ⟨[.top, .top, .v (.c (.bool b2)), .top, .top, .top, .top, .top, .top, .top, .top, .top, .top, .top, .top, .top, .top, .top, .top, .top, .top, .top, .top, .top, .top, .top, .top, .top, .top, .top, .top, .top, .top, .top, .top, .top, .top, .top, .top, .top, .top, .top, .top, .top, .top, .top, .top, .top, .top, .top, .top, .top, .top, .top, .top, .top, .top, .top], [none], h⟩
def jacquardlaw4_Few_x2_3 (h : AHeap) : St := ⟨[.top, .top, .top, .top, .top, .top, .top, .top, .top, .top, .top, .top, .top, .top, .top, .top, .top, .top, .top, .top, .top, .top, .top, .top, .top, .top, .top, .top, .top, .top, .top, .top, .top, .top, .top, .top, .top, .top, .top, .top, .top, .top, .top, .top, .top, .top, .top, .top, .top, .top, .top, .top, .top, .top, .top, .top, .top, .top], [none], h⟩
theorem jacquardlaw4_Few_r1 (C : CallF) (L : LoopF) (G : Glo) (a3 : Int) (s0 : List Cell) (h : AHeap) :
    jacquardlaw4_Few_F1 C L G (jacquardlaw4_Few_s1 a3 s0 h) =
    atK s0 2 fun q_16 => lenK q_16 fun n_17 => if (decide (a3 < n_17)) = true then atK s0 2 fun q_18 => idxSK 1 q_18 a3 fun k_19 N_20 o_21 => rdH h k_19 N_20 fun l_22 => atK l_22 o_21 fun q_23 => lenK q_23 fun n_24 => if (decide (n_24 > 30)) = true then some (.ret, (jacquardlaw4_Few_x1_0 false h)) else some (.normal, (jacquardlaw4_Few_s1 (G.wrap .i64 (a3 + 1)) s0 h)) else some ((.exit 0), (jacquardlaw4_Few_x1_1 s0 h)) := by kernel_rfl
theorem jacquardlaw4_Few_e1_0 (C : CallF) (L : LoopF) (G : Glo) (h0 : AHeap) (b2 : Bool) (h : AHeap) :
    (jacquardlaw4_Few_k3 C L G h0) .ret (jacquardlaw4_Few_x1_0 b2 h) =
    some ([(.c (.bool b2))], h) := by kernel_rfl
theorem jacquardlaw4_Few_r2 (C : CallF) (L : LoopF) (G : Glo) (a4 : Int) (s0 : List Cell) (h : AHeap) :
    jacquardlaw4_Few_F2 C L G (jacquardlaw4_Few_s2 a4 s0 h) =
    atK s0 4 fun q_25 => lenK q_25 fun n_26 => if (decide (a4 < n_26)) = true then atK s0 4 fun q_27 => idxSK 1 q_27 a4 fun k_28 N_29 o_30 => rdH h k_28 N_29 fun l_31 => atK l_31 o_30 fun q_32 => lenK q_32 fun n_33 => if (decide (n_33 > 12)) = true then some (.ret, (jacquardlaw4_Few_x2_0 false h)) else some (.normal, (jacquardlaw4_Few_s2 (G.wrap .i64 (a4 + 1)) s0 h)) else some ((.exit 2), (jacquardlaw4_Few_x2_3 h)) := by kernel_rfl
theorem jacquardlaw4_Few_e2_0 (C : CallF) (L : LoopF) (G : Glo) (h0 : AHeap) (b2 : Bool) (h : AHeap) :
    (jacquardlaw4_Few_k5 C L G h0) .ret (jacquardlaw4_Few_x2_0 b2 h) =
    some ([(.c (.bool b2))], h) := by kernel_rfl
theorem jacquardlaw4_Few_e2_3 (C : CallF) (L : LoopF) (G : Glo) (h0 : AHeap) (h : AHeap) :
    (jacquardlaw4_Few_k5 C L G h0) (.exit 2) (jacquardlaw4_Few_x2_3 h) =
    some ([(.c (.bool true))], h) := by kernel_rfl
theorem jacquardlaw4_Few_e1_1 (C : CallF) (L : LoopF) (G : Glo) (h0 : AHeap) (s0 : List Cell) (h : AHeap) :
    (jacquardlaw4_Few_k3 C L G h0) (.exit 0) (jacquardlaw4_Few_x1_1 s0 h) =
    (L (jacquardlaw4_Few_F2 C L G) (jacquardlaw4_Few_s2 0 s0 h)).bind fun p_34 => (jacquardlaw4_Few_k5 C L G h0) p_34.1 p_34.2 := by kernel_rfl
set_option maxRecDepth 100000 in
theorem jacquardlaw4_Few_eq (C : CallF) (L : LoopF) (G : Glo) (l0 : List Cell) (h0 : AHeap) :
    jacquardlaw4_Few.body C L G [(.agg l0)] h0 =
    atK l0 2 fun q_1 => lenK q_1 fun n_2 => scK (decide (n_2 > 6)) false (atK l0 1 fun q_3 => lenK q_3 fun n_4 => some ((decide (n_4 > 40)), h0)) true h0 fun b_5 h_6 => scK b_5 false (atK l0 0 fun q_7 => asS (.c q_7) fun z_8 => lenSK (.str z_8) fun n_9 => some ((decide (n_9 > 60)), h_6)) true h_6 fun b_10 h_11 => scK b_10 false (atK l0 4 fun q_12 => lenK q_12 fun n_13 => some ((decide (n_13 > 12)), h_11)) true h_11 fun b_14 h_15 => if b_14 = true then some ([(.c (.bool false))], h_15) else (L (jacquardlaw4_Few_F1 C L G) (jacquardlaw4_Few_s1 0 l0 h_15)).bind fun p_35 => (jacquardlaw4_Few_k3 C L G h0) p_35.1 p_35.2 := by kernel_rfl


end Jq

/- Threads step by step, of any test. -/
namespace Jq
open Go

def shOpd : Sh := .agg (.cons (.i .i64) (.cons (.i .i64) .nil))
def shIns : Sh := .agg (.cons (.i .i64) (.cons (.i .i64) (.cons (.i .i64) (.cons shOpd (.cons (.i .i64) (.cons shOpd (.cons (.i .i64) .nil)))))))
def shAtm : Sh := .agg (.cons (.i .i64) (.cons (.i .i64) (.cons (.i .i64) (.cons (.i .i64) .nil))))
def shCond : Sh := .agg (.cons (.i .i64) (.cons (.sl (.sl shAtm)) .nil))
def shTest : Sh := .agg (.cons .s (.cons (.sl shPair) (.cons (.sl (.sl shIns)) (.cons shCond .nil))))
def shLcl : Sh := .agg (.cons (.i .i64) (.cons (.agg (Sh.rep (.i .i64) 4)) .nil))

theorem opd_of {h : AHeap} {c : List Cell} (o : okC h shOpd c) : ∃ s : Opd, c = s.cs := by
  obtain ⟨x0, y0, rfl, ⟨a0, rfl, _⟩, x1, y1, rfl, ⟨a1, rfl, _⟩, h2⟩ := o
  obtain rfl : y1 = [] := h2
  exact ⟨⟨a0, a1⟩, rfl⟩
theorem ins_of {h : AHeap} {c : List Cell} (o : okC h shIns c) : ∃ s : Ins, c = s.cs := by
  obtain ⟨x0, y0, rfl, ⟨a0, rfl, _⟩, x1, y1, rfl, ⟨a1, rfl, _⟩, x2, y2, rfl, ⟨a2, rfl, _⟩, x3, y3, rfl, o3, x4, y4, rfl, ⟨a4, rfl, _⟩, x5, y5, rfl, o5, x6, y6, rfl, ⟨a6, rfl, _⟩, h7⟩ := o
  obtain rfl : y6 = [] := h7
  obtain ⟨s3, rfl⟩ := opd_of o3
  obtain ⟨s5, rfl⟩ := opd_of o5
  exact ⟨⟨a0, a1, a2, s3, a4, s5, a6⟩, rfl⟩
theorem atm_of {h : AHeap} {c : List Cell} (o : okC h shAtm c) : ∃ s : Atm, c = s.cs := by
  obtain ⟨x0, y0, rfl, ⟨a0, rfl, _⟩, x1, y1, rfl, ⟨a1, rfl, _⟩, x2, y2, rfl, ⟨a2, rfl, _⟩, x3, y3, rfl, ⟨a3, rfl, _⟩, h7⟩ := o
  obtain rfl : y3 = [] := h7
  exact ⟨⟨a0, a1, a2, a3⟩, rfl⟩
theorem okL_ins {h : AHeap} : ∀ (len : Nat) (xs : List Cell), okL (okC h shIns) len xs → ∃ l : List Ins, xs = codeC l ∧ l.length = len
  | 0, xs, h => ⟨[], h, rfl⟩
  | len + 1, xs, ⟨x, y, h1, hx, hy⟩ => by
    obtain ⟨l, h2, h3⟩ := okL_ins len y hy
    obtain ⟨s, rfl⟩ := ins_of hx
    exact ⟨s :: l, by rw [h1, h2]; rfl, by simp [h3]⟩
theorem okL_atm {h : AHeap} : ∀ (len : Nat) (xs : List Cell), okL (okC h shAtm) len xs → ∃ l : List Atm, xs = atmC l ∧ l.length = len
  | 0, xs, h => ⟨[], h, rfl⟩
  | len + 1, xs, ⟨x, y, h1, hx, hy⟩ => by
    obtain ⟨l, h2, h3⟩ := okL_atm len y hy
    obtain ⟨s, rfl⟩ := atm_of hx
    exact ⟨s :: l, by rw [h1, h2]; rfl, by simp [h3]⟩

theorem row_of {h : AHeap} {e : Sh} {cs : List Cell} (o : okC h (.sl e) cs) : ∃ x xs len, cs = [x] ∧ okL (okC h e) len xs ∧ len ≤ maxLen ∧ SlAt h x e.size xs len ∧ Low h.length x := by
  rcases o with rfl | ⟨k, len, xs, rfl, hx, hk, hm, hb⟩
  · exact ⟨.nils, [], 0, rfl, rfl, by omega, ⟨by simp, .inl ⟨rfl, rfl⟩⟩, trivial⟩
  · have hl : xs.length = len * e.size := okL_len (okC_len e) len xs hx
    refine ⟨_, xs, len, rfl, hx, hm, ⟨hl, .inr ⟨k, _, 0, rfl, hb.imp (fun q => q.1) fun hb => ⟨_, hb, hl, by omega, fun j _ => by simp⟩⟩⟩, .inr hk⟩

theorem okL_rows {α : Type} {h : AHeap} {e : Sh} {C : List α → List Cell} (hC : ∀ len xs, okL (okC h e) len xs → ∃ l : List α, xs = C l ∧ l.length = len) : ∀ (len : Nat) (xs : List Cell), okL (okC h (.sl e)) len xs →
    ∃ rows : List (List α), rows.length = len ∧ (∀ r ∈ rows, r.length ≤ maxLen) ∧ ∀ (t : Nat) (r : List α), rows[t]? = some r → ∃ y : Cell, xs[t]? = some y ∧ SlAt h y e.size (C r) r.length ∧ Low h.length y
  | 0, xs, h => ⟨[], rfl, (fun r hr => absurd hr List.not_mem_nil), (fun t r hr => by simp at hr)⟩
  | len + 1, xs, ⟨x, y, h1, hx, hy⟩ => by
    obtain ⟨rows, h2, h3, h4⟩ := okL_rows hC len y hy
    obtain ⟨z, zs, zl, rfl, g1, g2, g3, g4⟩ := row_of hx
    obtain ⟨l, rfl, rfl⟩ := hC _ _ g1
    refine ⟨l :: rows, by simp [h2], fun r hr => ?_, fun t r hr => ?_⟩
    · rcases List.mem_cons.1 hr with e | hr
      · rw [e]; exact g2
      · exact h3 r hr
    · rw [h1]
      cases t with
      | zero => cases hr; exact ⟨z, rfl, g3, g4⟩
      | succ t => exact h4 t r (by simpa using hr)

theorem arg_test {h : AHeap} {cs : List Cell} (o : okC h shTest cs) : ∃ T : PTest, av1 shTest cs = .agg cs ∧ TestAt h cs T ∧ T.name.size ≤ maxLen ∧ T.inits.length ≤ maxLen ∧ T.thr.length ≤ maxLen ∧ (∀ c ∈ T.thr, c.length ≤ maxLen) ∧ T.any.length ≤ maxLen ∧ (∀ c ∈ T.any, c.length ≤ maxLen) := by
  obtain ⟨x0, y0, rfl, ⟨s, rfl, hs⟩, x1, y1, rfl, o1, x2, y2, rfl, o2, x3, y3, rfl, o3, h7⟩ := o
  obtain rfl : y3 = [] := h7
  obtain ⟨z0, w0, rfl, ⟨ck, rfl, _⟩, z1, w1, rfl, o4, h8⟩ := o3
  obtain rfl : w1 = [] := h8
  obtain ⟨a, az, al, rfl, a1, a2, a3, a4⟩ := row_of o1
  obtain ⟨ps, rfl, rfl, _⟩ := okL_pair _ _ a1
  obtain ⟨b, bs, bl, rfl, b1, b2, b3, b4⟩ := row_of o2
  obtain ⟨rows, rfl, b5, b6⟩ := okL_rows (C := codeC) okL_ins _ _ b1
  obtain ⟨c, cs, cl, rfl, c1, c2, c3, c4⟩ := row_of o4
  obtain ⟨any, rfl, c5, c6⟩ := okL_rows (C := atmC) okL_atm _ _ c1
  exact ⟨⟨s, ps, rows, ck, any⟩, rfl, ⟨a, b, c, rfl, ⟨a3, a4⟩, ⟨bs, b3, b4, b6⟩, ⟨cs, c3, c4, c6⟩⟩, hs, a2, b2, b5, c2, c5⟩

/-- Is a test of few parts? -/
def fewB (T : PTest) : Bool := !(((decide ((T.thr.length : Int) > 6) || decide ((T.inits.length : Int) > 40)) || decide ((T.name.size : Int) > 60)) || decide ((T.any.length : Int) > 12)) && !(T.thr.any fun c => decide ((c.length : Int) > 30)) && !(T.any.any fun c => decide ((c.length : Int) > 12))

theorem few_small {T : PTest} (h : fewB T = true) : T.small ∧ T.name.size < 9223372036854775807 := by
  unfold fewB at h
  simp only [Bool.and_eq_true, Bool.not_eq_true', Bool.or_eq_false_iff, decide_eq_false_iff_not, List.any_eq_false, decide_eq_true_eq] at h
  obtain ⟨⟨⟨⟨⟨h1, h2⟩, h3⟩, h4⟩, h5⟩, h6⟩ := h
  exact ⟨⟨by omega, by omega, fun c hc => by have := h5 c hc; omega, by omega, fun c hc => by have := h6 c hc; omega⟩, by omega⟩

section
variable {E : Env}

theorem Few_R (hE : jacquardlaw4_Few_In E) {cs : List Cell} {T : PTest} {h : AHeap} (p : TestAt h cs T) : R E 96 [.agg cs] h = some ([.c (.bool (fewB T))], h) := by
  refine R_intro hE.fn ?_
  obtain ⟨a, b, c, rfl, ⟨ha, hal⟩, hb, hc⟩ := p
  have a0 : ∀ {α : Type} (f : Cell → Option α), atK [.str T.name, a, b, .int .i64 T.ck, c] 0 f = f (.str T.name) := fun _ => rfl
  have a1 : ∀ {α : Type} (f : Cell → Option α), atK [.str T.name, a, b, .int .i64 T.ck, c] 1 f = f a := fun _ => rfl
  have a2 : ∀ {α : Type} (f : Cell → Option α), atK [.str T.name, a, b, .int .i64 T.ck, c] 2 f = f b := fun _ => rfl
  have a4 : ∀ {α : Type} (f : Cell → Option α), atK [.str T.name, a, b, .int .i64 T.ck, c] 4 f = f c := fun _ => rfl
  have s0 : ∀ {α : Type} (f : ByteArray → Option α), asS (.c (.str T.name)) f = f T.name := fun _ => rfl
  have s1 : ∀ {α : Type} (f : Int → Option α), lenSK (.str T.name) f = f T.name.size := fun _ => rfl
  rw [jacquardlaw4_Few_eq, a2, hb.len, a1, ha.len, scK_or, a0, s0, s1, scK_or, a4, hc.len, scK_or]
  unfold fewB
  cases hx : (((decide ((T.thr.length : Int) > 6) || decide ((T.inits.length : Int) > 40)) || decide ((T.name.size : Int) > 60)) || decide ((T.any.length : Int) > 12)) with
  | true => rw [if_pos rfl]; rfl
  | false =>
    have hx' := hx
    simp only [Bool.or_eq_false_iff, decide_eq_false_iff_not] at hx'
    obtain ⟨⟨⟨h1, h2⟩, h3⟩, h4⟩ := hx'
    have f1 : Lim (jacquardlaw4_Few_F1 (R E) Lim E.glob) (jacquardlaw4_Few_s1 0 [.str T.name, a, b, .int .i64 T.ck, c] h) = some (if (T.thr.any fun c => decide ((c.length : Int) > 30)) = true then (.ret, jacquardlaw4_Few_x1_0 false h) else (.exit 0, jacquardlaw4_Few_x1_1 [.str T.name, a, b, .int .i64 T.ck, c] h)) := by
      rw [← atB_any]
      exact Lim_scan (F := jacquardlaw4_Few_F1 (R E) Lim E.glob) (fun k => jacquardlaw4_Few_s1 (k : Int) [.str T.name, a, b, .int .i64 T.ck, c] h) T.thr.length (atB T.thr fun _ c => decide ((c.length : Int) > 30)) _ _ 0 (fun t ht => by
        have hq : T.thr[t]? = some T.thr[t] := List.getElem?_eq_getElem ht
        generalize T.thr[t] = code at hq
        obtain ⟨y, y1, y2, y3⟩ := hb.get (β := Ex × St) hq
        rw [jacquardlaw4_Few_r1, a2, hb.len, if_pos (by simp; omega), a2, y3, y1.len, atB_ok hq, g_succ (by omega)]) (by rw [jacquardlaw4_Few_r1, a2, hb.len, if_neg (by simp)])
    have f2 : Lim (jacquardlaw4_Few_F2 (R E) Lim E.glob) (jacquardlaw4_Few_s2 0 [.str T.name, a, b, .int .i64 T.ck, c] h) = some (if (T.any.any fun c => decide ((c.length : Int) > 12)) = true then (.ret, jacquardlaw4_Few_x2_0 false h) else (.exit 2, jacquardlaw4_Few_x2_3 h)) := by
      rw [← atB_any]
      exact Lim_scan (F := jacquardlaw4_Few_F2 (R E) Lim E.glob) (fun k => jacquardlaw4_Few_s2 (k : Int) [.str T.name, a, b, .int .i64 T.ck, c] h) T.any.length (atB T.any fun _ c => decide ((c.length : Int) > 12)) _ _ 2 (fun t ht => by
        have hq : T.any[t]? = some T.any[t] := List.getElem?_eq_getElem ht
        generalize T.any[t] = code at hq
        obtain ⟨y, y1, y2, y3⟩ := hc.get (β := Ex × St) hq
        rw [jacquardlaw4_Few_r2, a4, hc.len, if_pos (by simp; omega), a4, y3, y1.len, atB_ok hq, g_succ (by omega)]) (by rw [jacquardlaw4_Few_r2, a4, hc.len, if_neg (by simp)])
    rw [if_neg (by simp), f1, bind_ok]
    cases hy : (T.thr.any fun c => decide ((c.length : Int) > 30)) with
    | true => rw [if_pos rfl]; dsimp only; rw [jacquardlaw4_Few_e1_0]; rfl
    | false =>
      rw [if_neg (by simp)]; dsimp only; rw [jacquardlaw4_Few_e1_1, f2, bind_ok]
      cases hz : (T.any.any fun c => decide ((c.length : Int) > 12)) with
      | true => rw [if_pos rfl]; dsimp only; rw [jacquardlaw4_Few_e2_0]; rfl
      | false => rw [if_neg (by simp)]; dsimp only; rw [jacquardlaw4_Few_e2_3]; rfl

end

theorem fldB_good {i : Ins} (h : fldB locB i = true) : (1 ≤ i.kind ∧ i.kind ≤ 6) ∧ (i.kind = 2 ∨ i.kind = 4 ∨ i.kind = 5 → 0 ≤ i.reg ∧ i.reg < 4) ∧ (i.kind = 5 → 0 ≤ i.op ∧ i.op ≤ 11) := by
  have hrb : ∀ n, regB n = true → 0 ≤ n ∧ n < 4 := fun n hn => by unfold regB at hn; simpa using hn
  unfold fldB at h
  by_cases h1 : i.kind = 1
  · exact ⟨by omega, fun hk => by omega, fun hk => by omega⟩
  rw [if_neg h1] at h
  by_cases h2 : i.kind = 2
  · rw [if_pos h2] at h; simp only [Bool.and_eq_true] at h
    exact ⟨by omega, fun _ => hrb _ h.1.2, fun hk => by omega⟩
  rw [if_neg h2] at h
  by_cases h3 : i.kind = 3
  · exact ⟨by omega, fun hk => by omega, fun hk => by omega⟩
  rw [if_neg h3] at h
  by_cases h4 : i.kind = 4
  · rw [if_pos h4] at h; simp only [Bool.and_eq_true] at h
    exact ⟨by omega, fun _ => hrb _ h.1.1.1.2, fun hk => by omega⟩
  rw [if_neg h4] at h
  by_cases h5 : i.kind = 5
  · rw [if_pos h5] at h; simp only [Bool.and_eq_true, decide_eq_true_eq] at h
    exact ⟨by omega, fun _ => hrb _ h.1.1.1.1.1.1, fun _ => ⟨h.1.1.1.2, h.1.1.2⟩⟩
  rw [if_neg h5] at h
  by_cases h6 : i.kind = 6
  · exact ⟨by omega, fun hk => by omega, fun hk => by omega⟩
  rw [if_neg h6] at h; cases h

theorem checkT_jmp {T : PTest} (h : checkT T = 0) : ∀ c ∈ T.thr, jmpB c = true := by
  unfold checkT at h
  intro c hc
  split at h
  · cases h
  split at h
  · cases h
  split at h
  · cases h
  split at h
  · cases h
  · rename_i hj
    rw [Bool.not_eq_true, List.any_eq_false] at hj
    simpa using hj c hc

theorem check_good {T : PTest} (h : checkT T = 0) (hs : T.small) : (compT T).small ∧ (compT T).good := by
  have hok := checkT_ok h
  have hlen : ∀ c ∈ (compT T).thr, c.length ≤ 1000 := fun c hcm => by
    obtain ⟨d, hd, rfl⟩ := List.mem_map.1 hcm
    rw [List.length_map]; exact hs.code d hd
  have hn : (compT T).thr.length = T.thr.length := List.length_map _
  have hsm : (compT T).small := ⟨by rw [hn]; exact hs.thr, hlen⟩
  refine ⟨hsm, hsm.fits, fun c hcm => ?_⟩
  obtain ⟨d, hd, rfl⟩ := List.mem_map.1 hcm
  intro i him
  obtain ⟨j, hj, rfl⟩ := List.mem_map.1 him
  rw [List.length_map]
  refine compI_good ?_
  have hf := okT_ins hok hd hj
  obtain ⟨g1, g2, g3⟩ := fldB_good hf
  refine ⟨g1, g2, g3, fun h6 => ⟨fldB_n hf h6, ?_⟩⟩
  have hjm := checkT_jmp h d hd
  have hja : (!jmpB d) = false := by rw [hjm]; rfl
  rw [jmpB_any, List.any_eq_false] at hja
  obtain ⟨k, hk⟩ := List.getElem?_of_mem hj
  have := hja k (by simpa using getI_lt hk)
  rw [atB_ok hk] at this
  unfold jmpAt at this
  rw [h6] at this
  simp at this
  omega

end Jq

/- A skip leads over as many as it says. -/
namespace Jq
open Go

def incI : Ins := ⟨5, 0, 0, ⟨0, 0⟩, 1, ⟨-1, 1⟩, 0⟩
def skipI (a b n : Int) : Ins := ⟨6, 0, 0, ⟨-1, a⟩, 0, ⟨-1, b⟩, n⟩

section
variable {E : Env}

end
end Jq

/- Registers are what their numbers make of each other. -/
namespace Jq
open Go

def SetOk (i : Ins) : Prop := i.kind = 5 ∧ (0 ≤ i.reg ∧ i.reg < 4) ∧ 0 ≤ i.op ∧ i.op ≤ 11
def regsC (l : Lcl) : List Cell := [.int .i64 l.r0, .int .i64 l.r1, .int .i64 l.r2, .int .i64 l.r3]

/-- What a row of settings makes, one after another. -/
def setV (i : Ins) (l : Lcl) : Lcl := l.setR i.reg ((doV i.op (opV i.a l) (opV i.b l)).getD (opV i.a l))

section
variable {E : Env}

/-- A setting made of a number. -/
def mkOp (E : Env) (x : Int) : Int := E.glob.rem .i64 (E.glob.band .i64 (E.glob.shr .i64 x 4) 255) 12
def mkRaw (E : Env) (x : Int) : Ins := ⟨5, E.glob.band .i64 x 3, 0, ⟨E.glob.band .i64 (E.glob.shr .i64 x 2) 3, 0⟩, mkOp E x, ⟨E.glob.band .i64 (E.glob.shr .i64 x 12) 3, 0⟩, 0⟩
def mkI (E : Env) (x : Int) : Ins := if mkOp E x = 0 then { mkRaw E x with b := ⟨-1, 0⟩ } else mkRaw E x

def setsBase (a b : Int) : List Ins := [⟨5, 0, 0, ⟨-1, a⟩, 0, ⟨-1, 0⟩, 0⟩, ⟨5, 1, 0, ⟨-1, b⟩, 0, ⟨-1, 0⟩, 0⟩]

end
end Jq

/- Threads step by step, of any test: the law. -/
namespace Jq
open Go

section
variable {E : Env}

end
end Jq

/- A test is made ready as the document says, or refused. -/
namespace Jq
open Go

theorem bytesOf_u8 : ∀ l : List Int, bytesOf (intC .u8 l) = some (l.map fun n => UInt8.ofNat n.toNat)
  | [] => rfl
  | n :: l => by
    show (bytesOf (intC .u8 l)).map _ = _
    rw [bytesOf_u8 l]; rfl

theorem SlAt.cells1 {h : AHeap} {x : Cell} {cs : List Cell} {len : Nat} (s : SlAt h x 1 cs len) : slCells h 1 x = some cs := by
  have hl := s.1
  rcases s.2 with ⟨rfl, rfl⟩ | ⟨k, N, off, rfl, hb⟩
  · have : cs = [] := List.length_eq_zero_iff.1 (by omega)
    rw [this]; rfl
  · unfold slCells
    dsimp only
    by_cases h0 : len = 0
    · have : cs = [] := List.length_eq_zero_iff.1 (by omega)
      rw [if_pos h0, this]
    · rw [if_neg h0]
      rcases hb with hb | ⟨b, hb, hN, hle, hat⟩
      · exact absurd hb h0
      · rw [hb]
        simp only
        rw [if_pos ⟨hN, hle⟩]
        congr 1
        refine List.ext_getElem? fun j => ?_
        rw [List.getElem?_take, List.getElem?_drop]
        by_cases hj : j < len * 1
        · rw [if_pos hj, hat j hj]
        · rw [if_neg hj, List.getElem?_eq_none (by omega)]

section
variable {E : Env}

theorem Same6_R (hE : jacquardlaw6_Same_In E) {cs cs' : List Cell} {P : PProg} {h : AHeap} (p : ProgAt h cs P) (q : ProgAt h cs' P) (hsm : P.small) (hil : P.init.length < 9223372036854775807) : R E 100 [.agg cs, .agg cs'] h = some ([.c (.bool true)], h) := by
  refine R_intro hE.fn ?_
  obtain ⟨a, b, c, ts, rfl, ⟨ha, hal⟩, ⟨hb, hbl⟩, ⟨hc, hcl⟩, hx⟩ := p
  obtain ⟨a', b', c', ts', rfl, ⟨ha', hal'⟩, ⟨hb', hbl'⟩, ⟨hc', hcl'⟩, hx'⟩ := q
  have a0 : ∀ {α : Type} (x y z : Cell) (f : Cell → Option α), atK [x, y, z] 0 f = f x := fun _ _ _ _ => rfl
  have a1 : ∀ {α : Type} (x y z : Cell) (f : Cell → Option α), atK [x, y, z] 1 f = f y := fun _ _ _ _ => rfl
  have a2 : ∀ {α : Type} (x y z : Cell) (f : Cell → Option α), atK [x, y, z] 2 f = f z := fun _ _ _ _ => rfl
  have n2 := hsm.1
  have f1 : Lim (jacquardlaw6_Same_F1 (R E) Lim E.glob) (jacquardlaw6_Same_s1 ((0 : Nat) : Int) [a, b, c] [a', b', c'] h) = some (.exit 0, jacquardlaw6_Same_x1_1 [a, b, c] [a', b', c'] h) := by
    refine Lim_count (fun i => jacquardlaw6_Same_s1 (i : Int) [a, b, c] [a', b', c'] h) 0 P.init.length (by omega) (fun i _ hi => ?_) (Lim_exit ?_)
    · have hq := getDI hi
      rw [jacquardlaw6_Same_r1, a1, hb.len, if_pos (by simp; omega), a1, hb.get1 hi (intC_get hq), asI_ok, a1, hb'.get1 hi (intC_get hq), asI_ok, bne_self_eq_false, if_neg (by simp), g_succ (by omega)]
    · rw [jacquardlaw6_Same_r1, a1, hb.len, if_neg (by simp)]
  have f3 : Lim (jacquardlaw6_Same_F3 (R E) Lim E.glob) (jacquardlaw6_Same_s3 ((0 : Nat) : Int) [a, b, c] [a', b', c'] h) = some (.exit 2, jacquardlaw6_Same_x3_3 h) := by
    refine Lim_count (fun i => jacquardlaw6_Same_s3 (i : Int) [a, b, c] [a', b', c'] h) 0 P.thr.length (by omega) (fun t _ ht => ?_) (Lim_exit ?_)
    · have hq : P.thr[t]? = some P.thr[t] := List.getElem?_eq_getElem ht
      generalize P.thr[t] = code at hq
      have hcl2 := hsm.2 code (List.mem_of_getElem? hq)
      obtain ⟨y, y1, y2, y3⟩ := hx t code hq
      obtain ⟨z, z1, z2, z3⟩ := hx' t code hq
      have f2 : Lim (jacquardlaw6_Same_F2 (R E) Lim E.glob) (jacquardlaw6_Same_s2 (t : Int) ((0 : Nat) : Int) [a, b, c] [a', b', c'] h) = some (.exit 4, jacquardlaw6_Same_x2_5 (t : Int) [a, b, c] [a', b', c'] h) := by
        refine Lim_count (fun i => jacquardlaw6_Same_s2 (t : Int) (i : Int) [a, b, c] [a', b', c'] h) 0 code.length (by omega) (fun i _ hi => ?_) (Lim_exit ?_)
        · have hk : code[i]? = some code[i] := List.getElem?_eq_getElem hi
          generalize code[i] = w at hk
          obtain ⟨o1, e1, g1, l1, d1⟩ := y2.insG hk
          obtain ⟨o2, e2, g2, l2, d2⟩ := z2.insG hk
          rw [jacquardlaw6_Same_r2, a2, hc.get1 ht y1, y2.len, if_pos (by simp; omega), a2, hc.get1 ht y1, g1, if_pos l1, a2, hc'.get1 ht z1, g2, if_pos l2, d1, d2, if_pos ⟨alike_ins _, alike_ins _⟩, decide_eq_true rfl, if_neg (by simp), g_succ (by omega)]
        · rw [jacquardlaw6_Same_r2, a2, hc.get1 ht y1, y2.len, if_neg (by simp)]
      rw [show ((0 : Nat) : Int) = 0 from rfl] at f2
      rw [jacquardlaw6_Same_r3, a2, hc.len, if_pos (by simp; omega), a2, hc.get1 ht y1, y2.len, a2, hc'.get1 ht z1, z2.len, bne_self_eq_false, if_neg (by simp), f2, bind_ok, jacquardlaw6_Same_e2_5, g_succ (by omega)]
    · rw [jacquardlaw6_Same_r3, a2, hc.len, if_neg (by simp)]
  rw [show ((0 : Nat) : Int) = 0 from rfl] at f1 f3
  rw [jacquardlaw6_Same_eq, a0, ha.cells1, bind_ok, bytesOf_u8, bind_ok, a0, ha'.cells1, bind_ok, bytesOf_u8, bind_ok, beq_self_eq_true, show (!true) = false from rfl, a1, hb.len, a1, hb'.len, bne_self_eq_false, scK_or, a2, hc.len, a2, hc'.len, bne_self_eq_false, scK_or, if_neg (by simp), f1, bind_ok, jacquardlaw6_Same_e1_1, f3, bind_ok, jacquardlaw6_Same_e3_3]

theorem refSize_R (hE : jacquardref6_Size_In E) {cs : List Cell} {P : PProg} {h : AHeap} (p : ProgAt h cs P) (hs : P.small) : R E 103 [.agg cs] h = some ([.c (.int .i64 (sumL P.thr))], h) := by
  obtain ⟨a, b, c, ts, rfl, _, _, ⟨hc, _⟩, hx⟩ := p
  refine R_intro hE.fn ?_
  have a2 : ∀ {α : Type} (f : Cell → Option α), atK [a, b, c] 2 f = f c := fun _ => rfl
  have n2 := hs.1
  have loop := Lim_count (F := jacquardref6_Size_F1 (R E) Lim E.glob) (fun i => jacquardref6_Size_s1 (sumL (P.thr.take i)) (i : Int) [a, b, c] h) 0 P.thr.length (by omega) (p := (.exit 0, jacquardref6_Size_x1_1 (sumL (P.thr.take P.thr.length)) h))
    (fun i _ hi => by
      have hq : P.thr[i]? = some P.thr[i] := List.getElem?_eq_getElem hi
      generalize P.thr[i] = q at hq
      obtain ⟨y, y1, y2, y3⟩ := hx i q hq
      have hsum := sumT_le (P.thr.take i) fun c hc => hs.2 c (List.mem_of_mem_take hc)
      rw [List.length_take] at hsum
      have hql := hs.2 q (List.mem_of_getElem? hq)
      have hw : E.glob.wrap .i64 (sumL (P.thr.take i) + (q.length : Int)) = sumL (P.thr.take (i + 1)) := by
        rw [takeI_succ hq, sumL_snoc]
        unfold sumL
        exact g_wrap_i64 (by omega) (by omega)
      rw [jacquardref6_Size_r1, a2, hc.len, if_pos (by simp; omega), a2, hc.get1 hi y1, y2.len, hw, g_succ (by omega)])
    (Lim_exit (by rw [jacquardref6_Size_r1, a2, hc.len, if_neg (by simp)]))
  rw [List.take_of_length_le (Nat.le_refl _), show sumL (P.thr.take 0) = 0 from rfl, show ((0 : Nat) : Int) = 0 from rfl] at loop
  rw [jacquardref6_Size_eq, loop, bind_ok, jacquardref6_Size_e1_1]

theorem compiles_one (hE : jacquardlaw6_ProgCompiles_In E) {cs : List Cell} {T : PTest} {h : AHeap} (p : TestAt h cs T) (hs : T.small) (hn : T.name.size < 9223372036854775807) (i : Int) (s1 : List Cell) :
    ∃ h', jacquardlaw6_ProgCompiles_k6 (R E) Lim E.glob .normal (jacquardlaw6_ProgCompiles_c1 i cs s1 h) = some (.normal, jacquardlaw6_ProgCompiles_s1 (E.glob.wrap .i64 (i + 1)) cs s1 h') ∧ Kp h.length h h' := by
  have hnil : ∀ h : AHeap, ProgAt h [.nils, .nils, .nils] ⟨[], [], []⟩ := fun h => ⟨.nils, .nils, .nils, [], rfl, ⟨⟨rfl, .inl ⟨rfl, rfl⟩⟩, trivial⟩, ⟨⟨rfl, .inl ⟨rfl, rfl⟩⟩, trivial⟩, ⟨⟨rfl, .inl ⟨rfl, rfl⟩⟩, trivial⟩, fun t c ht => by simp at ht⟩
  by_cases hk : checkT T = 0
  · obtain ⟨cs2, h1, r1, p1, k1⟩ := Compile_R hE.c98 p hs hn hk
    obtain ⟨h2, r2, k2⟩ := refCheck_R hE.c99 (p.keep k1) hs hn
    rw [hk] at r2
    have pp2 := (p.keep k1).keep k2
    obtain ⟨cs3, h3, r3, p3, k3⟩ := refCompile_R hE.c101 pp2 hs
    obtain ⟨g1, g2⟩ := check_good hk hs
    have hil : (compT T).init.length < 9223372036854775807 := by
      have := locsF_len (thereT T) 26
      show ((locsT T).map _).length < _
      rw [List.length_map]
      show (locsF (thereT T) 26).length < _
      omega
    have p13 := (p1.keep k2).keep k3
    have hsame := Same6_R hE.c100 p13 p3 g1 hil
    refine ⟨h3, ?_, k1.trans ((k2.mono k1.1).trans (k3.mono (Nat.le_trans k1.1 k2.1)))⟩
    rw [jacquardlaw6_ProgCompiles_ec1_n, if_pos ⟨rfl, p.len⟩, r1, c2_ok, asA_ok, asI_ok, if_pos ⟨rfl, rfl, p1.len⟩, if_pos ⟨rfl, p.len⟩, r2, c1_ok, asI_ok, show ((0 : Int) != 0) = false from rfl, scK_ft, scK_ok, bind_ok]
    dsimp only
    rw [show ((0 : Int) == 0) = true from rfl, scK_ok, scK_ok, if_pos ⟨rfl, p1.len⟩, if_pos ⟨rfl, p.len⟩, r3, c1_ok, asA_ok, hsame, qh_ok, c1_ok, asB_ok, bind_ok]
    dsimp only
    rw [bind_ok]
    dsimp only
    rw [if_neg (by simp), scK_ok, if_pos ⟨rfl, p1.len⟩, Size_R hE.c102 p13 g1, qh_ok, c1_ok, asI_ok, if_pos ⟨rfl, p1.len⟩, refSize_R hE.c103 p13 g1, qh_ok, c1_ok, asI_ok, bne_self_eq_false, bind_ok]
    dsimp only
    rw [if_neg (by simp)]
  · have r1 := Compile_no hE.c98 p hs hn hk
    obtain ⟨h2, r2, k2⟩ := refCheck_R hE.c99 p hs hn
    have hsame := Same6_R hE.c100 (hnil h2) (hnil h2) ⟨by decide, fun c hc => absurd hc List.not_mem_nil⟩ (by decide)
    have e1 : (checkT T != 0) = true := by rw [bne_iff_ne]; exact hk
    have e2 : (checkT T == 0) = false := by rw [beq_eq_false_iff_ne]; exact hk
    refine ⟨h2, ?_, k2⟩
    rw [jacquardlaw6_ProgCompiles_ec1_n, if_pos ⟨rfl, p.len⟩, r1, c2_ok, asA_ok, asI_ok, if_pos ⟨rfl, rfl, rfl⟩, if_pos ⟨rfl, p.len⟩, r2, c1_ok, asI_ok, bne_self_eq_false, scK_ok, e1, scK_ok, if_pos ⟨rfl, rfl⟩, hsame, qh_ok, c1_ok, asB_ok, bind_ok]
    dsimp only
    rw [bind_ok]
    dsimp only
    rw [e2, show (!true) = false from rfl, scK_ok, scK_ft, bind_ok]
    dsimp only
    rw [if_neg (by simp), scK_ft, if_neg (by simp)]

theorem ProgCompiles_law (hE : jacquardlaw6_ProgCompiles_In E) {h : AHeap} {d0 d1 : List Cell} (o0 : okC h shTest d0) (o1 : okC h (.sl (.i .i64)) d1) :
    ∃ h', R E 231 [av1 shTest d0, av1 (.sl (.i .i64)) d1] h = some ([.c (.bool true)], h') := by
  obtain ⟨T, e0, p, _⟩ := arg_test o0
  obtain ⟨x, l, e1, hx, hlow, _, hm⟩ := arg_ints o1
  rw [e0, e1]
  suffices hh : ∃ h', jacquardlaw6_ProgCompiles.body (R E) Lim E.glob [.agg d0, .c x] h = some ([.c (.bool true)], h') by
    obtain ⟨h', hh⟩ := hh; exact ⟨h', R_intro hE.fn hh⟩
  rw [jacquardlaw6_ProgCompiles_eq, if_pos ⟨rfl, p.len⟩, Few_R hE.c96 p, c1_ok, asB_ok]
  cases hf : fewB T with
  | false =>
    rw [if_pos (show (!false) = true from rfl), awake6_R hE.c95, c1_ok, asB_ok]
    exact ⟨_, rfl⟩
  | true =>
    obtain ⟨hs, hn⟩ := few_small hf
    obtain ⟨cs, h1, T1, s1, s2, s3, s4⟩ := Small_R hE.c97 hx hlow (by unfold maxLen at hm; omega) (most := 12) (by omega)
    rw [show ((12 : Nat) : Int) = 12 from rfl] at s1
    obtain ⟨h2, q1, q2⟩ := compiles_one hE (p.keep s4) hs hn ((0 : Nat) : Int) cs
    obtain ⟨h3, w1, w2⟩ := compiles_one hE (s2.keep q2) s3.small (by have := s3.name; omega) ((1 : Nat) : Int) cs
    rw [g_succ (by omega)] at q1 w1
    have hloop : Lim (jacquardlaw6_ProgCompiles_F1 (R E) Lim E.glob) (jacquardlaw6_ProgCompiles_s1 ((0 : Nat) : Int) d0 cs h1) = some (.exit 0, jacquardlaw6_ProgCompiles_x1_1 h3) := by
      refine Lim_next (st' := jacquardlaw6_ProgCompiles_s1 ((0 + 1 : Nat) : Int) d0 cs h2) ?_ (Lim_next (st' := jacquardlaw6_ProgCompiles_s1 ((1 + 1 : Nat) : Int) cs cs h3) ?_ (Lim_exit ?_))
      · rw [jacquardlaw6_ProgCompiles_r1, if_pos (by simp), if_neg (by simp), bind_ok]
        exact q1
      · rw [jacquardlaw6_ProgCompiles_r1, if_pos (by simp), if_pos (by simp), if_pos ⟨rfl, s2.len⟩, if_pos ⟨rfl, p.len, s2.len⟩, bind_ok]
        exact w1
      · rw [jacquardlaw6_ProgCompiles_r1, if_neg (by simp)]
    rw [show ((0 : Nat) : Int) = 0 from rfl] at hloop
    rw [if_neg (show ¬ (!true) = true by simp), s1, c1_ok, asA_ok, if_pos ⟨rfl, rfl, s2.len⟩, hloop, bind_ok, jacquardlaw6_ProgCompiles_e1_1, awake6_R hE.c95, c1_ok, asB_ok]
    exact ⟨_, rfl⟩

end
end Jq

/- ProgCompiles: whatever the input the call says true, and each argument reads behind it as before. No conditions. -/
namespace Go.Proofs.Ytldfafaiappibaa.LProgCompiles
open Go Jq Go.ChangeShapes Go.WideShapes Go.ChangeAt Go.RowKit
set_option linter.unusedVariables false

theorem own : ownKnob Try.prog.godebug = none := by kernel_rfl
theorem laidOut : laidOutB Try.prog = true := by kernel_rfl

set_option maxRecDepth 100000 in
theorem lifted (os : Os) (started : os.Started) (H : Type) (enc : TypeId × Value → H) :
    ReturnsInHanded {} Try.checked os 10 .any (Rows.progCompilesSpec.pre6 enc Try.prog Try.f10 Rows.progCompilesRow.domain false) (Rows.progCompilesSpec.post enc Try.prog Try.f10 false true false false) := by
  refine returnsInHanded_of_change (C := Try.checked) own started (by kernel_rfl) Try.func10
    (ChangeSpec.witness6 (enc := enc) (C := Try.checked) false ⟨#[], #[.agg #[.string ByteArray.empty, .slice none 0 0, .slice none 0 0, .int .i64 0, .slice none 0 0], .slice none 0 0], []⟩ 8 (by kernel_rfl) (by kernel_rfl) (by kernel_rfl) (by kernel_rfl)) ?_
  intro W base args ds gs before hval0 hW hcnd _
  have hval : ∀ (j : Nat) t v, Try.f10.params[j]? = some t → args[j]? = some v → Value.okWide Try.prog W .any base t v := hval0
  have hW' := hW
  obtain ⟨p, q, hA0, hV, rfl, hfz, hnd⟩ := hW
  have hA : DataW.TrodAll enc Try.prog W 0 (fun _ => true) true Try.f10.params.toList args.toList ds p := hA0
  rw [Try.params10] at hA hval
  obtain ⟨v0, vs0, d0, ds0, p0, q0, hargs, rfl, rfl, h0, r0⟩ := trodAll_cons hA
  obtain ⟨v1, vs1, d1, ds1, p1, q1, rfl, rfl, rfl, h1, r1⟩ := trodAll_cons r0
  obtain ⟨rfl, rfl, rfl⟩ := trodAll_nil r1
  obtain rfl : args = #[v0, v1] := by cases args; simp_all
  obtain ⟨rfl, rfl⟩ := trodVars_none hV
  have lt0 : ∀ x ∈ p0, x.block < W.heap.size := by obtain ⟨m, hm⟩ := h0; exact DataW.trod_lt m _ _ _ hm
  have lt1 : ∀ x ∈ p1, x.block < W.heap.size := by obtain ⟨m, hm⟩ := h1; exact DataW.trod_lt m _ _ _ hm
  have c := Come.nil (S := seat) (W := W) (fun _ => rfl)
  have k0 : ((.agg (.cons .s (.cons (.sl (.agg (.cons (.i .i64) (.cons (.i .i64) .nil)))) (.cons (.sl (.sl (.agg (.cons (.i .i64) (.cons (.i .i64) (.cons (.i .i64) (.cons (.agg (.cons (.i .i64) (.cons (.i .i64) .nil))) (.cons (.i .i64) (.cons (.agg (.cons (.i .i64) (.cons (.i .i64) .nil))) (.cons (.i .i64) .nil)))))))))) (.cons (.agg (.cons (.i .i64) (.cons (.sl (.sl (.agg (.cons (.i .i64) (.cons (.i .i64) (.cons (.i .i64) (.cons (.i .i64) .nil))))))) .nil))) .nil))))) : Sh).chk seat.P 76 = true := by kernel_rfl
  obtain ⟨b0, ρ0, cs0, c0, e0, x0, a0, o0⟩ := opens_arg (S := seat) (W := W) (sh := (.agg (.cons .s (.cons (.sl (.agg (.cons (.i .i64) (.cons (.i .i64) .nil)))) (.cons (.sl (.sl (.agg (.cons (.i .i64) (.cons (.i .i64) (.cons (.i .i64) (.cons (.agg (.cons (.i .i64) (.cons (.i .i64) .nil))) (.cons (.i .i64) (.cons (.agg (.cons (.i .i64) (.cons (.i .i64) .nil))) (.cons (.i .i64) .nil)))))))))) (.cons (.agg (.cons (.i .i64) (.cons (.sl (.sl (.agg (.cons (.i .i64) (.cons (.i .i64) (.cons (.i .i64) (.cons (.i .i64) .nil))))))) .nil))) .nil)))))) k0 h0 (wide_of k0 (hval 0 76 v0 rfl rfl)) ⟨nofun, nofun⟩ c
  have k1 : ((.sl (.i .i64)) : Sh).chk seat.P 22 = true := by kernel_rfl
  obtain ⟨b1, ρ1, cs1, c1, e1, x1, a1, o1⟩ := opens_arg (S := seat) (W := W) (sh := (.sl (.i .i64))) k1 h1 (wide_of k1 (hval 1 22 v1 rfl rfl)) ⟨nofun, nofun⟩ c0
  obtain ⟨h', hR⟩ := ProgCompiles_law (E := env) in_231 (okC_mono x1 _ _ o0) o1
  refine (law_call (S := seat) (R_sound (S := seat) (E := env) rfl allOk) c1 (vals := #[v0, v1]) (L2.cons (relA.mono e1 a0) (L2.cons a1 L2.nil)) hR).mono fun e W' ⟨he, bel⟩ => ?_
  subst he
  exact ⟨_, rfl, _, _, _, [], _, [], hW', trodAll_mk1 (shut_bool Try.underlying4 _), (trodAll_cons_mk (Below.trod laidOut (by kernel_rfl) (of_decide_eq_true (by kernel_rfl)) h0 bel lt0) (trodAll_cons_mk (Below.trod laidOut (by kernel_rfl) (of_decide_eq_true (by kernel_rfl)) h1 bel lt1) trodAll_mk0)), rfl, bel.frame _, fun h => by cases h⟩

theorem over : Rows.progCompilesRow.holds Try.pinned (OpenSpec.ofChange Rows.progCompilesSpec) :=
  OpenClaim.holds_of_wide 10 Try.f10 rfl rfl rfl rfl rfl rfl rfl ⟨rfl, rfl, rfl, rfl, rfl⟩ rfl rfl rfl rfl rfl (by kernel_rfl) Try.func10 (by kernel_rfl)
    (of_decide_eq_true (by kernel_rfl)) (by unfold Func.isWrapper; first | (rw [if_pos (by decide +kernel)]; kernel_rfl) | (rw [if_neg (by decide +kernel)]; exact ⟨rfl, rfl⟩))
    (fun os started H enc _ => lifted os started H enc)

theorem proved : Rows.ProgCompilesSaid := over
#print axioms proved

end Go.Proofs.Ytldfafaiappibaa.LProgCompiles

