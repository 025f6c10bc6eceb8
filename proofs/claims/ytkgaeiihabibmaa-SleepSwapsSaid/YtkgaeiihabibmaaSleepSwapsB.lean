/- YtkgaeiihabibmaaSleepSwapsB: a part of the proof; no conditions of its own. -/
import Derived.KernelRfl
import Derived.Test.YtkgaeiihabibmaaSleepSwapsA
set_option linter.unusedVariables false
set_option linter.unusedSimpArgs false

namespace Jq
open Go

/- jacquard/jacquardref16.New: 180 -/
def jacquardref16_New_k2 (C : CallF) (L : LoopF) (G : Glo) (h0 : AHeap) : Ex → St → Option (List AV × AHeap) :=
  kSeq (fun st => jacquardref16_New_p1.exec C L G st (jacquardref16_New.fin G h0)) (jacquardref16_New.fin G h0)
def jacquardref16_New_k3 (C : CallF) (L : LoopF) (G : Glo) (h0 : AHeap) : Ex → St → Option (List AV × AHeap) :=
  kBlk 0 (jacquardref16_New_k2 C L G h0)
def jacquardref16_New_s1 (k5 : Nat) (N5 : Nat) (o5 : Nat) (a6 : Int) (s0 : List Cell) (h : AHeap) : St := ⟨[.top, .top, .loc 0 0, .top, .top, .v (.c (.ptr k5 N5 o5)), .v (.c (.int .i64 a6)), .top, .top, .top, .top, .top, .top, .top, .top, .top, .top, .top, .top, .top, .top, .top, .top, .top, .top, .top, .top, .top, .top, .top, .top, .top, .top, .top, .top, .top, .top, .top, .top, .top, .top, .top, .top, .top, .top, .top], [some s0], h⟩
def jacquardref16_New_F1 (C : CallF) (L : LoopF) (G : Glo) : St → Option (Ex × St) :=
  roundF (fun st f => jacquardref16_New_b1.exec C L G st f) [2, 5, 6] [0] [(1, [2, 5], [0])]
def jacquardref16_New_x1_1 (k5 : Nat) (N5 : Nat) (o5 : Nat) (s0 : List Cell) (h : AHeap) : St := ⟨[.top, .top, .loc 0 0, .top, .top, .v (.c (.ptr k5 N5 o5)), .top, .top, .top, .top, .top, .top, .top, .top, .top, .top, .top, .top, .top, .top, .top, .top, .top, .top, .top, .top, .top, .top, .top, .top, .top, .top, .top, .top, .top, .top, .top, .top, .top, .top, .top, .top, .top, .top, .top, .top], [some s0], h⟩
def jacquardref16_New_k4 (C : CallF) (L : LoopF) (G : Glo) (h0 : AHeap) : Ex → St → Option (List AV × AHeap) :=
  kSeq (fun st => jacquardref16_New_p2.exec C L G st (jacquardref16_New.fin G h0)) (jacquardref16_New.fin G h0)
def jacquardref16_New_k5 (C : CallF) (L : LoopF) (G : Glo) (h0 : AHeap) : Ex → St → Option (List AV × AHeap) :=
  kBlk 2 (jacquardref16_New_k4 C L G h0)
def jacquardref16_New_s2 (k5 : Nat) (N5 : Nat) (o5 : Nat) (a7 : Int) (s0 : List Cell) (h : AHeap) : St := ⟨[.top, .top, .loc 0 0, .top, .top, .v (.c (.ptr k5 N5 o5)), .top, .v (.c (.int .i64 a7)), .top, .top, .top, .top, .top, .top, .top, .top, .top, .top, .top, .top, .top, .top, .top, .top, .top, .top, .top, .top, .top, .top, .top, .top, .top, .top, .top, .top, .top, .top, .top, .top, .top, .top, .top, .top, .top, .top], [some s0], h⟩
def jacquardref16_New_F2 (C : CallF) (L : LoopF) (G : Glo) : St → Option (Ex × St) :=
  roundF (fun st f => jacquardref16_New_b2.exec C L G st f) [2, 5, 7] [0] [(3, [5], [])]
def jacquardref16_New_x2_3 (k5 : Nat) (N5 : Nat) (o5 : Nat) (h : AHeap) : St := ⟨[.top, .top, .top, .top, .top, .v (.c (.ptr k5 N5 o5)), .top, .top, .top, .top, .top, .top, .top, .top, .top, .top, .top, .top, .top, .top, .top, .top, .top, .top, .top, .top, .top, .top, .top, .top, .top, .top, .top, .top, .top, .top, .top, .top, .top, .top, .top, .top, .top, .top, .top, .top], [none], h⟩
theorem jacquardref16_New_r1 (C : CallF) (L : LoopF) (G : Glo) (k5 : Nat) (N5 : Nat) (o5 : Nat) (a6 : Int) (s0 : List Cell) (h : AHeap) :
    jacquardref16_New_F1 C L G (jacquardref16_New_s1 k5 N5 o5 a6 s0 h) =
    atK s0 1 fun q_1 => lenK q_1 fun n_2 => if (decide (a6 < n_2)) = true then atK s0 1 fun q_3 => idxSK 1 q_3 a6 fun k_4 N_5 o_6 => rdH h k_4 N_5 fun l_7 => atK l_7 o_6 fun q_8 => asI .i64 (.c q_8) fun n_9 => if 0 ≤ a6 ∧ a6 < ((4 : Nat) : Int) then rdH h k5 N5 fun l_10 => if ((o5 + 4) + ((Int.toNat a6) * 1)) < l_10.length then putH h k5 (l_10.set ((o5 + 4) + ((Int.toNat a6) * 1)) (.int .i64 n_9)) fun h_11 => some (.normal, (jacquardref16_New_s1 k5 N5 o5 (G.wrap .i64 (a6 + 1)) s0 h_11)) else none else none else some ((.exit 0), (jacquardref16_New_x1_1 k5 N5 o5 s0 h)) := by kernel_rfl
theorem jacquardref16_New_r2 (C : CallF) (L : LoopF) (G : Glo) (k5 : Nat) (N5 : Nat) (o5 : Nat) (a7 : Int) (s0 : List Cell) (h : AHeap) :
    jacquardref16_New_F2 C L G (jacquardref16_New_s2 k5 N5 o5 a7 s0 h) =
    atK s0 2 fun q_12 => lenK q_12 fun n_13 => if (decide (a7 < n_13)) = true then if 0 = 0 ∧ s0.length = 3 then c1 (qh h (C 104 [(.agg s0), (.c (.int .i64 a7))] h)) fun y_15 h_14 => asA y_15 fun l_16 => if 0 ≤ a7 ∧ a7 < ((4 : Nat) : Int) then rdH h k5 N5 fun l_17 => if ((o5 + 12) + ((Int.toNat a7) * 5)) + 5 ≤ l_17.length ∧ l_16.length = 5 then putH h k5 (splice l_17 ((o5 + 12) + ((Int.toNat a7) * 5)) l_16) fun h_18 => some (.normal, (jacquardref16_New_s2 k5 N5 o5 (G.wrap .i64 (a7 + 1)) s0 h_18)) else none else none else none else some ((.exit 2), (jacquardref16_New_x2_3 k5 N5 o5 h)) := by kernel_rfl
theorem jacquardref16_New_e2_3 (C : CallF) (L : LoopF) (G : Glo) (h0 : AHeap) (k5 : Nat) (N5 : Nat) (o5 : Nat) (h : AHeap) :
    (jacquardref16_New_k5 C L G h0) (.exit 2) (jacquardref16_New_x2_3 k5 N5 o5 h) =
    some ([(.c (.ptr k5 N5 o5))], h) := by kernel_rfl
theorem jacquardref16_New_e1_1 (C : CallF) (L : LoopF) (G : Glo) (h0 : AHeap) (k5 : Nat) (N5 : Nat) (o5 : Nat) (s0 : List Cell) (h : AHeap) :
    (jacquardref16_New_k3 C L G h0) (.exit 0) (jacquardref16_New_x1_1 k5 N5 o5 s0 h) =
    (L (jacquardref16_New_F2 C L G) (jacquardref16_New_s2 k5 N5 o5 0 s0 h)).bind fun p_19 => (jacquardref16_New_k5 C L G h0) p_19.1 p_19.2 := by kernel_rfl
set_option maxRecDepth 100000 in
theorem jacquardref16_New_eq (C : CallF) (L : LoopF) (G : Glo) (l0 : List Cell) (a1 : Int) (h0 : AHeap) :
    jacquardref16_New.body C L G [(.agg l0), (.c (.int .i64 a1))] h0 =
    if 0 = 0 ∧ l0.length = 3 then if l0.length = 3 ∧ 0 + 3 ≤ ([Cell.nils, Cell.nils, Cell.nils] ++ List.replicate 29 (Cell.int .i64 0) ++ List.replicate 5 (Cell.nils)).length then if ([(.int .i64 a1)] : List Cell).length = 1 ∧ 3 + 1 ≤ (splice ([Cell.nils, Cell.nils, Cell.nils] ++ List.replicate 29 (Cell.int .i64 0) ++ List.replicate 5 (Cell.nils)) 0 l0).length then if (splice (splice (splice (splice [Cell.int .i64 0, Cell.int .i64 0, Cell.int .i64 0, Cell.int .i64 0] 0 ([(.int .i64 (-1))] : List Cell)) 1 ([(.int .i64 (-1))] : List Cell)) 2 ([(.int .i64 (-1))] : List Cell)) 3 ([(.int .i64 (-1))] : List Cell)).length = 4 ∧ 8 + 4 ≤ (splice (splice ([Cell.nils, Cell.nils, Cell.nils] ++ List.replicate 29 (Cell.int .i64 0) ++ List.replicate 5 (Cell.nils)) 0 l0) 3 ([(.int .i64 a1)] : List Cell)).length then (L (jacquardref16_New_F1 C L G) (jacquardref16_New_s1 h0.length ((AV.cells (.agg (splice (splice (splice ([Cell.nils, Cell.nils, Cell.nils] ++ List.replicate 29 (Cell.int .i64 0) ++ List.replicate 5 (Cell.nils)) 0 l0) 3 ([(.int .i64 a1)] : List Cell)) 8 (splice (splice (splice (splice [Cell.int .i64 0, Cell.int .i64 0, Cell.int .i64 0, Cell.int .i64 0] 0 ([(.int .i64 (-1))] : List Cell)) 1 ([(.int .i64 (-1))] : List Cell)) 2 ([(.int .i64 (-1))] : List Cell)) 3 ([(.int .i64 (-1))] : List Cell))))).length) 0 0 l0 (h0 ++ [some (Blk.mk true 0 (AV.cells (.agg (splice (splice (splice ([Cell.nils, Cell.nils, Cell.nils] ++ List.replicate 29 (Cell.int .i64 0) ++ List.replicate 5 (Cell.nils)) 0 l0) 3 ([(.int .i64 a1)] : List Cell)) 8 (splice (splice (splice (splice [Cell.int .i64 0, Cell.int .i64 0, Cell.int .i64 0, Cell.int .i64 0] 0 ([(.int .i64 (-1))] : List Cell)) 1 ([(.int .i64 (-1))] : List Cell)) 2 ([(.int .i64 (-1))] : List Cell)) 3 ([(.int .i64 (-1))] : List Cell))))))]))).bind fun p_20 => (jacquardref16_New_k3 C L G h0) p_20.1 p_20.2 else none else none else none else none := by kernel_rfl

/- (*jacquard/jacquardref16.VM).Enabled: 181 -/
def jacquardref16_VM_Enabled_k2 (C : CallF) (L : LoopF) (G : Glo) (h0 : AHeap) : Ex → St → Option (List AV × AHeap) :=
  kSeq (fun st => jacquardref16_VM_Enabled_p1.exec C L G st (jacquardref16_VM_Enabled.fin G h0)) (jacquardref16_VM_Enabled.fin G h0)
def jacquardref16_VM_Enabled_k3 (C : CallF) (L : LoopF) (G : Glo) (h0 : AHeap) : Ex → St → Option (List AV × AHeap) :=
  kBlk 0 (jacquardref16_VM_Enabled_k2 C L G h0)
def jacquardref16_VM_Enabled_s1 (k0 : Nat) (N0 : Nat) (o0 : Nat) (x3 : Cell) (a4 : Int) (h : AHeap) : St := ⟨[.v (.c (.ptr k0 N0 o0)), .top, .top, .v (.c x3), .v (.c (.int .i64 a4)), .top, .top, .top, .top, .top, .top, .top, .top, .top, .top, .top, .top], [], h⟩
def jacquardref16_VM_Enabled_F1 (C : CallF) (L : LoopF) (G : Glo) : St → Option (Ex × St) :=
  roundF (fun st f => jacquardref16_VM_Enabled_b1.exec C L G st f) [0, 3, 4] [] [(1, [3], [])]
def jacquardref16_VM_Enabled_x1_1 (x3 : Cell) (h : AHeap) : St := ⟨[.top, .top, .top, .v (.c x3), .top, .top, .top, .top, .top, .top, .top, .top, .top, .top, .top, .top, .top], [], h⟩
theorem jacquardref16_VM_Enabled_r1 (C : CallF) (L : LoopF) (G : Glo) (k0 : Nat) (N0 : Nat) (o0 : Nat) (x3 : Cell) (a4 : Int) (h : AHeap) :
    jacquardref16_VM_Enabled_F1 C L G (jacquardref16_VM_Enabled_s1 k0 N0 o0 x3 a4 h) =
    if (decide (a4 < 24)) = true then c1 (C 196 [(.c (.ptr k0 N0 o0)), (.c (.int .i64 a4))] h) fun y_2 h_1 => asB y_2 fun b_3 => if b_3 = true then if (splice [Cell.int .i64 0] 0 ([(.int .i64 a4)] : List Cell)).length = 1 * 1 then appK 1 8 x3 (splice [Cell.int .i64 0] 0 ([(.int .i64 a4)] : List Cell)) h_1 fun x_4 h_5 => some (.normal, (jacquardref16_VM_Enabled_s1 k0 N0 o0 x_4 (G.wrap .i64 (a4 + 1)) h_5)) else none else some (.normal, (jacquardref16_VM_Enabled_s1 k0 N0 o0 x3 (G.wrap .i64 (a4 + 1)) h_1)) else some ((.exit 0), (jacquardref16_VM_Enabled_x1_1 x3 h)) := by kernel_rfl
theorem jacquardref16_VM_Enabled_e1_1 (C : CallF) (L : LoopF) (G : Glo) (h0 : AHeap) (x3 : Cell) (h : AHeap) :
    (jacquardref16_VM_Enabled_k3 C L G h0) (.exit 0) (jacquardref16_VM_Enabled_x1_1 x3 h) =
    some ([(.c x3)], h) := by kernel_rfl
set_option maxRecDepth 100000 in
theorem jacquardref16_VM_Enabled_eq (C : CallF) (L : LoopF) (G : Glo) (k0 : Nat) (N0 : Nat) (o0 : Nat) (h0 : AHeap) :
    jacquardref16_VM_Enabled.body C L G [(.c (.ptr k0 N0 o0))] h0 =
    (L (jacquardref16_VM_Enabled_F1 C L G) (jacquardref16_VM_Enabled_s1 k0 N0 o0 .nils 0 h0)).bind fun p_6 => (jacquardref16_VM_Enabled_k3 C L G h0) p_6.1 p_6.2 := by kernel_rfl

/- (*jacquard/jacquardref16.VM).Pick: 182 -/
def jacquardref16_VM_Pick_k2 (C : CallF) (L : LoopF) (G : Glo) (h0 : AHeap) : Ex → St → Option (List AV × AHeap) :=
  kSeq (fun st => jacquardref16_VM_Pick_p1.exec C L G st (jacquardref16_VM_Pick.fin G h0)) (jacquardref16_VM_Pick.fin G h0)
def jacquardref16_VM_Pick_c1_0 (b5 : Bool) (s0 : List Cell) (h : AHeap) : St := ⟨[.top, .top, .top, .top, .loc 0 0, .v (.c (.bool b5)), .top, .top, .top, .top, .top, .top, .top, .top, .top, .top, .top, .top, .top, .top, .top, .top, .top, .top, .top, .top, .top, .top, .top, .top, .top, .top, .top, .top, .top, .top, .top, .top, .top, .top, .top, .top, .top, .top, .top, .top, .top, .top, .top, .top, .top, .top, .top, .top, .top, .top, .top, .top, .top, .top, .top, .top, .top, .top, .top, .top, .top, .top, .top, .top, .top, .top, .top, .top, .top, .top, .top, .top, .top, .top, .top, .top, .top, .top, .top, .top, .top, .top, .top, .top, .top, .top, .top, .top, .top, .top, .top, .top, .top, .top, .top, .top, .top, .top, .top, .top, .top, .top, .top, .top, .top, .top, .top, .top, .top, .top, .top, .top, .top, .top, .top, .top, .top, .top, .top, .top, .top, .top, .top, .top, .top, .top, .top, .top, .top, .top, .top, .top, .top, .top, .top, .top, .top, .top, .top, .top, .top, .top, .top, .top, .top, .top, .top, .top, .top, .top, .top, .top, .top, .top, .top, .top, .top, .top, .top, .top, .top, .top, .top, .top, .top, .top, .top, .top, .top, .top, .top, .top, .top, .top, .top, .top, .top, .top, .top, .top, .top, .top, .top, .top, .top, .top, .top, .top, .top, .top, .top, .top, .top, .top, .top, .top, .top, .top, .top, .top, .top, .top, .top, .top, .top, .top, .top, .top, .top, .top, .top, .top, .top, .top, .top, .top, .top, .top, .top, .top, .top, .top, .top, .top, .top, .top, .top, .top, .top, .top, .top, .top, .top, .top, .top, .top, .top, .top, .top, .top, .top, .top, .top, .top, .top, .top, .top, .top, .top, .top, .top, .top, .top, .top, .top, .top, .top, .top, .top, .top, .top, .top, .top, .top, .top, .top, .top, .top, .top, .top, .top, .top, .top, .top, .top, .top, .top, .top, .top, .top, .top, .top, .top, .top, .top, .top, .top, .top, .top, .top, .top, .top, .top, .top, .top, .top, .top, .top, .top], [some s0, none, none, none, none], h⟩
def jacquardref16_VM_Pick_c1 (k0 : Nat) (N0 : Nat) (o0 : Nat) (a1 : Int) (s0 : List Cell) (h : AHeap) : St := ⟨[.v (.c (.ptr k0 N0 o0)), .v (.c (.int .i64 a1)), .top, .top, .loc 0 0, .top, .top, .top, .top, .top, .top, .top, .top, .top, .top, .top, .top, .top, .top, .top, .top, .top, .top, .top, .top, .top, .top, .top, .top, .top, .top, .top, .top, .top, .top, .top, .top, .top, .top, .top, .top, .top, .top, .top, .top, .top, .top, .top, .top, .top, .top, .top, .top, .top, .top, .top, .top, .top, .top, .top, .top, .top, .top, .top, .top, .top, .top, .top, .top, .top, .top, .top, .top, .top, .top, .top, .top, .top, .top, .top, .top, .top, .top, .top, .top, .top, .top, .top, .top, .top, .top, .top, .top, .top, .top, .top, .top, .top, .top, .top, .top, .top, .top, .top, .top, .top, .top, .top, .top, .top, .top, .top, .top, .top, .top, .top, .top, .top, .top, .top, .top, .top, .top, .top, .top, .top, .top, .top, .top, .top, .top, .top, .top, .top, .top, .top, .top, .top, .top, .top, .top, .top, .top, .top, .top, .top, .top, .top, .top, .top, .top, .top, .top, .top, .top, .top, .top, .top, .top, .top, .top, .top, .top, .top, .top, .top, .top, .top, .top, .top, .top, .top, .top, .top, .top, .top, .top, .top, .top, .top, .top, .top, .top, .top, .top, .top, .top, .top, .top, .top, .top, .top, .top, .top, .top, .top, .top, .top, .top, .top, .top, .top, .top, .top, .top, .top, .top, .top, .top, .top, .top, .top, .top, .top, .top, .top, .top, .top, .top, .top, .top, .top, .top, .top, .top, .top, .top, .top, .top, .top, .top, .top, .top, .top, .top, .top, .top, .top, .top, .top, .top, .top, .top, .top, .top, .top, .top, .top, .top, .top, .top, .top, .top, .top, .top, .top, .top, .top, .top, .top, .top, .top, .top, .top, .top, .top, .top, .top, .top, .top, .top, .top, .top, .top, .top, .top, .top, .top, .top, .top, .top, .top, .top, .top, .top, .top, .top, .top, .top, .top, .top, .top, .top, .top, .top, .top, .top, .top, .top, .top, .top, .top, .top, .top, .top], [some s0, none, none, none, none], h⟩
def jacquardref16_VM_Pick_k3 (C : CallF) (L : LoopF) (G : Glo) (h0 : AHeap) : Ex → St → Option (List AV × AHeap) :=
  kSeq (fun st => jacquardref16_VM_Pick_p2.exec C L G st (jacquardref16_VM_Pick.fin G h0)) (jacquardref16_VM_Pick.fin G h0)
def jacquardref16_VM_Pick_c2 (k0 : Nat) (N0 : Nat) (o0 : Nat) (a1 : Int) (a6 : Int) (s0 : List Cell) (h : AHeap) : St := ⟨[.v (.c (.ptr k0 N0 o0)), .v (.c (.int .i64 a1)), .top, .top, .loc 0 0, .top, .v (.c (.int .i64 a6)), .top, .top, .top, .top, .top, .top, .top, .top, .top, .top, .top, .top, .top, .top, .top, .top, .top, .top, .top, .top, .top, .top, .top, .top, .top, .top, .top, .top, .top, .top, .top, .top, .top, .top, .top, .top, .top, .top, .top, .top, .top, .top, .top, .top, .top, .top, .top, .top, .top, .top, .top, .top, .top, .top, .top, .top, .top, .top, .top, .top, .top, .top, .top, .top, .top, .top, .top, .top, .top, .top, .top, .top, .top, .top, .top, .top, .top, .top, .top, .top, .top, .top, .top, .top, .top, .top, .top, .top, .top, .top, .top, .top, .top, .top, .top, .top, .top, .top, .top, .top, .top, .top, .top, .top, .top, .top, .top, .top, .top, .top, .top, .top, .top, .top, .top, .top, .top, .top, .top, .top, .top, .top, .top, .top, .top, .top, .top, .top, .top, .top, .top, .top, .top, .top, .top, .top, .top, .top, .top, .top, .top, .top, .top, .top, .top, .top, .top, .top, .top, .top, .top, .top, .top, .top, .top, .top, .top, .top, .top, .top, .top, .top, .top, .top, .top, .top, .top, .top, .top, .top, .top, .top, .top, .top, .top, .top, .top, .top, .top, .top, .top, .top, .top, .top, .top, .top, .top, .top, .top, .top, .top, .top, .top, .top, .top, .top, .top, .top, .top, .top, .top, .top, .top, .top, .top, .top, .top, .top, .top, .top, .top, .top, .top, .top, .top, .top, .top, .top, .top, .top, .top, .top, .top, .top, .top, .top, .top, .top, .top, .top, .top, .top, .top, .top, .top, .top, .top, .top, .top, .top, .top, .top, .top, .top, .top, .top, .top, .top, .top, .top, .top, .top, .top, .top, .top, .top, .top, .top, .top, .top, .top, .top, .top, .top, .top, .top, .top, .top, .top, .top, .top, .top, .top, .top, .top, .top, .top, .top, .top, .top, .top, .top, .top, .top, .top, .top, .top, .top, .top, .top, .top, .top, .top, .top, .top, .top, .top, .top], [some s0, none, none, none, none], h⟩
def jacquardref16_VM_Pick_k4 (C : CallF) (L : LoopF) (G : Glo) (h0 : AHeap) : Ex → St → Option (List AV × AHeap) :=
  kSeq (fun st => jacquardref16_VM_Pick_p3.exec C L G st (jacquardref16_VM_Pick.fin G h0)) (jacquardref16_VM_Pick.fin G h0)
def jacquardref16_VM_Pick_c3 (k0 : Nat) (N0 : Nat) (o0 : Nat) (a1 : Int) (a6 : Int) (s0 : List Cell) (s1 : List Cell) (h : AHeap) : St := ⟨[.v (.c (.ptr k0 N0 o0)), .v (.c (.int .i64 a1)), .top, .top, .loc 0 0, .top, .v (.c (.int .i64 a6)), .loc 1 0, .top, .top, .top, .top, .top, .top, .top, .top, .top, .top, .top, .top, .top, .top, .top, .top, .top, .top, .top, .top, .top, .top, .top, .top, .top, .top, .top, .top, .top, .top, .top, .top, .top, .top, .top, .top, .top, .top, .top, .top, .top, .top, .top, .top, .top, .top, .top, .top, .top, .top, .top, .top, .top, .top, .top, .top, .top, .top, .top, .top, .top, .top, .top, .top, .top, .top, .top, .top, .top, .top, .top, .top, .top, .top, .top, .top, .top, .top, .top, .top, .top, .top, .top, .top, .top, .top, .top, .top, .top, .top, .top, .top, .top, .top, .top, .top, .top, .top, .top, .top, .top, .top, .top, .top, .top, .top, .top, .top, .top, .top, .top, .top, .top, .top, .top, .top, .top, .top, .top, .top, .top, .top, .top, .top, .top, .top, .top, .top, .top, .top, .top, .top, .top, .top, .top, .top, .top, .top, .top, .top, .top, .top, .top, .top, .top, .top, .top, .top, .top, .top, .top, .top, .top, .top, .top, .top, .top, .top, .top, .top, .top, .top, .top, .top, .top, .top, .top, .top, .top, .top, .top, .top, .top, .top, .top, .top, .top, .top, .top, .top, .top, .top, .top, .top, .top, .top, .top, .top, .top, .top, .top, .top, .top, .top, .top, .top, .top, .top, .top, .top, .top, .top, .top, .top, .top, .top, .top, .top, .top, .top, .top, .top, .top, .top, .top, .top, .top, .top, .top, .top, .top, .top, .top, .top, .top, .top, .top, .top, .top, .top, .top, .top, .top, .top, .top, .top, .top, .top, .top, .top, .top, .top, .top, .top, .top, .top, .top, .top, .top, .top, .top, .top, .top, .top, .top, .top, .top, .top, .top, .top, .top, .top, .top, .top, .top, .top, .top, .top, .top, .top, .top, .top, .top, .top, .top, .top, .top, .top, .top, .top, .top, .top, .top, .top, .top, .top, .top, .top, .top, .top, .top, .top, .top, .top, .top, .top, .top], [some s0, some s1, none, none, none], h⟩
def jacquardref16_VM_Pick_k5 (C : CallF) (L : LoopF) (G : Glo) (h0 : AHeap) : Ex → St → Option (List AV × AHeap) :=
  kSeq (fun st => jacquardref16_VM_Pick_p4.exec C L G st (jacquardref16_VM_Pick.fin G h0)) (jacquardref16_VM_Pick.fin G h0)
def jacquardref16_VM_Pick_k6 (C : CallF) (L : LoopF) (G : Glo) : Ex → St → Option (Ex × St) :=
  kSeq (fun st => jacquardref16_VM_Pick_p5.exec C L G st (kLoop [0, 1, 4, 6, 7] [0, 1] [(0, [4, 5], [0])])) (kLoop [0, 1, 4, 6, 7] [0, 1] [(0, [4, 5], [0])])
def jacquardref16_VM_Pick_c5 (k0 : Nat) (N0 : Nat) (o0 : Nat) (a1 : Int) (a6 : Int) (a8 : Int) (a9 : Int) (b10 : Bool) (s0 : List Cell) (s1 : List Cell) (h : AHeap) : St := ⟨[.v (.c (.ptr k0 N0 o0)), .v (.c (.int .i64 a1)), .top, .top, .loc 0 0, .top, .v (.c (.int .i64 a6)), .loc 1 0, .v (.c (.int .i64 a8)), .v (.c (.int .i64 a9)), .v (.c (.bool b10)), .top, .top, .top, .top, .top, .top, .top, .top, .top, .top, .top, .top, .top, .top, .top, .top, .top, .top, .top, .top, .top, .top, .top, .top, .top, .top, .top, .top, .top, .top, .top, .top, .top, .top, .top, .top, .top, .top, .top, .top, .top, .top, .top, .top, .top, .top, .top, .top, .top, .top, .top, .top, .top, .top, .top, .top, .top, .top, .top, .top, .top, .top, .top, .top, .top, .top, .top, .top, .top, .top, .top, .top, .top, .top, .top, .top, .top, .top, .top, .top, .top, .top, .top, .top, .top, .top, .top, .top, .top, .top, .top, .top, .top, .top, .top, .top, .top, .top, .top, .top, .top, .top, .top, .top, .top, .top, .top, .top, .top, .top, .top, .top, .top, .top, .top, .top, .top, .top, .top, .top, .top, .top, .top, .top, .top, .top, .top, .top, .top, .top, .top, .top, .top, .top, .top, .top, .top, .top, .top, .top, .top, .top, .top, .top, .top, .top, .top, .top, .top, .top, .top, .top, .top, .top, .top, .top, .top, .top, .top, .top, .top, .top, .top, .top, .top, .top, .top, .top, .top, .top, .top, .top, .top, .top, .top, .top, .top, .top, .top, .top, .top, .top, .top, .top, .top, .top, .top, .top, .top, .top, .top, .top, .top, .top, .top, .top, .top, .top, .top, .top, .top, .top, .top, .top, .top, .top, .top, .top, .top, .top, .top, .top, .top, .top, .top, .top, .top, .top, .top, .top, .top, .top, .top, .top, .top, .top, .top, .top, .top, .top, .top, .top, .top, .top, .top, .top, .top, .top, .top, .top, .top, .top, .top, .top, .top, .top, .top, .top, .top, .top, .top, .top, .top, .top, .top, .top, .top, .top, .top, .top, .top, .top, .top, .top, .top, .top, .top, .top, .top, .top, .top, .top, .top, .top, .top, .top, .top, .top, .top, .top, .top, .top, .top, .top, .top, .top, .top, .top, .top, .top, .top, .top, .top, .top], [some s0, some s1, none, none, none], h⟩
def jacquardref16_VM_Pick_k7 (C : CallF) (L : LoopF) (G : Glo) : Ex → St → Option (Ex × St) :=
  kSeq (fun st => jacquardref16_VM_Pick_p6.exec C L G st (kLoop [0, 1, 4, 6, 7] [0, 1] [(0, [4, 5], [0])])) (kLoop [0, 1, 4, 6, 7] [0, 1] [(0, [4, 5], [0])])
def jacquardref16_VM_Pick_c6 (k0 : Nat) (N0 : Nat) (o0 : Nat) (a8 : Int) (a11 : Int) (s0 : List Cell) (s1 : List Cell) (h : AHeap) : St := ⟨[.v (.c (.ptr k0 N0 o0)), .top, .top, .top, .loc 0 0, .top, .top, .loc 1 0, .v (.c (.int .i64 a8)), .top, .top, .v (.c (.int .i64 a11)), .top, .top, .top, .top, .top, .top, .top, .top, .top, .top, .top, .top, .top, .top, .top, .top, .top, .top, .top, .top, .top, .top, .top, .top, .top, .top, .top, .top, .top, .top, .top, .top, .top, .top, .top, .top, .top, .top, .top, .top, .top, .top, .top, .top, .top, .top, .top, .top, .top, .top, .top, .top, .top, .top, .top, .top, .top, .top, .top, .top, .top, .top, .top, .top, .top, .top, .top, .top, .top, .top, .top, .top, .top, .top, .top, .top, .top, .top, .top, .top, .top, .top, .top, .top, .top, .top, .top, .top, .top, .top, .top, .top, .top, .top, .top, .top, .top, .top, .top, .top, .top, .top, .top, .top, .top, .top, .top, .top, .top, .top, .top, .top, .top, .top, .top, .top, .top, .top, .top, .top, .top, .top, .top, .top, .top, .top, .top, .top, .top, .top, .top, .top, .top, .top, .top, .top, .top, .top, .top, .top, .top, .top, .top, .top, .top, .top, .top, .top, .top, .top, .top, .top, .top, .top, .top, .top, .top, .top, .top, .top, .top, .top, .top, .top, .top, .top, .top, .top, .top, .top, .top, .top, .top, .top, .top, .top, .top, .top, .top, .top, .top, .top, .top, .top, .top, .top, .top, .top, .top, .top, .top, .top, .top, .top, .top, .top, .top, .top, .top, .top, .top, .top, .top, .top, .top, .top, .top, .top, .top, .top, .top, .top, .top, .top, .top, .top, .top, .top, .top, .top, .top, .top, .top, .top, .top, .top, .top, .top, .top, .top, .top, .top, .top, .top, .top, .top, .top, .top, .top, .top, .top, .top, .top, .top, .top, .top, .top, .top, .top, .top, .top, .top, .top, .top, .top, .top, .top, .top, .top, .top, .top, .top, .top, .top, .top, .top, .top, .top, .top, .top, .top, .top, .top, .top, .top, .top, .top, .top, .top, .top, .top, .top, .top, .top, .top, .top, .top, .top, .top, .top, .top, .top, .top], [some s0, some s1, none, none, none], h⟩
def jacquardref16_VM_Pick_k8 (C : CallF) (L : LoopF) (G : Glo) : Ex → St → Option (Ex × St) :=
  kSeq (fun st => jacquardref16_VM_Pick_p7.exec C L G st (kLoop [0, 1, 4, 6, 7] [0, 1] [(0, [4, 5], [0])])) (kLoop [0, 1, 4, 6, 7] [0, 1] [(0, [4, 5], [0])])
def jacquardref16_VM_Pick_c7 (k0 : Nat) (N0 : Nat) (o0 : Nat) (a8 : Int) (a11 : Int) (s0 : List Cell) (s1 : List Cell) (s2 : List Cell) (h : AHeap) : St := ⟨[.v (.c (.ptr k0 N0 o0)), .top, .top, .top, .loc 0 0, .top, .top, .loc 1 0, .v (.c (.int .i64 a8)), .top, .top, .v (.c (.int .i64 a11)), .loc 2 0, .top, .top, .top, .top, .top, .top, .top, .top, .top, .top, .top, .top, .top, .top, .top, .top, .top, .top, .top, .top, .top, .top, .top, .top, .top, .top, .top, .top, .top, .top, .top, .top, .top, .top, .top, .top, .top, .top, .top, .top, .top, .top, .top, .top, .top, .top, .top, .top, .top, .top, .top, .top, .top, .top, .top, .top, .top, .top, .top, .top, .top, .top, .top, .top, .top, .top, .top, .top, .top, .top, .top, .top, .top, .top, .top, .top, .top, .top, .top, .top, .top, .top, .top, .top, .top, .top, .top, .top, .top, .top, .top, .top, .top, .top, .top, .top, .top, .top, .top, .top, .top, .top, .top, .top, .top, .top, .top, .top, .top, .top, .top, .top, .top, .top, .top, .top, .top, .top, .top, .top, .top, .top, .top, .top, .top, .top, .top, .top, .top, .top, .top, .top, .top, .top, .top, .top, .top, .top, .top, .top, .top, .top, .top, .top, .top, .top, .top, .top, .top, .top, .top, .top, .top, .top, .top, .top, .top, .top, .top, .top, .top, .top, .top, .top, .top, .top, .top, .top, .top, .top, .top, .top, .top, .top, .top, .top, .top, .top, .top, .top, .top, .top, .top, .top, .top, .top, .top, .top, .top, .top, .top, .top, .top, .top, .top, .top, .top, .top, .top, .top, .top, .top, .top, .top, .top, .top, .top, .top, .top, .top, .top, .top, .top, .top, .top, .top, .top, .top, .top, .top, .top, .top, .top, .top, .top, .top, .top, .top, .top, .top, .top, .top, .top, .top, .top, .top, .top, .top, .top, .top, .top, .top, .top, .top, .top, .top, .top, .top, .top, .top, .top, .top, .top, .top, .top, .top, .top, .top, .top, .top, .top, .top, .top, .top, .top, .top, .top, .top, .top, .top, .top, .top, .top, .top, .top, .top, .top, .top, .top, .top, .top, .top, .top, .top, .top, .top, .top, .top, .top, .top, .top, .top], [some s0, some s1, some s2, none, none], h⟩
def jacquardref16_VM_Pick_k9 (C : CallF) (L : LoopF) (G : Glo) : Ex → St → Option (Ex × St) :=
  kSeq (fun st => jacquardref16_VM_Pick_p8.exec C L G st (kLoop [0, 1, 4, 6, 7] [0, 1] [(0, [4, 5], [0])])) (kLoop [0, 1, 4, 6, 7] [0, 1] [(0, [4, 5], [0])])
def jacquardref16_VM_Pick_c8 (k0 : Nat) (N0 : Nat) (o0 : Nat) (a8 : Int) (s0 : List Cell) (s1 : List Cell) (s2 : List Cell) (h : AHeap) : St := ⟨[.v (.c (.ptr k0 N0 o0)), .top, .top, .top, .loc 0 0, .top, .top, .loc 1 0, .v (.c (.int .i64 a8)), .top, .top, .top, .loc 2 0, .top, .top, .top, .top, .top, .top, .top, .top, .top, .top, .top, .top, .top, .top, .top, .top, .top, .top, .top, .top, .top, .top, .top, .top, .top, .top, .top, .top, .top, .top, .top, .top, .top, .top, .top, .top, .top, .top, .top, .top, .top, .top, .top, .top, .top, .top, .top, .top, .top, .top, .top, .top, .top, .top, .top, .top, .top, .top, .top, .top, .top, .top, .top, .top, .top, .top, .top, .top, .top, .top, .top, .top, .top, .top, .top, .top, .top, .top, .top, .top, .top, .top, .top, .top, .top, .top, .top, .top, .top, .top, .top, .top, .top, .top, .top, .top, .top, .top, .top, .top, .top, .top, .top, .top, .top, .top, .top, .top, .top, .top, .top, .top, .top, .top, .top, .top, .top, .top, .top, .top, .top, .top, .top, .top, .top, .top, .top, .top, .top, .top, .top, .top, .top, .top, .top, .top, .top, .top, .top, .top, .top, .top, .top, .top, .top, .top, .top, .top, .top, .top, .top, .top, .top, .top, .top, .top, .top, .top, .top, .top, .top, .top, .top, .top, .top, .top, .top, .top, .top, .top, .top, .top, .top, .top, .top, .top, .top, .top, .top, .top, .top, .top, .top, .top, .top, .top, .top, .top, .top, .top, .top, .top, .top, .top, .top, .top, .top, .top, .top, .top, .top, .top, .top, .top, .top, .top, .top, .top, .top, .top, .top, .top, .top, .top, .top, .top, .top, .top, .top, .top, .top, .top, .top, .top, .top, .top, .top, .top, .top, .top, .top, .top, .top, .top, .top, .top, .top, .top, .top, .top, .top, .top, .top, .top, .top, .top, .top, .top, .top, .top, .top, .top, .top, .top, .top, .top, .top, .top, .top, .top, .top, .top, .top, .top, .top, .top, .top, .top, .top, .top, .top, .top, .top, .top, .top, .top, .top, .top, .top, .top, .top, .top, .top, .top, .top, .top, .top, .top, .top, .top, .top, .top], [some s0, some s1, some s2, none, none], h⟩
def jacquardref16_VM_Pick_k10 (C : CallF) (L : LoopF) (G : Glo) : Ex → St → Option (Ex × St) :=
  kSeq (fun st => jacquardref16_VM_Pick_p9.exec C L G st (kLoop [0, 1, 4, 6, 7] [0, 1] [(0, [4, 5], [0])])) (kLoop [0, 1, 4, 6, 7] [0, 1] [(0, [4, 5], [0])])
def jacquardref16_VM_Pick_c9 (k0 : Nat) (N0 : Nat) (o0 : Nat) (a8 : Int) (s0 : List Cell) (s1 : List Cell) (s2 : List Cell) (h : AHeap) : St := ⟨[.v (.c (.ptr k0 N0 o0)), .top, .top, .top, .loc 0 0, .top, .top, .loc 1 0, .v (.c (.int .i64 a8)), .top, .top, .top, .loc 2 0, .top, .top, .top, .top, .top, .top, .top, .top, .top, .top, .top, .top, .top, .top, .top, .top, .top, .top, .top, .top, .top, .top, .top, .top, .top, .top, .top, .top, .top, .top, .top, .top, .top, .top, .top, .top, .top, .top, .top, .top, .top, .top, .top, .top, .top, .top, .top, .top, .top, .top, .top, .top, .top, .top, .top, .top, .top, .top, .top, .top, .top, .top, .top, .top, .top, .top, .top, .top, .top, .top, .top, .top, .top, .top, .top, .top, .top, .top, .top, .top, .top, .top, .top, .top, .top, .top, .top, .top, .top, .top, .top, .top, .top, .top, .top, .top, .top, .top, .top, .top, .top, .top, .top, .top, .top, .top, .top, .top, .top, .top, .top, .top, .top, .top, .top, .top, .top, .top, .top, .top, .top, .top, .top, .top, .top, .top, .top, .top, .top, .top, .top, .top, .top, .top, .top, .top, .top, .top, .top, .top, .top, .top, .top, .top, .top, .top, .top, .top, .top, .top, .top, .top, .top, .top, .top, .top, .top, .top, .top, .top, .top, .top, .top, .top, .top, .top, .top, .top, .top, .top, .top, .top, .top, .top, .top, .top, .top, .top, .top, .top, .top, .top, .top, .top, .top, .top, .top, .top, .top, .top, .top, .top, .top, .top, .top, .top, .top, .top, .top, .top, .top, .top, .top, .top, .top, .top, .top, .top, .top, .top, .top, .top, .top, .top, .top, .top, .top, .top, .top, .top, .top, .top, .top, .top, .top, .top, .top, .top, .top, .top, .top, .top, .top, .top, .top, .top, .top, .top, .top, .top, .top, .top, .top, .top, .top, .top, .top, .top, .top, .top, .top, .top, .top, .top, .top, .top, .top, .top, .top, .top, .top, .top, .top, .top, .top, .top, .top, .top, .top, .top, .top, .top, .top, .top, .top, .top, .top, .top, .top, .top, .top, .top, .top, .top, .top, .top, .top, .top, .top, .top, .top, .top], [some s0, some s1, some s2, none, none], h⟩
def jacquardref16_VM_Pick_k11 (C : CallF) (L : LoopF) (G : Glo) : Ex → St → Option (Ex × St) :=
  kSeq (fun st => jacquardref16_VM_Pick_p10.exec C L G st (kLoop [0, 1, 4, 6, 7] [0, 1] [(0, [4, 5], [0])])) (kLoop [0, 1, 4, 6, 7] [0, 1] [(0, [4, 5], [0])])
def jacquardref16_VM_Pick_c10 (k0 : Nat) (N0 : Nat) (o0 : Nat) (s0 : List Cell) (s1 : List Cell) (h : AHeap) : St := ⟨[.v (.c (.ptr k0 N0 o0)), .top, .top, .top, .loc 0 0, .top, .top, .loc 1 0, .top, .top, .top, .top, .top, .top, .top, .top, .top, .top, .top, .top, .top, .top, .top, .top, .top, .top, .top, .top, .top, .top, .top, .top, .top, .top, .top, .top, .top, .top, .top, .top, .top, .top, .top, .top, .top, .top, .top, .top, .top, .top, .top, .top, .top, .top, .top, .top, .top, .top, .top, .top, .top, .top, .top, .top, .top, .top, .top, .top, .top, .top, .top, .top, .top, .top, .top, .top, .top, .top, .top, .top, .top, .top, .top, .top, .top, .top, .top, .top, .top, .top, .top, .top, .top, .top, .top, .top, .top, .top, .top, .top, .top, .top, .top, .top, .top, .top, .top, .top, .top, .top, .top, .top, .top, .top, .top, .top, .top, .top, .top, .top, .top, .top, .top, .top, .top, .top, .top, .top, .top, .top, .top, .top, .top, .top, .top, .top, .top, .top, .top, .top, .top, .top, .top, .top, .top, .top, .top, .top, .top, .top, .top, .top, .top, .top, .top, .top, .top, .top, .top, .top, .top, .top, .top, .top, .top, .top, .top, .top, .top, .top, .top, .top, .top, .top, .top, .top, .top, .top, .top, .top, .top, .top, .top, .top, .top, .top, .top, .top, .top, .top, .top, .top, .top, .top, .top, .top, .top, .top, .top, .top, .top, .top, .top, .top, .top, .top, .top, .top, .top, .top, .top, .top, .top, .top, .top, .top, .top, .top, .top, .top, .top, .top, .top, .top, .top, .top, .top, .top, .top, .top, .top, .top, .top, .top, .top, .top, .top, .top, .top, .top, .top, .top, .top, .top, .top, .top, .top, .top, .top, .top, .top, .top, .top, .top, .top, .top, .top, .top, .top, .top, .top, .top, .top, .top, .top, .top, .top, .top, .top, .top, .top, .top, .top, .top, .top, .top, .top, .top, .top, .top, .top, .top, .top, .top, .top, .top, .top, .top, .top, .top, .top, .top, .top, .top, .top, .top, .top, .top, .top, .top, .top, .top, .top, .top, .top], [some s0, some s1, none, none, none], h⟩
def jacquardref16_VM_Pick_c4_0 (b5 : Bool) (s0 : List Cell) (h : AHeap) : St := ⟨[.top, .top, .top, .top, .loc 0 0, .v (.c (.bool b5)), .top, .top, .top, .top, .top, .top, .top, .top, .top, .top, .top, .top, .top, .top, .top, .top, .top, .top, .top, .top, .top, .top, .top, .top, .top, .top, .top, .top, .top, .top, .top, .top, .top, .top, .top, .top, .top, .top, .top, .top, .top, .top, .top, .top, .top, .top, .top, .top, .top, .top, .top, .top, .top, .top, .top, .top, .top, .top, .top, .top, .top, .top, .top, .top, .top, .top, .top, .top, .top, .top, .top, .top, .top, .top, .top, .top, .top, .top, .top, .top, .top, .top, .top, .top, .top, .top, .top, .top, .top, .top, .top, .top, .top, .top, .top, .top, .top, .top, .top, .top, .top, .top, .top, .top, .top, .top, .top, .top, .top, .top, .top, .top, .top, .top, .top, .top, .top, .top, .top, .top, .top, .top, .top, .top, .top, .top, .top, .top, .top, .top, .top, .top, .top, .top, .top, .top, .top, .top, .top, .top, .top, .top, .top, .top, .top, .top, .top, .top, .top, .top, .top, .top, .top, .top, .top, .top, .top, .top, .top, .top, .top, .top, .top, .top, .top, .top, .top, .top, .top, .top, .top, .top, .top, .top, .top, .top, .top, .top, .top, .top, .top, .top, .top, .top, .top, .top, .top, .top, .top, .top, .top, .top, .top, .top, .top, .top, .top, .top, .top, .top, .top, .top, .top, .top, .top, .top, .top, .top, .top, .top, .top, .top, .top, .top, .top, .top, .top, .top, .top, .top, .top, .top, .top, .top, .top, .top, .top, .top, .top, .top, .top, .top, .top, .top, .top, .top, .top, .top, .top, .top, .top, .top, .top, .top, .top, .top, .top, .top, .top, .top, .top, .top, .top, .top, .top, .top, .top, .top, .top, .top, .top, .top, .top, .top, .top, .top, .top, .top, .top, .top, .top, .top, .top, .top, .top, .top, .top, .top, .top, .top, .top, .top, .top, .top, .top, .top, .top, .top, .top, .top, .top, .top, .top, .top, .top, .top, .top, .top, .top], [some s0, none, none, none, none], h⟩
def jacquardref16_VM_Pick_c4 (k0 : Nat) (N0 : Nat) (o0 : Nat) (a1 : Int) (a6 : Int) (s0 : List Cell) (s1 : List Cell) (h : AHeap) : St := ⟨[.v (.c (.ptr k0 N0 o0)), .v (.c (.int .i64 a1)), .top, .top, .loc 0 0, .top, .v (.c (.int .i64 a6)), .loc 1 0, .top, .top, .top, .top, .top, .top, .top, .top, .top, .top, .top, .top, .top, .top, .top, .top, .top, .top, .top, .top, .top, .top, .top, .top, .top, .top, .top, .top, .top, .top, .top, .top, .top, .top, .top, .top, .top, .top, .top, .top, .top, .top, .top, .top, .top, .top, .top, .top, .top, .top, .top, .top, .top, .top, .top, .top, .top, .top, .top, .top, .top, .top, .top, .top, .top, .top, .top, .top, .top, .top, .top, .top, .top, .top, .top, .top, .top, .top, .top, .top, .top, .top, .top, .top, .top, .top, .top, .top, .top, .top, .top, .top, .top, .top, .top, .top, .top, .top, .top, .top, .top, .top, .top, .top, .top, .top, .top, .top, .top, .top, .top, .top, .top, .top, .top, .top, .top, .top, .top, .top, .top, .top, .top, .top, .top, .top, .top, .top, .top, .top, .top, .top, .top, .top, .top, .top, .top, .top, .top, .top, .top, .top, .top, .top, .top, .top, .top, .top, .top, .top, .top, .top, .top, .top, .top, .top, .top, .top, .top, .top, .top, .top, .top, .top, .top, .top, .top, .top, .top, .top, .top, .top, .top, .top, .top, .top, .top, .top, .top, .top, .top, .top, .top, .top, .top, .top, .top, .top, .top, .top, .top, .top, .top, .top, .top, .top, .top, .top, .top, .top, .top, .top, .top, .top, .top, .top, .top, .top, .top, .top, .top, .top, .top, .top, .top, .top, .top, .top, .top, .top, .top, .top, .top, .top, .top, .top, .top, .top, .top, .top, .top, .top, .top, .top, .top, .top, .top, .top, .top, .top, .top, .top, .top, .top, .top, .top, .top, .top, .top, .top, .top, .top, .top, .top, .top, .top, .top, .top, .top, .top, .top, .top, .top, .top, .top, .top, .top, .top, .top, .top, .top, .top, .top, .top, .top, .top, .top, .top, .top, .top, .top, .top, .top, .top, .top, .top, .top, .top, .top, .top, .top, .top, .top, .top, .top, .top, .top], [some s0, some s1, none, none, none], h⟩
def jacquardref16_VM_Pick_k12 (C : CallF) (L : LoopF) (G : Glo) (h0 : AHeap) : Ex → St → Option (List AV × AHeap) :=
  kSeq (fun st => jacquardref16_VM_Pick_p11.exec C L G st (jacquardref16_VM_Pick.fin G h0)) (jacquardref16_VM_Pick.fin G h0)
def jacquardref16_VM_Pick_c11 (k0 : Nat) (N0 : Nat) (o0 : Nat) (a1 : Int) (a6 : Int) (s0 : List Cell) (s1 : List Cell) (s3 : List Cell) (h : AHeap) : St := ⟨[.v (.c (.ptr k0 N0 o0)), .v (.c (.int .i64 a1)), .top, .top, .loc 0 0, .top, .v (.c (.int .i64 a6)), .loc 1 0, .top, .top, .top, .top, .top, .loc 3 0, .top, .top, .top, .top, .top, .top, .top, .top, .top, .top, .top, .top, .top, .top, .top, .top, .top, .top, .top, .top, .top, .top, .top, .top, .top, .top, .top, .top, .top, .top, .top, .top, .top, .top, .top, .top, .top, .top, .top, .top, .top, .top, .top, .top, .top, .top, .top, .top, .top, .top, .top, .top, .top, .top, .top, .top, .top, .top, .top, .top, .top, .top, .top, .top, .top, .top, .top, .top, .top, .top, .top, .top, .top, .top, .top, .top, .top, .top, .top, .top, .top, .top, .top, .top, .top, .top, .top, .top, .top, .top, .top, .top, .top, .top, .top, .top, .top, .top, .top, .top, .top, .top, .top, .top, .top, .top, .top, .top, .top, .top, .top, .top, .top, .top, .top, .top, .top, .top, .top, .top, .top, .top, .top, .top, .top, .top, .top, .top, .top, .top, .top, .top, .top, .top, .top, .top, .top, .top, .top, .top, .top, .top, .top, .top, .top, .top, .top, .top, .top, .top, .top, .top, .top, .top, .top, .top, .top, .top, .top, .top, .top, .top, .top, .top, .top, .top, .top, .top, .top, .top, .top, .top, .top, .top, .top, .top, .top, .top, .top, .top, .top, .top, .top, .top, .top, .top, .top, .top, .top, .top, .top, .top, .top, .top, .top, .top, .top, .top, .top, .top, .top, .top, .top, .top, .top, .top, .top, .top, .top, .top, .top, .top, .top, .top, .top, .top, .top, .top, .top, .top, .top, .top, .top, .top, .top, .top, .top, .top, .top, .top, .top, .top, .top, .top, .top, .top, .top, .top, .top, .top, .top, .top, .top, .top, .top, .top, .top, .top, .top, .top, .top, .top, .top, .top, .top, .top, .top, .top, .top, .top, .top, .top, .top, .top, .top, .top, .top, .top, .top, .top, .top, .top, .top, .top, .top, .top, .top, .top, .top, .top, .top, .top, .top, .top, .top, .top, .top, .top, .top, .top, .top], [some s0, some s1, none, some s3, none], h⟩
def jacquardref16_VM_Pick_k13 (C : CallF) (L : LoopF) (G : Glo) (h0 : AHeap) : Ex → St → Option (List AV × AHeap) :=
  kSeq (fun st => jacquardref16_VM_Pick_p12.exec C L G st (jacquardref16_VM_Pick.fin G h0)) (jacquardref16_VM_Pick.fin G h0)
def jacquardref16_VM_Pick_k14 (C : CallF) (L : LoopF) (G : Glo) : Ex → St → Option (Ex × St) :=
  kSeq (fun st => jacquardref16_VM_Pick_p13.exec C L G st (kLoop [0, 1, 4, 6, 7, 13, 15] [0, 1, 3] [])) (kLoop [0, 1, 4, 6, 7, 13, 15] [0, 1, 3] [])
def jacquardref16_VM_Pick_c13 (k0 : Nat) (N0 : Nat) (o0 : Nat) (a1 : Int) (a6 : Int) (a15 : Int) (b138 : Bool) (s0 : List Cell) (s1 : List Cell) (s3 : List Cell) (h : AHeap) : St := ⟨[.v (.c (.ptr k0 N0 o0)), .v (.c (.int .i64 a1)), .top, .top, .loc 0 0, .top, .v (.c (.int .i64 a6)), .loc 1 0, .top, .top, .top, .top, .top, .loc 3 0, .top, .v (.c (.int .i64 a15)), .top, .top, .top, .top, .top, .top, .top, .top, .top, .top, .top, .top, .top, .top, .top, .top, .top, .top, .top, .top, .top, .top, .top, .top, .top, .top, .top, .top, .top, .top, .top, .top, .top, .top, .top, .top, .top, .top, .top, .top, .top, .top, .top, .top, .top, .top, .top, .top, .top, .top, .top, .top, .top, .top, .top, .top, .top, .top, .top, .top, .top, .top, .top, .top, .top, .top, .top, .top, .top, .top, .top, .top, .top, .top, .top, .top, .top, .top, .top, .top, .top, .top, .top, .top, .top, .top, .top, .top, .top, .top, .top, .top, .top, .top, .top, .top, .top, .top, .top, .top, .top, .top, .top, .top, .top, .top, .top, .top, .top, .top, .top, .top, .top, .top, .top, .top, .top, .top, .top, .top, .top, .top, .v (.c (.bool b138)), .top, .top, .top, .top, .top, .top, .top, .top, .top, .top, .top, .top, .top, .top, .top, .top, .top, .top, .top, .top, .top, .top, .top, .top, .top, .top, .top, .top, .top, .top, .top, .top, .top, .top, .top, .top, .top, .top, .top, .top, .top, .top, .top, .top, .top, .top, .top, .top, .top, .top, .top, .top, .top, .top, .top, .top, .top, .top, .top, .top, .top, .top, .top, .top, .top, .top, .top, .top, .top, .top, .top, .top, .top, .top, .top, .top, .top, .top, .top, .top, .top, .top, .top, .top, .top, .top, .top, .top, .top, .top, .top, .top, .top, .top, .top, .top, .top, .top, .top, .top, .top, .top, .top, .top, .top, .top, .top, .top, .top, .top, .top, .top, .top, .top, .top, .top, .top, .top, .top, .top, .top, .top, .top, .top, .top, .top, .top, .top, .top, .top, .top, .top, .top, .top, .top, .top, .top, .top, .top, .top, .top, .top, .top, .top, .top, .top, .top, .top, .top, .top, .top, .top, .top, .top, .top, .top, .top, .top, .top, .top, .top, .top, .top, .top, .top, .top], [some s0, some s1, none, some s3, none], h⟩
def jacquardref16_VM_Pick_k15 (C : CallF) (L : LoopF) (G : Glo) : Ex → St → Option (Ex × St) :=
  kSeq (fun st => jacquardref16_VM_Pick_p14.exec C L G st (kLoop [0, 1, 4, 6, 7, 13, 15] [0, 1, 3] [])) (kLoop [0, 1, 4, 6, 7, 13, 15] [0, 1, 3] [])
def jacquardref16_VM_Pick_c14 (k0 : Nat) (N0 : Nat) (o0 : Nat) (a1 : Int) (a6 : Int) (a15 : Int) (s0 : List Cell) (s1 : List Cell) (s3 : List Cell) (h : AHeap) : St := ⟨[.v (.c (.ptr k0 N0 o0)), .v (.c (.int .i64 a1)), .top, .top, .loc 0 0, .top, .v (.c (.int .i64 a6)), .loc 1 0, .top, .top, .top, .top, .top, .loc 3 0, .top, .v (.c (.int .i64 a15)), .top, .top, .top, .top, .top, .top, .top, .top, .top, .top, .top, .top, .top, .top, .top, .top, .top, .top, .top, .top, .top, .top, .top, .top, .top, .top, .top, .top, .top, .top, .top, .top, .top, .top, .top, .top, .top, .top, .top, .top, .top, .top, .top, .top, .top, .top, .top, .top, .top, .top, .top, .top, .top, .top, .top, .top, .top, .top, .top, .top, .top, .top, .top, .top, .top, .top, .top, .top, .top, .top, .top, .top, .top, .top, .top, .top, .top, .top, .top, .top, .top, .top, .top, .top, .top, .top, .top, .top, .top, .top, .top, .top, .top, .top, .top, .top, .top, .top, .top, .top, .top, .top, .top, .top, .top, .top, .top, .top, .top, .top, .top, .top, .top, .top, .top, .top, .top, .top, .top, .top, .top, .top, .top, .top, .top, .top, .top, .top, .top, .top, .top, .top, .top, .top, .top, .top, .top, .top, .top, .top, .top, .top, .top, .top, .top, .top, .top, .top, .top, .top, .top, .top, .top, .top, .top, .top, .top, .top, .top, .top, .top, .top, .top, .top, .top, .top, .top, .top, .top, .top, .top, .top, .top, .top, .top, .top, .top, .top, .top, .top, .top, .top, .top, .top, .top, .top, .top, .top, .top, .top, .top, .top, .top, .top, .top, .top, .top, .top, .top, .top, .top, .top, .top, .top, .top, .top, .top, .top, .top, .top, .top, .top, .top, .top, .top, .top, .top, .top, .top, .top, .top, .top, .top, .top, .top, .top, .top, .top, .top, .top, .top, .top, .top, .top, .top, .top, .top, .top, .top, .top, .top, .top, .top, .top, .top, .top, .top, .top, .top, .top, .top, .top, .top, .top, .top, .top, .top, .top, .top, .top, .top, .top, .top, .top, .top, .top, .top, .top, .top, .top, .top, .top, .top, .top, .top, .top, .top, .top, .top, .top, .top, .top, .top, .top, .top, .top, .top, .top, .top], [some s0, some s1, none, some s3, none], h⟩
def jacquardref16_VM_Pick_k16 (C : CallF) (L : LoopF) (G : Glo) : Ex → St → Option (Ex × St) :=
  kBlk 0 (kLoop [0, 1, 4, 6, 7, 13, 15] [0, 1, 3] [])
def jacquardref16_VM_Pick_s1 (k0 : Nat) (N0 : Nat) (o0 : Nat) (a1 : Int) (a6 : Int) (a15 : Int) (a16 : Int) (s0 : List Cell) (s1 : List Cell) (s3 : List Cell) (h : AHeap) : St := ⟨[.v (.c (.ptr k0 N0 o0)), .v (.c (.int .i64 a1)), .top, .top, .loc 0 0, .top, .v (.c (.int .i64 a6)), .loc 1 0, .top, .top, .top, .top, .top, .loc 3 0, .top, .v (.c (.int .i64 a15)), .v (.c (.int .i64 a16)), .top, .top, .top, .top, .top, .top, .top, .top, .top, .top, .top, .top, .top, .top, .top, .top, .top, .top, .top, .top, .top, .top, .top, .top, .top, .top, .top, .top, .top, .top, .top, .top, .top, .top, .top, .top, .top, .top, .top, .top, .top, .top, .top, .top, .top, .top, .top, .top, .top, .top, .top, .top, .top, .top, .top, .top, .top, .top, .top, .top, .top, .top, .top, .top, .top, .top, .top, .top, .top, .top, .top, .top, .top, .top, .top, .top, .top, .top, .top, .top, .top, .top, .top, .top, .top, .top, .top, .top, .top, .top, .top, .top, .top, .top, .top, .top, .top, .top, .top, .top, .top, .top, .top, .top, .top, .top, .top, .top, .top, .top, .top, .top, .top, .top, .top, .top, .top, .top, .top, .top, .top, .top, .top, .top, .top, .top, .top, .top, .top, .top, .top, .top, .top, .top, .top, .top, .top, .top, .top, .top, .top, .top, .top, .top, .top, .top, .top, .top, .top, .top, .top, .top, .top, .top, .top, .top, .top, .top, .top, .top, .top, .top, .top, .top, .top, .top, .top, .top, .top, .top, .top, .top, .top, .top, .top, .top, .top, .top, .top, .top, .top, .top, .top, .top, .top, .top, .top, .top, .top, .top, .top, .top, .top, .top, .top, .top, .top, .top, .top, .top, .top, .top, .top, .top, .top, .top, .top, .top, .top, .top, .top, .top, .top, .top, .top, .top, .top, .top, .top, .top, .top, .top, .top, .top, .top, .top, .top, .top, .top, .top, .top, .top, .top, .top, .top, .top, .top, .top, .top, .top, .top, .top, .top, .top, .top, .top, .top, .top, .top, .top, .top, .top, .top, .top, .top, .top, .top, .top, .top, .top, .top, .top, .top, .top, .top, .top, .top, .top, .top, .top, .top, .top, .top, .top, .top, .top, .top, .top, .top, .top, .top, .top, .top, .top, .top, .top, .top, .top], [some s0, some s1, none, some s3, none], h⟩
def jacquardref16_VM_Pick_F1 (C : CallF) (L : LoopF) (G : Glo) : St → Option (Ex × St) :=
  roundF (fun st f => jacquardref16_VM_Pick_b1.exec C L G st f) [0, 1, 4, 6, 7, 13, 15, 16] [0, 1, 3] [(1, [0, 1, 4, 6, 7, 13, 15], [0, 1, 3])]
def jacquardref16_VM_Pick_k17 (C : CallF) (L : LoopF) (G : Glo) : Ex → St → Option (Ex × St) :=
  kSeq (fun st => jacquardref16_VM_Pick_p15.exec C L G st (kLoop [0, 1, 4, 6, 7, 13, 15, 16] [0, 1, 3] [(1, [0, 1, 4, 6, 7, 13, 15], [0, 1, 3])])) (kLoop [0, 1, 4, 6, 7, 13, 15, 16] [0, 1, 3] [(1, [0, 1, 4, 6, 7, 13, 15], [0, 1, 3])])
def jacquardref16_VM_Pick_c15 (k0 : Nat) (N0 : Nat) (o0 : Nat) (a1 : Int) (a6 : Int) (a15 : Int) (a16 : Int) (s0 : List Cell) (s1 : List Cell) (s3 : List Cell) (h : AHeap) : St := ⟨[.v (.c (.ptr k0 N0 o0)), .v (.c (.int .i64 a1)), .top, .top, .loc 0 0, .top, .v (.c (.int .i64 a6)), .loc 1 0, .top, .top, .top, .top, .top, .loc 3 0, .top, .v (.c (.int .i64 a15)), .v (.c (.int .i64 a16)), .top, .top, .top, .top, .top, .top, .top, .top, .top, .top, .top, .top, .top, .top, .top, .top, .top, .top, .top, .top, .top, .top, .top, .top, .top, .top, .top, .top, .top, .top, .top, .top, .top, .top, .top, .top, .top, .top, .top, .top, .top, .top, .top, .top, .top, .top, .top, .top, .top, .top, .top, .top, .top, .top, .top, .top, .top, .top, .top, .top, .top, .top, .top, .top, .top, .top, .top, .top, .top, .top, .top, .top, .top, .top, .top, .top, .top, .top, .top, .top, .top, .top, .top, .top, .top, .top, .top, .top, .top, .top, .top, .top, .top, .top, .top, .top, .top, .top, .top, .top, .top, .top, .top, .top, .top, .top, .top, .top, .top, .top, .top, .top, .top, .top, .top, .top, .top, .top, .top, .top, .top, .top, .top, .top, .top, .top, .top, .top, .top, .top, .top, .top, .top, .top, .top, .top, .top, .top, .top, .top, .top, .top, .top, .top, .top, .top, .top, .top, .top, .top, .top, .top, .top, .top, .top, .top, .top, .top, .top, .top, .top, .top, .top, .top, .top, .top, .top, .top, .top, .top, .top, .top, .top, .top, .top, .top, .top, .top, .top, .top, .top, .top, .top, .top, .top, .top, .top, .top, .top, .top, .top, .top, .top, .top, .top, .top, .top, .top, .top, .top, .top, .top, .top, .top, .top, .top, .top, .top, .top, .top, .top, .top, .top, .top, .top, .top, .top, .top, .top, .top, .top, .top, .top, .top, .top, .top, .top, .top, .top, .top, .top, .top, .top, .top, .top, .top, .top, .top, .top, .top, .top, .top, .top, .top, .top, .top, .top, .top, .top, .top, .top, .top, .top, .top, .top, .top, .top, .top, .top, .top, .top, .top, .top, .top, .top, .top, .top, .top, .top, .top, .top, .top, .top, .top, .top, .top, .top, .top, .top, .top, .top, .top, .top, .top, .top, .top, .top, .top], [some s0, some s1, none, some s3, none], h⟩
def jacquardref16_VM_Pick_c15_1 (k0 : Nat) (N0 : Nat) (o0 : Nat) (a1 : Int) (a6 : Int) (a15 : Int) (s0 : List Cell) (s1 : List Cell) (s3 : List Cell) (h : AHeap) : St := ⟨[.v (.c (.ptr k0 N0 o0)), .v (.c (.int .i64 a1)), .top, .top, .loc 0 0, .top, .v (.c (.int .i64 a6)), .loc 1 0, .top, .top, .top, .top, .top, .loc 3 0, .top, .v (.c (.int .i64 a15)), .top, .top, .top, .top, .top, .top, .top, .top, .top, .top, .top, .top, .top, .top, .top, .top, .top, .top, .top, .top, .top, .top, .top, .top, .top, .top, .top, .top, .top, .top, .top, .top, .top, .top, .top, .top, .top, .top, .top, .top, .top, .top, .top, .top, .top, .top, .top, .top, .top, .top, .top, .top, .top, .top, .top, .top, .top, .top, .top, .top, .top, .top, .top, .top, .top, .top, .top, .top, .top, .top, .top, .top, .top, .top, .top, .top, .top, .top, .top, .top, .top, .top, .top, .top, .top, .top, .top, .top, .top, .top, .top, .top, .top, .top, .top, .top, .top, .top, .top, .top, .top, .top, .top, .top, .top, .top, .top, .top, .top, .top, .top, .top, .top, .top, .top, .top, .top, .top, .top, .top, .top, .top, .top, .top, .top, .top, .top, .top, .top, .top, .top, .top, .top, .top, .top, .top, .top, .top, .top, .top, .top, .top, .top, .top, .top, .top, .top, .top, .top, .top, .top, .top, .top, .top, .top, .top, .top, .top, .top, .top, .top, .top, .top, .top, .top, .top, .top, .top, .top, .top, .top, .top, .top, .top, .top, .top, .top, .top, .top, .top, .top, .top, .top, .top, .top, .top, .top, .top, .top, .top, .top, .top, .top, .top, .top, .top, .top, .top, .top, .top, .top, .top, .top, .top, .top, .top, .top, .top, .top, .top, .top, .top, .top, .top, .top, .top, .top, .top, .top, .top, .top, .top, .top, .top, .top, .top, .top, .top, .top, .top, .top, .top, .top, .top, .top, .top, .top, .top, .top, .top, .top, .top, .top, .top, .top, .top, .top, .top, .top, .top, .top, .top, .top, .top, .top, .top, .top, .top, .top, .top, .top, .top, .top, .top, .top, .top, .top, .top, .top, .top, .top, .top, .top, .top, .top, .top, .top, .top, .top, .top, .top, .top, .top, .top, .top, .top, .top, .top, .top], [some s0, some s1, none, some s3, none], h⟩
def jacquardref16_VM_Pick_k18 (C : CallF) (L : LoopF) (G : Glo) : Ex → St → Option (Ex × St) :=
  kSeq (fun st => jacquardref16_VM_Pick_p16.exec C L G st (kLoop [0, 1, 4, 6, 7, 13, 15, 16] [0, 1, 3] [(1, [0, 1, 4, 6, 7, 13, 15], [0, 1, 3])])) (kLoop [0, 1, 4, 6, 7, 13, 15, 16] [0, 1, 3] [(1, [0, 1, 4, 6, 7, 13, 15], [0, 1, 3])])
def jacquardref16_VM_Pick_k19 (C : CallF) (L : LoopF) (G : Glo) : Ex → St → Option (Ex × St) :=
  kBlk 1 (jacquardref16_VM_Pick_k18 C L G)
def jacquardref16_VM_Pick_k20 (C : CallF) (L : LoopF) (G : Glo) : Ex → St → Option (Ex × St) :=
  kSeq (fun st => jacquardref16_VM_Pick_p17.exec C L G st (jacquardref16_VM_Pick_k19 C L G)) (jacquardref16_VM_Pick_k19 C L G)
def jacquardref16_VM_Pick_c16 (k0 : Nat) (N0 : Nat) (o0 : Nat) (a1 : Int) (a6 : Int) (a15 : Int) (a16 : Int) (b177 : Bool) (s0 : List Cell) (s1 : List Cell) (s3 : List Cell) (h : AHeap) : St := ⟨[.v (.c (.ptr k0 N0 o0)), .v (.c (.int .i64 a1)), .top, .top, .loc 0 0, .top, .v (.c (.int .i64 a6)), .loc 1 0, .top, .top, .top, .top, .top, .loc 3 0, .top, .v (.c (.int .i64 a15)), .v (.c (.int .i64 a16)), .top, .top, .top, .top, .top, .top, .top, .top, .top, .top, .top, .top, .top, .top, .top, .top, .top, .top, .top, .top, .top, .top, .top, .top, .top, .top, .top, .top, .top, .top, .top, .top, .top, .top, .top, .top, .top, .top, .top, .top, .top, .top, .top, .top, .top, .top, .top, .top, .top, .top, .top, .top, .top, .top, .top, .top, .top, .top, .top, .top, .top, .top, .top, .top, .top, .top, .top, .top, .top, .top, .top, .top, .top, .top, .top, .top, .top, .top, .top, .top, .top, .top, .top, .top, .top, .top, .top, .top, .top, .top, .top, .top, .top, .top, .top, .top, .top, .top, .top, .top, .top, .top, .top, .top, .top, .top, .top, .top, .top, .top, .top, .top, .top, .top, .top, .top, .top, .top, .top, .top, .top, .top, .top, .top, .top, .top, .top, .top, .top, .top, .top, .top, .top, .top, .top, .top, .top, .top, .top, .top, .top, .top, .top, .top, .top, .top, .top, .top, .top, .top, .top, .top, .top, .top, .top, .top, .top, .top, .top, .top, .v (.c (.bool b177)), .top, .top, .top, .top, .top, .top, .top, .top, .top, .top, .top, .top, .top, .top, .top, .top, .top, .top, .top, .top, .top, .top, .top, .top, .top, .top, .top, .top, .top, .top, .top, .top, .top, .top, .top, .top, .top, .top, .top, .top, .top, .top, .top, .top, .top, .top, .top, .top, .top, .top, .top, .top, .top, .top, .top, .top, .top, .top, .top, .top, .top, .top, .top, .top, .top, .top, .top, .top, .top, .top, .top, .top, .top, .top, .top, .top, .top, .top, .top, .top, .top, .top, .top, .top, .top, .top, .top, .top, .top, .top, .top, .top, .top, .top, .top, .top, .top, .top, .top, .top, .top, .top, .top, .top, .top, .top, .top, .top, .top, .top, .top, .top, .top, .top, .top, .top, .top, .top, .top, .top, .top, .top, .top, .top, .top, .top, .top], [some s0, some s1, none, some s3, none], h⟩
def jacquardref16_VM_Pick_x1_1 (k0 : Nat) (N0 : Nat) (o0 : Nat) (a1 : Int) (a6 : Int) (a15 : Int) (s0 : List Cell) (s1 : List Cell) (s3 : List Cell) (h : AHeap) : St := ⟨[.v (.c (.ptr k0 N0 o0)), .v (.c (.int .i64 a1)), .top, .top, .loc 0 0, .top, .v (.c (.int .i64 a6)), .loc 1 0, .top, .top, .top, .top, .top, .loc 3 0, .top, .v (.c (.int .i64 a15)), .top, .top, .top, .top, .top, .top, .top, .top, .top, .top, .top, .top, .top, .top, .top, .top, .top, .top, .top, .top, .top, .top, .top, .top, .top, .top, .top, .top, .top, .top, .top, .top, .top, .top, .top, .top, .top, .top, .top, .top, .top, .top, .top, .top, .top, .top, .top, .top, .top, .top, .top, .top, .top, .top, .top, .top, .top, .top, .top, .top, .top, .top, .top, .top, .top, .top, .top, .top, .top, .top, .top, .top, .top, .top, .top, .top, .top, .top, .top, .top, .top, .top, .top, .top, .top, .top, .top, .top, .top, .top, .top, .top, .top, .top, .top, .top, .top, .top, .top, .top, .top, .top, .top, .top, .top, .top, .top, .top, .top, .top, .top, .top, .top, .top, .top, .top, .top, .top, .top, .top, .top, .top, .top, .top, .top, .top, .top, .top, .top, .top, .top, .top, .top, .top, .top, .top, .top, .top, .top, .top, .top, .top, .top, .top, .top, .top, .top, .top, .top, .top, .top, .top, .top, .top, .top, .top, .top, .top, .top, .top, .top, .top, .top, .top, .top, .top, .top, .top, .top, .top, .top, .top, .top, .top, .top, .top, .top, .top, .top, .top, .top, .top, .top, .top, .top, .top, .top, .top, .top, .top, .top, .top, .top, .top, .top, .top, .top, .top, .top, .top, .top, .top, .top, .top, .top, .top, .top, .top, .top, .top, .top, .top, .top, .top, .top, .top, .top, .top, .top, .top, .top, .top, .top, .top, .top, .top, .top, .top, .top, .top, .top, .top, .top, .top, .top, .top, .top, .top, .top, .top, .top, .top, .top, .top, .top, .top, .top, .top, .top, .top, .top, .top, .top, .top, .top, .top, .top, .top, .top, .top, .top, .top, .top, .top, .top, .top, .top, .top, .top, .top, .top, .top, .top, .top, .top, .top, .top, .top, .top, .top, .top, .top, .top, .top, .top, .top, .top, .top, .top], [some s0, some s1, none, some s3, none], h⟩
def jacquardref16_VM_Pick_c12 (k0 : Nat) (N0 : Nat) (o0 : Nat) (a1 : Int) (a6 : Int) (a15 : Int) (s0 : List Cell) (s1 : List Cell) (s3 : List Cell) (h : AHeap) : St := ⟨[.v (.c (.ptr k0 N0 o0)), .v (.c (.int .i64 a1)), .top, .top, .loc 0 0, .top, .v (.c (.int .i64 a6)), .loc 1 0, .top, .top, .top, .top, .top, .loc 3 0, .top, .v (.c (.int .i64 a15)), .top, .top, .top, .top, .top, .top, .top, .top, .top, .top, .top, .top, .top, .top, .top, .top, .top, .top, .top, .top, .top, .top, .top, .top, .top, .top, .top, .top, .top, .top, .top, .top, .top, .top, .top, .top, .top, .top, .top, .top, .top, .top, .top, .top, .top, .top, .top, .top, .top, .top, .top, .top, .top, .top, .top, .top, .top, .top, .top, .top, .top, .top, .top, .top, .top, .top, .top, .top, .top, .top, .top, .top, .top, .top, .top, .top, .top, .top, .top, .top, .top, .top, .top, .top, .top, .top, .top, .top, .top, .top, .top, .top, .top, .top, .top, .top, .top, .top, .top, .top, .top, .top, .top, .top, .top, .top, .top, .top, .top, .top, .top, .top, .top, .top, .top, .top, .top, .top, .top, .top, .top, .top, .top, .top, .top, .top, .top, .top, .top, .top, .top, .top, .top, .top, .top, .top, .top, .top, .top, .top, .top, .top, .top, .top, .top, .top, .top, .top, .top, .top, .top, .top, .top, .top, .top, .top, .top, .top, .top, .top, .top, .top, .top, .top, .top, .top, .top, .top, .top, .top, .top, .top, .top, .top, .top, .top, .top, .top, .top, .top, .top, .top, .top, .top, .top, .top, .top, .top, .top, .top, .top, .top, .top, .top, .top, .top, .top, .top, .top, .top, .top, .top, .top, .top, .top, .top, .top, .top, .top, .top, .top, .top, .top, .top, .top, .top, .top, .top, .top, .top, .top, .top, .top, .top, .top, .top, .top, .top, .top, .top, .top, .top, .top, .top, .top, .top, .top, .top, .top, .top, .top, .top, .top, .top, .top, .top, .top, .top, .top, .top, .top, .top, .top, .top, .top, .top, .top, .top, .top, .top, .top, .top, .top, .top, .top, .top, .top, .top, .top, .top, .top, .top, .top, .top, .top, .top, .top, .top, .top, .top, .top, .top, .top, .top, .top, .top, .top, .top, .top], [some s0, some s1, none, some s3, none], h⟩
def jacquardref16_VM_Pick_k21 (C : CallF) (L : LoopF) (G : Glo) (h0 : AHeap) : Ex → St → Option (List AV × AHeap) :=
  kSeq (fun st => jacquardref16_VM_Pick_p18.exec C L G st (jacquardref16_VM_Pick.fin G h0)) (jacquardref16_VM_Pick.fin G h0)
def jacquardref16_VM_Pick_c17 (k0 : Nat) (N0 : Nat) (o0 : Nat) (a1 : Int) (a6 : Int) (a15 : Int) (s0 : List Cell) (s1 : List Cell) (s4 : List Cell) (h : AHeap) : St := ⟨[.v (.c (.ptr k0 N0 o0)), .v (.c (.int .i64 a1)), .top, .top, .loc 0 0, .top, .v (.c (.int .i64 a6)), .loc 1 0, .top, .top, .top, .top, .top, .top, .top, .v (.c (.int .i64 a15)), .top, .loc 4 0, .top, .top, .top, .top, .top, .top, .top, .top, .top, .top, .top, .top, .top, .top, .top, .top, .top, .top, .top, .top, .top, .top, .top, .top, .top, .top, .top, .top, .top, .top, .top, .top, .top, .top, .top, .top, .top, .top, .top, .top, .top, .top, .top, .top, .top, .top, .top, .top, .top, .top, .top, .top, .top, .top, .top, .top, .top, .top, .top, .top, .top, .top, .top, .top, .top, .top, .top, .top, .top, .top, .top, .top, .top, .top, .top, .top, .top, .top, .top, .top, .top, .top, .top, .top, .top, .top, .top, .top, .top, .top, .top, .top, .top, .top, .top, .top, .top, .top, .top, .top, .top, .top, .top, .top, .top, .top, .top, .top, .top, .top, .top, .top, .top, .top, .top, .top, .top, .top, .top, .top, .top, .top, .top, .top, .top, .top, .top, .top, .top, .top, .top, .top, .top, .top, .top, .top, .top, .top, .top, .top, .top, .top, .top, .top, .top, .top, .top, .top, .top, .top, .top, .top, .top, .top, .top, .top, .top, .top, .top, .top, .top, .top, .top, .top, .top, .top, .top, .top, .top, .top, .top, .top, .top, .top, .top, .top, .top, .top, .top, .top, .top, .top, .top, .top, .top, .top, .top, .top, .top, .top, .top, .top, .top, .top, .top, .top, .top, .top, .top, .top, .top, .top, .top, .top, .top, .top, .top, .top, .top, .top, .top, .top, .top, .top, .top, .top, .top, .top, .top, .top, .top, .top, .top, .top, .top, .top, .top, .top, .top, .top, .top, .top, .top, .top, .top, .top, .top, .top, .top, .top, .top, .top, .top, .top, .top, .top, .top, .top, .top, .top, .top, .top, .top, .top, .top, .top, .top, .top, .top, .top, .top, .top, .top, .top, .top, .top, .top, .top, .top, .top, .top, .top, .top, .top, .top, .top, .top, .top, .top, .top, .top, .top, .top, .top, .top, .top, .top], [some s0, some s1, none, none, some s4], h⟩
def jacquardref16_VM_Pick_k22 (C : CallF) (L : LoopF) (G : Glo) (h0 : AHeap) : Ex → St → Option (List AV × AHeap) :=
  kSeq (fun st => jacquardref16_VM_Pick_p19.exec C L G st (jacquardref16_VM_Pick.fin G h0)) (jacquardref16_VM_Pick.fin G h0)
def jacquardref16_VM_Pick_c18 (k0 : Nat) (N0 : Nat) (o0 : Nat) (a1 : Int) (a6 : Int) (a15 : Int) (s0 : List Cell) (s1 : List Cell) (s4 : List Cell) (h : AHeap) : St := ⟨[.v (.c (.ptr k0 N0 o0)), .v (.c (.int .i64 a1)), .top, .top, .loc 0 0, .top, .v (.c (.int .i64 a6)), .loc 1 0, .top, .top, .top, .top, .top, .top, .top, .v (.c (.int .i64 a15)), .top, .loc 4 0, .top, .top, .top, .top, .top, .top, .top, .top, .top, .top, .top, .top, .top, .top, .top, .top, .top, .top, .top, .top, .top, .top, .top, .top, .top, .top, .top, .top, .top, .top, .top, .top, .top, .top, .top, .top, .top, .top, .top, .top, .top, .top, .top, .top, .top, .top, .top, .top, .top, .top, .top, .top, .top, .top, .top, .top, .top, .top, .top, .top, .top, .top, .top, .top, .top, .top, .top, .top, .top, .top, .top, .top, .top, .top, .top, .top, .top, .top, .top, .top, .top, .top, .top, .top, .top, .top, .top, .top, .top, .top, .top, .top, .top, .top, .top, .top, .top, .top, .top, .top, .top, .top, .top, .top, .top, .top, .top, .top, .top, .top, .top, .top, .top, .top, .top, .top, .top, .top, .top, .top, .top, .top, .top, .top, .top, .top, .top, .top, .top, .top, .top, .top, .top, .top, .top, .top, .top, .top, .top, .top, .top, .top, .top, .top, .top, .top, .top, .top, .top, .top, .top, .top, .top, .top, .top, .top, .top, .top, .top, .top, .top, .top, .top, .top, .top, .top, .top, .top, .top, .top, .top, .top, .top, .top, .top, .top, .top, .top, .top, .top, .top, .top, .top, .top, .top, .top, .top, .top, .top, .top, .top, .top, .top, .top, .top, .top, .top, .top, .top, .top, .top, .top, .top, .top, .top, .top, .top, .top, .top, .top, .top, .top, .top, .top, .top, .top, .top, .top, .top, .top, .top, .top, .top, .top, .top, .top, .top, .top, .top, .top, .top, .top, .top, .top, .top, .top, .top, .top, .top, .top, .top, .top, .top, .top, .top, .top, .top, .top, .top, .top, .top, .top, .top, .top, .top, .top, .top, .top, .top, .top, .top, .top, .top, .top, .top, .top, .top, .top, .top, .top, .top, .top, .top, .top, .top, .top, .top, .top, .top, .top, .top, .top, .top, .top, .top, .top, .top], [some s0, some s1, none, none, some s4], h⟩
def jacquardref16_VM_Pick_k23 (C : CallF) (L : LoopF) (G : Glo) (h0 : AHeap) : Ex → St → Option (List AV × AHeap) :=
  kSeq (fun st => jacquardref16_VM_Pick_p20.exec C L G st (jacquardref16_VM_Pick.fin G h0)) (jacquardref16_VM_Pick.fin G h0)
def jacquardref16_VM_Pick_k24 (C : CallF) (L : LoopF) (G : Glo) : Ex → St → Option (Ex × St) :=
  kBlk 2 (kLoop [0, 1, 4, 7, 15] [0, 1] [])
def jacquardref16_VM_Pick_k25 (C : CallF) (L : LoopF) (G : Glo) : Ex → St → Option (Ex × St) :=
  kSeq (fun st => jacquardref16_VM_Pick_p21.exec C L G st (jacquardref16_VM_Pick_k24 C L G)) (jacquardref16_VM_Pick_k24 C L G)
def jacquardref16_VM_Pick_c20 (k0 : Nat) (N0 : Nat) (o0 : Nat) (a1 : Int) (a6 : Int) (a15 : Int) (b220 : Bool) (s0 : List Cell) (s1 : List Cell) (s4 : List Cell) (h : AHeap) : St := ⟨[.v (.c (.ptr k0 N0 o0)), .v (.c (.int .i64 a1)), .top, .top, .loc 0 0, .top, .v (.c (.int .i64 a6)), .loc 1 0, .top, .top, .top, .top, .top, .top, .top, .v (.c (.int .i64 a15)), .top, .loc 4 0, .top, .top, .top, .top, .top, .top, .top, .top, .top, .top, .top, .top, .top, .top, .top, .top, .top, .top, .top, .top, .top, .top, .top, .top, .top, .top, .top, .top, .top, .top, .top, .top, .top, .top, .top, .top, .top, .top, .top, .top, .top, .top, .top, .top, .top, .top, .top, .top, .top, .top, .top, .top, .top, .top, .top, .top, .top, .top, .top, .top, .top, .top, .top, .top, .top, .top, .top, .top, .top, .top, .top, .top, .top, .top, .top, .top, .top, .top, .top, .top, .top, .top, .top, .top, .top, .top, .top, .top, .top, .top, .top, .top, .top, .top, .top, .top, .top, .top, .top, .top, .top, .top, .top, .top, .top, .top, .top, .top, .top, .top, .top, .top, .top, .top, .top, .top, .top, .top, .top, .top, .top, .top, .top, .top, .top, .top, .top, .top, .top, .top, .top, .top, .top, .top, .top, .top, .top, .top, .top, .top, .top, .top, .top, .top, .top, .top, .top, .top, .top, .top, .top, .top, .top, .top, .top, .top, .top, .top, .top, .top, .top, .top, .top, .top, .top, .top, .top, .top, .top, .top, .top, .top, .top, .top, .top, .top, .top, .top, .top, .top, .top, .top, .top, .top, .top, .top, .top, .top, .top, .top, .top, .top, .top, .top, .top, .top, .top, .top, .top, .top, .top, .top, .v (.c (.bool b220)), .top, .top, .top, .top, .top, .top, .top, .top, .top, .top, .top, .top, .top, .top, .top, .top, .top, .top, .top, .top, .top, .top, .top, .top, .top, .top, .top, .top, .top, .top, .top, .top, .top, .top, .top, .top, .top, .top, .top, .top, .top, .top, .top, .top, .top, .top, .top, .top, .top, .top, .top, .top, .top, .top, .top, .top, .top, .top, .top, .top, .top, .top, .top, .top, .top, .top, .top, .top, .top, .top, .top, .top, .top, .top, .top, .top, .top, .top, .top, .top, .top, .top, .top, .top], [some s0, some s1, none, none, some s4], h⟩
def jacquardref16_VM_Pick_c19 (k0 : Nat) (N0 : Nat) (o0 : Nat) (a1 : Int) (a15 : Int) (s0 : List Cell) (s1 : List Cell) (h : AHeap) : St := ⟨[.v (.c (.ptr k0 N0 o0)), .v (.c (.int .i64 a1)), .top, .top, .loc 0 0, .top, .top, .loc 1 0, .top, .top, .top, .top, .top, .top, .top, .v (.c (.int .i64 a15)), .top, .top, .top, .top, .top, .top, .top, .top, .top, .top, .top, .top, .top, .top, .top, .top, .top, .top, .top, .top, .top, .top, .top, .top, .top, .top, .top, .top, .top, .top, .top, .top, .top, .top, .top, .top, .top, .top, .top, .top, .top, .top, .top, .top, .top, .top, .top, .top, .top, .top, .top, .top, .top, .top, .top, .top, .top, .top, .top, .top, .top, .top, .top, .top, .top, .top, .top, .top, .top, .top, .top, .top, .top, .top, .top, .top, .top, .top, .top, .top, .top, .top, .top, .top, .top, .top, .top, .top, .top, .top, .top, .top, .top, .top, .top, .top, .top, .top, .top, .top, .top, .top, .top, .top, .top, .top, .top, .top, .top, .top, .top, .top, .top, .top, .top, .top, .top, .top, .top, .top, .top, .top, .top, .top, .top, .top, .top, .top, .top, .top, .top, .top, .top, .top, .top, .top, .top, .top, .top, .top, .top, .top, .top, .top, .top, .top, .top, .top, .top, .top, .top, .top, .top, .top, .top, .top, .top, .top, .top, .top, .top, .top, .top, .top, .top, .top, .top, .top, .top, .top, .top, .top, .top, .top, .top, .top, .top, .top, .top, .top, .top, .top, .top, .top, .top, .top, .top, .top, .top, .top, .top, .top, .top, .top, .top, .top, .top, .top, .top, .top, .top, .top, .top, .top, .top, .top, .top, .top, .top, .top, .top, .top, .top, .top, .top, .top, .top, .top, .top, .top, .top, .top, .top, .top, .top, .top, .top, .top, .top, .top, .top, .top, .top, .top, .top, .top, .top, .top, .top, .top, .top, .top, .top, .top, .top, .top, .top, .top, .top, .top, .top, .top, .top, .top, .top, .top, .top, .top, .top, .top, .top, .top, .top, .top, .top, .top, .top, .top, .top, .top, .top, .top, .top, .top, .top, .top, .top, .top, .top, .top, .top, .top, .top, .top, .top, .top, .top, .top, .top], [some s0, some s1, none, none, none], h⟩
def jacquardref16_VM_Pick_k26 (C : CallF) (L : LoopF) (G : Glo) : Ex → St → Option (Ex × St) :=
  kSeq (fun st => jacquardref16_VM_Pick_p22.exec C L G st (jacquardref16_VM_Pick_k24 C L G)) (jacquardref16_VM_Pick_k24 C L G)
def jacquardref16_VM_Pick_c21 (k0 : Nat) (N0 : Nat) (o0 : Nat) (a1 : Int) (a6 : Int) (a15 : Int) (b251 : Bool) (s0 : List Cell) (s1 : List Cell) (s4 : List Cell) (h : AHeap) : St := ⟨[.v (.c (.ptr k0 N0 o0)), .v (.c (.int .i64 a1)), .top, .top, .loc 0 0, .top, .v (.c (.int .i64 a6)), .loc 1 0, .top, .top, .top, .top, .top, .top, .top, .v (.c (.int .i64 a15)), .top, .loc 4 0, .top, .top, .top, .top, .top, .top, .top, .top, .top, .top, .top, .top, .top, .top, .top, .top, .top, .top, .top, .top, .top, .top, .top, .top, .top, .top, .top, .top, .top, .top, .top, .top, .top, .top, .top, .top, .top, .top, .top, .top, .top, .top, .top, .top, .top, .top, .top, .top, .top, .top, .top, .top, .top, .top, .top, .top, .top, .top, .top, .top, .top, .top, .top, .top, .top, .top, .top, .top, .top, .top, .top, .top, .top, .top, .top, .top, .top, .top, .top, .top, .top, .top, .top, .top, .top, .top, .top, .top, .top, .top, .top, .top, .top, .top, .top, .top, .top, .top, .top, .top, .top, .top, .top, .top, .top, .top, .top, .top, .top, .top, .top, .top, .top, .top, .top, .top, .top, .top, .top, .top, .top, .top, .top, .top, .top, .top, .top, .top, .top, .top, .top, .top, .top, .top, .top, .top, .top, .top, .top, .top, .top, .top, .top, .top, .top, .top, .top, .top, .top, .top, .top, .top, .top, .top, .top, .top, .top, .top, .top, .top, .top, .top, .top, .top, .top, .top, .top, .top, .top, .top, .top, .top, .top, .top, .top, .top, .top, .top, .top, .top, .top, .top, .top, .top, .top, .top, .top, .top, .top, .top, .top, .top, .top, .top, .top, .top, .top, .top, .top, .top, .top, .top, .top, .top, .top, .top, .top, .top, .top, .top, .top, .top, .top, .top, .top, .top, .top, .top, .top, .top, .top, .top, .top, .top, .top, .top, .top, .top, .top, .top, .top, .top, .top, .v (.c (.bool b251)), .top, .top, .top, .top, .top, .top, .top, .top, .top, .top, .top, .top, .top, .top, .top, .top, .top, .top, .top, .top, .top, .top, .top, .top, .top, .top, .top, .top, .top, .top, .top, .top, .top, .top, .top, .top, .top, .top, .top, .top, .top, .top, .top, .top, .top, .top, .top, .top, .top, .top, .top, .top, .top], [some s0, some s1, none, none, some s4], h⟩
def jacquardref16_VM_Pick_k27 (C : CallF) (L : LoopF) (G : Glo) (h0 : AHeap) : Ex → St → Option (List AV × AHeap) :=
  kSeq (fun st => jacquardref16_VM_Pick_p23.exec C L G st (jacquardref16_VM_Pick.fin G h0)) (jacquardref16_VM_Pick.fin G h0)
def jacquardref16_VM_Pick_c22 (k0 : Nat) (N0 : Nat) (o0 : Nat) (s0 : List Cell) (s1 : List Cell) (h : AHeap) : St := ⟨[.v (.c (.ptr k0 N0 o0)), .top, .top, .top, .loc 0 0, .top, .top, .loc 1 0, .top, .top, .top, .top, .top, .top, .top, .top, .top, .top, .top, .top, .top, .top, .top, .top, .top, .top, .top, .top, .top, .top, .top, .top, .top, .top, .top, .top, .top, .top, .top, .top, .top, .top, .top, .top, .top, .top, .top, .top, .top, .top, .top, .top, .top, .top, .top, .top, .top, .top, .top, .top, .top, .top, .top, .top, .top, .top, .top, .top, .top, .top, .top, .top, .top, .top, .top, .top, .top, .top, .top, .top, .top, .top, .top, .top, .top, .top, .top, .top, .top, .top, .top, .top, .top, .top, .top, .top, .top, .top, .top, .top, .top, .top, .top, .top, .top, .top, .top, .top, .top, .top, .top, .top, .top, .top, .top, .top, .top, .top, .top, .top, .top, .top, .top, .top, .top, .top, .top, .top, .top, .top, .top, .top, .top, .top, .top, .top, .top, .top, .top, .top, .top, .top, .top, .top, .top, .top, .top, .top, .top, .top, .top, .top, .top, .top, .top, .top, .top, .top, .top, .top, .top, .top, .top, .top, .top, .top, .top, .top, .top, .top, .top, .top, .top, .top, .top, .top, .top, .top, .top, .top, .top, .top, .top, .top, .top, .top, .top, .top, .top, .top, .top, .top, .top, .top, .top, .top, .top, .top, .top, .top, .top, .top, .top, .top, .top, .top, .top, .top, .top, .top, .top, .top, .top, .top, .top, .top, .top, .top, .top, .top, .top, .top, .top, .top, .top, .top, .top, .top, .top, .top, .top, .top, .top, .top, .top, .top, .top, .top, .top, .top, .top, .top, .top, .top, .top, .top, .top, .top, .top, .top, .top, .top, .top, .top, .top, .top, .top, .top, .top, .top, .top, .top, .top, .top, .top, .top, .top, .top, .top, .top, .top, .top, .top, .top, .top, .top, .top, .top, .top, .top, .top, .top, .top, .top, .top, .top, .top, .top, .top, .top, .top, .top, .top, .top, .top, .top, .top, .top, .top, .top, .top, .top, .top, .top, .top], [some s0, some s1, none, none, none], h⟩
theorem jacquardref16_VM_Pick_ec10_n (C : CallF) (L : LoopF) (G : Glo) (k0 : Nat) (N0 : Nat) (o0 : Nat) (s0 : List Cell) (s1 : List Cell) (h : AHeap) :
    (jacquardref16_VM_Pick_k11 C L G) .normal (jacquardref16_VM_Pick_c10 k0 N0 o0 s0 s1 h) =
    rdH h k0 N0 fun l_55 => atK l_55 (o0 + 36) fun q_56 => if 0 = 0 ∧ s1.length = 7 then if s1.length = 7 ∧ 0 + 7 ≤ (List.replicate 7 (Cell.int .i64 0)).length then if (splice (List.replicate 7 (Cell.int .i64 0)) 0 s1).length = 1 * 7 then appK 7 56 q_56 (splice (List.replicate 7 (Cell.int .i64 0)) 0 s1) h fun x_57 h_58 => rdH h_58 k0 N0 fun l_59 => if (o0 + 36) < l_59.length then putH h_58 k0 (l_59.set (o0 + 36) x_57) fun h_60 => if 0 = 0 ∧ s1.length = 7 then if 0 = 0 ∧ s0.length = 7 ∧ s1.length = 7 then some (.ret, (jacquardref16_VM_Pick_c4_0 true s1 h_60)) else none else none else none else none else none else none := by kernel_rfl
theorem jacquardref16_VM_Pick_ec9_n (C : CallF) (L : LoopF) (G : Glo) (k0 : Nat) (N0 : Nat) (o0 : Nat) (a8 : Int) (s0 : List Cell) (s1 : List Cell) (s2 : List Cell) (h : AHeap) :
    (jacquardref16_VM_Pick_k10 C L G) .normal (jacquardref16_VM_Pick_c9 k0 N0 o0 a8 s0 s1 s2 h) =
    (atK s2 0 fun q_49 => asI .i64 (.c q_49) fun n_50 => atK s2 1 fun q_51 => asI .i64 (.c q_51) fun n_52 => atK s2 2 fun q_53 => asI .i64 (.c q_53) fun n_54 => if 1 < s1.length then if 2 < (s1.set 1 (.int .i64 a8)).length then if 3 < ((s1.set 1 (.int .i64 a8)).set 2 (.int .i64 6)).length then if 5 < (((s1.set 1 (.int .i64 a8)).set 2 (.int .i64 6)).set 3 (.int .i64 n_50)).length then if 6 < ((((s1.set 1 (.int .i64 a8)).set 2 (.int .i64 6)).set 3 (.int .i64 n_50)).set 5 (.int .i64 n_52)).length then some (.normal, (jacquardref16_VM_Pick_c10 k0 N0 o0 s0 (((((s1.set 1 (.int .i64 a8)).set 2 (.int .i64 6)).set 3 (.int .i64 n_50)).set 5 (.int .i64 n_52)).set 6 (.int .i64 n_54)) h)) else none else none else none else none else none : Option (Ex × St)).bind fun p_61 => (jacquardref16_VM_Pick_k11 C L G) p_61.1 p_61.2 := by kernel_rfl
theorem jacquardref16_VM_Pick_ec8_n (C : CallF) (L : LoopF) (G : Glo) (k0 : Nat) (N0 : Nat) (o0 : Nat) (a8 : Int) (s0 : List Cell) (s1 : List Cell) (s2 : List Cell) (h : AHeap) :
    (jacquardref16_VM_Pick_k9 C L G) .normal (jacquardref16_VM_Pick_c8 k0 N0 o0 a8 s0 s1 s2 h) =
    (atK s2 0 fun q_37 => asI .i64 (.c q_37) fun n_38 => atK s2 0 fun q_39 => asI .i64 (.c q_39) fun n_40 => atK s2 1 fun q_41 => asI .i64 (.c q_41) fun n_42 => atK s2 2 fun q_43 => asI .i64 (.c q_43) fun n_44 => if 0 ≤ n_38 ∧ n_38 < ((4 : Nat) : Int) then rdH h k0 N0 fun l_45 => if ((o0 + 4) + ((Int.toNat n_38) * 1)) < l_45.length then putH h k0 (l_45.set ((o0 + 4) + ((Int.toNat n_38) * 1)) (.int .i64 n_42)) fun h_46 => if 0 ≤ n_40 ∧ n_40 < ((4 : Nat) : Int) then rdH h_46 k0 N0 fun l_47 => if ((o0 + 8) + ((Int.toNat n_40) * 1)) < l_47.length then putH h_46 k0 (l_47.set ((o0 + 8) + ((Int.toNat n_40) * 1)) (.int .i64 n_44)) fun h_48 => some (.normal, (jacquardref16_VM_Pick_c9 k0 N0 o0 a8 s0 s1 s2 h_48)) else none else none else none else none : Option (Ex × St)).bind fun p_62 => (jacquardref16_VM_Pick_k10 C L G) p_62.1 p_62.2 := by kernel_rfl
theorem jacquardref16_VM_Pick_ec7_n (C : CallF) (L : LoopF) (G : Glo) (k0 : Nat) (N0 : Nat) (o0 : Nat) (a8 : Int) (a11 : Int) (s0 : List Cell) (s1 : List Cell) (s2 : List Cell) (h : AHeap) :
    (jacquardref16_VM_Pick_k8 C L G) .normal (jacquardref16_VM_Pick_c7 k0 N0 o0 a8 a11 s0 s1 s2 h) =
    (if ([] : List Cell).length = 0 * 3 then if 0 ≤ a8 ∧ a8 < ((4 : Nat) : Int) then rd0 (h ++ [some (Blk.mk true 3 ([] : List Cell))]) k0 N0 fun l_23 => atK l_23 ((o0 + 32) + ((Int.toNat a8) * 1)) fun q_24 => sliceK (h ++ [some (Blk.mk true 3 ([] : List Cell))]) 3 false true q_24 [.v (.c (.int .i64 a11))] fun x_25 => (slCells (h ++ [some (Blk.mk true 3 ([] : List Cell))]) 3 x_25).bind fun l_28 => appK 3 24 (.sl h.length (([] : List Cell).length) 0 0) l_28 (h ++ [some (Blk.mk true 3 ([] : List Cell))]) fun x_26 h_27 => if 0 ≤ a8 ∧ a8 < ((4 : Nat) : Int) then rd0 h_27 k0 N0 fun l_29 => atK l_29 ((o0 + 32) + ((Int.toNat a8) * 1)) fun q_30 => sliceK h_27 3 true false q_30 [.v (.c (.int .i64 (G.wrap .i64 (a11 + 1))))] fun x_31 => (slCells h_27 3 x_31).bind fun l_34 => appK 3 24 x_26 l_34 h_27 fun x_32 h_33 => if 0 ≤ a8 ∧ a8 < ((4 : Nat) : Int) then rdH h_33 k0 N0 fun l_35 => if ((o0 + 32) + ((Int.toNat a8) * 1)) < l_35.length then putH h_33 k0 (l_35.set ((o0 + 32) + ((Int.toNat a8) * 1)) x_32) fun h_36 => some (.normal, (jacquardref16_VM_Pick_c8 k0 N0 o0 a8 s0 s1 s2 h_36)) else none else none else none else none else none : Option (Ex × St)).bind fun p_63 => (jacquardref16_VM_Pick_k9 C L G) p_63.1 p_63.2 := by kernel_rfl
theorem jacquardref16_VM_Pick_ec6_n (C : CallF) (L : LoopF) (G : Glo) (k0 : Nat) (N0 : Nat) (o0 : Nat) (a8 : Int) (a11 : Int) (s0 : List Cell) (s1 : List Cell) (h : AHeap) :
    (jacquardref16_VM_Pick_k7 C L G) .normal (jacquardref16_VM_Pick_c6 k0 N0 o0 a8 a11 s0 s1 h) =
    (if 0 ≤ a8 ∧ a8 < ((4 : Nat) : Int) then rdH h k0 N0 fun l_17 => atK l_17 ((o0 + 32) + ((Int.toNat a8) * 1)) fun q_18 => idxSK 3 q_18 a11 fun k_19 N_20 o_21 => rdH h k_19 N_20 fun l_22 => if o_21 + 3 ≤ l_22.length then if 0 = 0 ∧ [Cell.int .i64 0, Cell.int .i64 0, Cell.int .i64 0].length = 3 ∧ ((l_22.drop o_21).take 3).length = 3 then some (.normal, (jacquardref16_VM_Pick_c7 k0 N0 o0 a8 a11 s0 s1 ((l_22.drop o_21).take 3) h)) else none else none else none : Option (Ex × St)).bind fun p_64 => (jacquardref16_VM_Pick_k8 C L G) p_64.1 p_64.2 := by kernel_rfl
theorem jacquardref16_VM_Pick_ec5_n (C : CallF) (L : LoopF) (G : Glo) (k0 : Nat) (N0 : Nat) (o0 : Nat) (a1 : Int) (a6 : Int) (a8 : Int) (a9 : Int) (b10 : Bool) (s0 : List Cell) (s1 : List Cell) (h : AHeap) :
    (jacquardref16_VM_Pick_k6 C L G) .normal (jacquardref16_VM_Pick_c5 k0 N0 o0 a1 a6 a8 a9 b10 s0 s1 h) =
    if b10 = true then (c1 (C 198 [(.c (.ptr k0 N0 o0)), (.c (.int .i64 a8)), (.c (.int .i64 a9))] h) fun y_15 h_14 => asI .i64 y_15 fun n_16 => some (.normal, (jacquardref16_VM_Pick_c6 k0 N0 o0 a8 n_16 s0 s1 h_14)) : Option (Ex × St)).bind fun p_65 => (jacquardref16_VM_Pick_k7 C L G) p_65.1 p_65.2 else some (.normal, (jacquardref16_VM_Pick_c4 k0 N0 o0 a1 a6 s0 s1 h)) := by kernel_rfl
theorem jacquardref16_VM_Pick_ec16_n (C : CallF) (L : LoopF) (G : Glo) (k0 : Nat) (N0 : Nat) (o0 : Nat) (a1 : Int) (a6 : Int) (a15 : Int) (a16 : Int) (b177 : Bool) (s0 : List Cell) (s1 : List Cell) (s3 : List Cell) (h : AHeap) :
    (jacquardref16_VM_Pick_k20 C L G) .normal (jacquardref16_VM_Pick_c16 k0 N0 o0 a1 a6 a15 a16 b177 s0 s1 s3 h) =
    if b177 = true then if 0 ≤ a1 ∧ a1 < ((4 : Nat) : Int) then rdH h k0 N0 fun l_103 => atK l_103 ((o0 + 32) + ((Int.toNat a1) * 1)) fun q_104 => idxSK 3 q_104 a16 fun k_105 N_106 o_107 => rdH h k_105 N_106 fun l_108 => atK l_108 (o_107 + 1) fun q_109 => asI .i64 (.c q_109) fun n_110 => if 0 ≤ a1 ∧ a1 < ((4 : Nat) : Int) then rdH h k0 N0 fun l_111 => atK l_111 ((o0 + 32) + ((Int.toNat a1) * 1)) fun q_112 => idxSK 3 q_112 a16 fun k_113 N_114 o_115 => rdH h k_113 N_114 fun l_116 => atK l_116 (o_115 + 2) fun q_117 => asI .i64 (.c q_117) fun n_118 => if 6 < s1.length then some (.normal, (jacquardref16_VM_Pick_s1 k0 N0 o0 a1 a6 n_110 (G.wrap .i64 (a16 + 1)) s0 (s1.set 6 (.int .i64 n_118)) s3 h)) else none else none else none else some (.normal, (jacquardref16_VM_Pick_s1 k0 N0 o0 a1 a6 a15 (G.wrap .i64 (a16 + 1)) s0 s1 s3 h)) := by kernel_rfl
theorem jacquardref16_VM_Pick_ec15_n (C : CallF) (L : LoopF) (G : Glo) (k0 : Nat) (N0 : Nat) (o0 : Nat) (a1 : Int) (a6 : Int) (a15 : Int) (a16 : Int) (s0 : List Cell) (s1 : List Cell) (s3 : List Cell) (h : AHeap) :
    (jacquardref16_VM_Pick_k17 C L G) .normal (jacquardref16_VM_Pick_c15 k0 N0 o0 a1 a6 a15 a16 s0 s1 s3 h) =
    (if 0 ≤ a1 ∧ a1 < ((4 : Nat) : Int) then rdH h k0 N0 fun l_93 => atK l_93 ((o0 + 32) + ((Int.toNat a1) * 1)) fun q_94 => idxSK 3 q_94 a16 fun k_95 N_96 o_97 => rdH h k_95 N_96 fun l_98 => atK l_98 (o_97 + 0) fun q_99 => asI .i64 (.c q_99) fun n_100 => atK s3 2 fun q_101 => asI .i64 (.c q_101) fun n_102 => some (.normal, (jacquardref16_VM_Pick_c16 k0 N0 o0 a1 a6 a15 a16 (n_100 == n_102) s0 s1 s3 h)) else none : Option (Ex × St)).bind fun p_119 => (jacquardref16_VM_Pick_k20 C L G) p_119.1 p_119.2 := by kernel_rfl
theorem jacquardref16_VM_Pick_ec15_1 (C : CallF) (L : LoopF) (G : Glo) (k0 : Nat) (N0 : Nat) (o0 : Nat) (a1 : Int) (a6 : Int) (a15 : Int) (s0 : List Cell) (s1 : List Cell) (s3 : List Cell) (h : AHeap) :
    (jacquardref16_VM_Pick_k17 C L G) (.exit 0) (jacquardref16_VM_Pick_c15_1 k0 N0 o0 a1 a6 a15 s0 s1 s3 h) =
    some ((.exit 0), (jacquardref16_VM_Pick_x1_1 k0 N0 o0 a1 a6 a15 s0 s1 s3 h)) := by kernel_rfl
theorem jacquardref16_VM_Pick_r1 (C : CallF) (L : LoopF) (G : Glo) (k0 : Nat) (N0 : Nat) (o0 : Nat) (a1 : Int) (a6 : Int) (a15 : Int) (a16 : Int) (s0 : List Cell) (s1 : List Cell) (s3 : List Cell) (h : AHeap) :
    jacquardref16_VM_Pick_F1 C L G (jacquardref16_VM_Pick_s1 k0 N0 o0 a1 a6 a15 a16 s0 s1 s3 h) =
    (if 0 ≤ a1 ∧ a1 < ((4 : Nat) : Int) then rdH h k0 N0 fun l_90 => atK l_90 ((o0 + 32) + ((Int.toNat a1) * 1)) fun q_91 => lenK q_91 fun n_92 => if (decide (a16 < n_92)) = true then some (.normal, (jacquardref16_VM_Pick_c15 k0 N0 o0 a1 a6 a15 a16 s0 s1 s3 h)) else some ((.exit 0), (jacquardref16_VM_Pick_c15_1 k0 N0 o0 a1 a6 a15 s0 s1 s3 h)) else none : Option (Ex × St)).bind fun p_120 => (jacquardref16_VM_Pick_k17 C L G) p_120.1 p_120.2 := by kernel_rfl
theorem jacquardref16_VM_Pick_e1_1 (C : CallF) (L : LoopF) (G : Glo) (k0 : Nat) (N0 : Nat) (o0 : Nat) (a1 : Int) (a6 : Int) (a15 : Int) (s0 : List Cell) (s1 : List Cell) (s3 : List Cell) (h : AHeap) :
    (jacquardref16_VM_Pick_k16 C L G) (.exit 0) (jacquardref16_VM_Pick_x1_1 k0 N0 o0 a1 a6 a15 s0 s1 s3 h) =
    some (.normal, (jacquardref16_VM_Pick_c12 k0 N0 o0 a1 a6 a15 s0 s1 s3 h)) := by kernel_rfl
theorem jacquardref16_VM_Pick_ec14_n (C : CallF) (L : LoopF) (G : Glo) (k0 : Nat) (N0 : Nat) (o0 : Nat) (a1 : Int) (a6 : Int) (a15 : Int) (s0 : List Cell) (s1 : List Cell) (s3 : List Cell) (h : AHeap) :
    (jacquardref16_VM_Pick_k15 C L G) .normal (jacquardref16_VM_Pick_c14 k0 N0 o0 a1 a6 a15 s0 s1 s3 h) =
    (L (jacquardref16_VM_Pick_F1 C L G) (jacquardref16_VM_Pick_s1 k0 N0 o0 a1 a6 a15 0 s0 s1 s3 h)).bind fun p_121 => (jacquardref16_VM_Pick_k16 C L G) p_121.1 p_121.2 := by kernel_rfl
theorem jacquardref16_VM_Pick_ec13_n (C : CallF) (L : LoopF) (G : Glo) (k0 : Nat) (N0 : Nat) (o0 : Nat) (a1 : Int) (a6 : Int) (a15 : Int) (b138 : Bool) (s0 : List Cell) (s1 : List Cell) (s3 : List Cell) (h : AHeap) :
    (jacquardref16_VM_Pick_k14 C L G) .normal (jacquardref16_VM_Pick_c13 k0 N0 o0 a1 a6 a15 b138 s0 s1 s3 h) =
    if b138 = true then (atK s3 2 fun q_80 => asI .i64 (.c q_80) fun n_81 => if 0 ≤ n_81 ∧ n_81 < ((4 : Nat) : Int) then rdH h k0 N0 fun l_82 => atK l_82 ((o0 + 4) + ((Int.toNat n_81) * 1)) fun q_83 => asI .i64 (.c q_83) fun n_84 => atK s3 2 fun q_85 => asI .i64 (.c q_85) fun n_86 => if 0 ≤ n_86 ∧ n_86 < ((4 : Nat) : Int) then rdH h k0 N0 fun l_87 => atK l_87 ((o0 + 8) + ((Int.toNat n_86) * 1)) fun q_88 => asI .i64 (.c q_88) fun n_89 => if 6 < s1.length then some (.normal, (jacquardref16_VM_Pick_c14 k0 N0 o0 a1 a6 n_84 s0 (s1.set 6 (.int .i64 n_89)) s3 h)) else none else none else none : Option (Ex × St)).bind fun p_122 => (jacquardref16_VM_Pick_k15 C L G) p_122.1 p_122.2 else some (.normal, (jacquardref16_VM_Pick_c12 k0 N0 o0 a1 a6 a15 s0 s1 s3 h)) := by kernel_rfl
theorem jacquardref16_VM_Pick_ec21_n (C : CallF) (L : LoopF) (G : Glo) (k0 : Nat) (N0 : Nat) (o0 : Nat) (a1 : Int) (a6 : Int) (a15 : Int) (b251 : Bool) (s0 : List Cell) (s1 : List Cell) (s4 : List Cell) (h : AHeap) :
    (jacquardref16_VM_Pick_k26 C L G) .normal (jacquardref16_VM_Pick_c21 k0 N0 o0 a1 a6 a15 b251 s0 s1 s4 h) =
    if b251 = true then if ([] : List Cell).length = 0 * 3 then if 0 ≤ a1 ∧ a1 < ((4 : Nat) : Int) then rd0 (h ++ [some (Blk.mk true 3 ([] : List Cell))]) k0 N0 fun l_159 => atK l_159 ((o0 + 32) + ((Int.toNat a1) * 1)) fun q_160 => (slCells (h ++ [some (Blk.mk true 3 ([] : List Cell))]) 3 q_160).bind fun l_163 => appK 3 24 (.sl h.length (([] : List Cell).length) 0 0) l_163 (h ++ [some (Blk.mk true 3 ([] : List Cell))]) fun x_161 h_162 => atK s4 3 fun q_164 => asI .i64 (.c q_164) fun n_165 => atK s4 5 fun q_166 => asI .i64 (.c q_166) fun n_167 => if (splice (splice (splice [Cell.int .i64 0, Cell.int .i64 0, Cell.int .i64 0] 0 ([(.int .i64 n_165)] : List Cell)) 1 ([(.int .i64 n_167)] : List Cell)) 2 ([(.int .i64 a6)] : List Cell)).length = 3 ∧ 0 + 3 ≤ [Cell.int .i64 0, Cell.int .i64 0, Cell.int .i64 0].length then if (splice [Cell.int .i64 0, Cell.int .i64 0, Cell.int .i64 0] 0 (splice (splice (splice [Cell.int .i64 0, Cell.int .i64 0, Cell.int .i64 0] 0 ([(.int .i64 n_165)] : List Cell)) 1 ([(.int .i64 n_167)] : List Cell)) 2 ([(.int .i64 a6)] : List Cell))).length = 1 * 3 then appK 3 24 x_161 (splice [Cell.int .i64 0, Cell.int .i64 0, Cell.int .i64 0] 0 (splice (splice (splice [Cell.int .i64 0, Cell.int .i64 0, Cell.int .i64 0] 0 ([(.int .i64 n_165)] : List Cell)) 1 ([(.int .i64 n_167)] : List Cell)) 2 ([(.int .i64 a6)] : List Cell))) h_162 fun x_168 h_169 => if 0 ≤ a1 ∧ a1 < ((4 : Nat) : Int) then rdH h_169 k0 N0 fun l_170 => if ((o0 + 32) + ((Int.toNat a1) * 1)) < l_170.length then putH h_169 k0 (l_170.set ((o0 + 32) + ((Int.toNat a1) * 1)) x_168) fun h_171 => some (.normal, (jacquardref16_VM_Pick_c19 k0 N0 o0 a1 a15 s0 s1 h_171)) else none else none else none else none else none else none else some (.normal, (jacquardref16_VM_Pick_c19 k0 N0 o0 a1 a15 s0 s1 h)) := by kernel_rfl
theorem jacquardref16_VM_Pick_ec20_n (C : CallF) (L : LoopF) (G : Glo) (k0 : Nat) (N0 : Nat) (o0 : Nat) (a1 : Int) (a6 : Int) (a15 : Int) (b220 : Bool) (s0 : List Cell) (s1 : List Cell) (s4 : List Cell) (h : AHeap) :
    (jacquardref16_VM_Pick_k25 C L G) .normal (jacquardref16_VM_Pick_c20 k0 N0 o0 a1 a6 a15 b220 s0 s1 s4 h) =
    if b220 = true then atK s4 3 fun q_147 => asI .i64 (.c q_147) fun n_148 => atK s4 3 fun q_149 => asI .i64 (.c q_149) fun n_150 => atK s4 5 fun q_151 => asI .i64 (.c q_151) fun n_152 => if 0 ≤ n_148 ∧ n_148 < ((4 : Nat) : Int) then rdH h k0 N0 fun l_153 => if ((o0 + 4) + ((Int.toNat n_148) * 1)) < l_153.length then putH h k0 (l_153.set ((o0 + 4) + ((Int.toNat n_148) * 1)) (.int .i64 n_152)) fun h_154 => if 0 ≤ n_150 ∧ n_150 < ((4 : Nat) : Int) then rdH h_154 k0 N0 fun l_155 => if ((o0 + 8) + ((Int.toNat n_150) * 1)) < l_155.length then putH h_154 k0 (l_155.set ((o0 + 8) + ((Int.toNat n_150) * 1)) (.int .i64 a6)) fun h_156 => some (.normal, (jacquardref16_VM_Pick_c19 k0 N0 o0 a1 a15 s0 s1 h_156)) else none else none else none else none else (atK s4 2 fun q_157 => asI .i64 (.c q_157) fun n_158 => some (.normal, (jacquardref16_VM_Pick_c21 k0 N0 o0 a1 a6 a15 (n_158 == 2) s0 s1 s4 h)) : Option (Ex × St)).bind fun p_172 => (jacquardref16_VM_Pick_k26 C L G) p_172.1 p_172.2 := by kernel_rfl
theorem jacquardref16_VM_Pick_ec22_n (C : CallF) (L : LoopF) (G : Glo) (h0 : AHeap) (k0 : Nat) (N0 : Nat) (o0 : Nat) (s0 : List Cell) (s1 : List Cell) (h : AHeap) :
    (jacquardref16_VM_Pick_k27 C L G h0) .normal (jacquardref16_VM_Pick_c22 k0 N0 o0 s0 s1 h) =
    rdH h k0 N0 fun l_181 => atK l_181 (o0 + 36) fun q_182 => if 0 = 0 ∧ s1.length = 7 then if s1.length = 7 ∧ 0 + 7 ≤ (List.replicate 7 (Cell.int .i64 0)).length then if (splice (List.replicate 7 (Cell.int .i64 0)) 0 s1).length = 1 * 7 then appK 7 56 q_182 (splice (List.replicate 7 (Cell.int .i64 0)) 0 s1) h fun x_183 h_184 => rdH h_184 k0 N0 fun l_185 => if (o0 + 36) < l_185.length then putH h_184 k0 (l_185.set (o0 + 36) x_183) fun h_186 => if 0 = 0 ∧ s1.length = 7 then if 0 = 0 ∧ s0.length = 7 ∧ s1.length = 7 then if 0 = 0 ∧ s1.length = 7 then some ([(.agg s1), (.c (.bool true))], h_186) else none else none else none else none else none else none else none := by kernel_rfl
theorem jacquardref16_VM_Pick_ec19_n (C : CallF) (L : LoopF) (G : Glo) (h0 : AHeap) (k0 : Nat) (N0 : Nat) (o0 : Nat) (a1 : Int) (a15 : Int) (s0 : List Cell) (s1 : List Cell) (h : AHeap) :
    (jacquardref16_VM_Pick_k23 C L G h0) .normal (jacquardref16_VM_Pick_c19 k0 N0 o0 a1 a15 s0 s1 h) =
    (rdH h k0 N0 fun l_174 => if (o0 + 0) + 3 ≤ l_174.length then if 0 ≤ a1 ∧ a1 < ((4 : Nat) : Int) then rdH h k0 N0 fun l_175 => if ((o0 + 12) + ((Int.toNat a1) * 5)) + 5 ≤ l_175.length then c1 (qh h (C 107 [(.agg ((l_174.drop (o0 + 0)).take 3)), (.c (.int .i64 a1)), (.agg ((l_175.drop ((o0 + 12) + ((Int.toNat a1) * 5))).take 5)), (.c (.int .i64 a15))] h)) fun y_177 h_176 => asA y_177 fun l_178 => if 0 ≤ a1 ∧ a1 < ((4 : Nat) : Int) then rdH h k0 N0 fun l_179 => if ((o0 + 12) + ((Int.toNat a1) * 5)) + 5 ≤ l_179.length ∧ l_178.length = 5 then putH h k0 (splice l_179 ((o0 + 12) + ((Int.toNat a1) * 5)) l_178) fun h_180 => some (.normal, (jacquardref16_VM_Pick_c22 k0 N0 o0 s0 s1 h_180)) else none else none else none else none else none : Option (Ex × St)).bind fun p_187 => (jacquardref16_VM_Pick_k27 C L G h0) p_187.1 p_187.2 := by kernel_rfl
theorem jacquardref16_VM_Pick_ec18_n (C : CallF) (L : LoopF) (G : Glo) (h0 : AHeap) (k0 : Nat) (N0 : Nat) (o0 : Nat) (a1 : Int) (a6 : Int) (a15 : Int) (s0 : List Cell) (s1 : List Cell) (s4 : List Cell) (h : AHeap) :
    (jacquardref16_VM_Pick_k22 C L G h0) .normal (jacquardref16_VM_Pick_c18 k0 N0 o0 a1 a6 a15 s0 s1 s4 h) =
    ((atK s4 2 fun q_136 => asI .i64 (.c q_136) fun n_137 => scK (n_137 == 4) false (atK s4 2 fun q_138 => asI .i64 (.c q_138) fun n_139 => scK (n_139 == 2) true (rdH h k0 N0 fun l_140 => atK l_140 (o0 + 3) fun q_141 => asI .i64 (.c q_141) fun n_142 => some ((n_142 == 1), h)) false h fun b_143 h_144 => some (b_143, h_144)) true h fun b_145 h_146 => some (.normal, (jacquardref16_VM_Pick_c20 k0 N0 o0 a1 a6 a15 b_145 s0 s1 s4 h_146)) : Option (Ex × St)).bind fun p_173 => (jacquardref16_VM_Pick_k25 C L G) p_173.1 p_173.2 : Option (Ex × St)).bind fun p_188 => (jacquardref16_VM_Pick_k23 C L G h0) p_188.1 p_188.2 := by kernel_rfl
theorem jacquardref16_VM_Pick_ec17_n (C : CallF) (L : LoopF) (G : Glo) (h0 : AHeap) (k0 : Nat) (N0 : Nat) (o0 : Nat) (a1 : Int) (a6 : Int) (a15 : Int) (s0 : List Cell) (s1 : List Cell) (s4 : List Cell) (h : AHeap) :
    (jacquardref16_VM_Pick_k21 C L G h0) .normal (jacquardref16_VM_Pick_c17 k0 N0 o0 a1 a6 a15 s0 s1 s4 h) =
    (atK s4 2 fun q_128 => asI .i64 (.c q_128) fun n_129 => atK s4 3 fun q_130 => asI .i64 (.c q_130) fun n_131 => atK s4 4 fun q_132 => asI .i64 (.c q_132) fun n_133 => atK s4 5 fun q_134 => asI .i64 (.c q_134) fun n_135 => if 2 < s1.length then if 3 < (s1.set 2 (.int .i64 n_129)).length then if 4 < ((s1.set 2 (.int .i64 n_129)).set 3 (.int .i64 n_131)).length then if 5 < (((s1.set 2 (.int .i64 n_129)).set 3 (.int .i64 n_131)).set 4 (.int .i64 n_133)).length then some (.normal, (jacquardref16_VM_Pick_c18 k0 N0 o0 a1 a6 a15 s0 ((((s1.set 2 (.int .i64 n_129)).set 3 (.int .i64 n_131)).set 4 (.int .i64 n_133)).set 5 (.int .i64 n_135)) s4 h)) else none else none else none else none : Option (Ex × St)).bind fun p_189 => (jacquardref16_VM_Pick_k22 C L G h0) p_189.1 p_189.2 := by kernel_rfl
theorem jacquardref16_VM_Pick_ec12_n (C : CallF) (L : LoopF) (G : Glo) (h0 : AHeap) (k0 : Nat) (N0 : Nat) (o0 : Nat) (a1 : Int) (a6 : Int) (a15 : Int) (s0 : List Cell) (s1 : List Cell) (s3 : List Cell) (h : AHeap) :
    (jacquardref16_VM_Pick_k13 C L G h0) .normal (jacquardref16_VM_Pick_c12 k0 N0 o0 a1 a6 a15 s0 s1 s3 h) =
    (if 0 = 0 ∧ s3.length = 9 then if 0 ≤ a1 ∧ a1 < ((4 : Nat) : Int) then rdH h k0 N0 fun l_124 => if ((o0 + 12) + ((Int.toNat a1) * 5)) + 5 ≤ l_124.length then c1 (qh h (C 111 [(.agg s3), (.agg ((l_124.drop ((o0 + 12) + ((Int.toNat a1) * 5))).take 5)), (.c (.int .i64 a15))] h)) fun y_126 h_125 => asA y_126 fun l_127 => if 0 = 0 ∧ [Cell.int .i64 0, Cell.int .i64 0, Cell.int .i64 0, Cell.int .i64 0, Cell.int .i64 0, Cell.int .i64 0].length = 6 ∧ l_127.length = 6 then some (.normal, (jacquardref16_VM_Pick_c17 k0 N0 o0 a1 a6 a15 s0 s1 l_127 h)) else none else none else none else none : Option (Ex × St)).bind fun p_190 => (jacquardref16_VM_Pick_k21 C L G h0) p_190.1 p_190.2 := by kernel_rfl
theorem jacquardref16_VM_Pick_ec11_n (C : CallF) (L : LoopF) (G : Glo) (h0 : AHeap) (k0 : Nat) (N0 : Nat) (o0 : Nat) (a1 : Int) (a6 : Int) (s0 : List Cell) (s1 : List Cell) (s3 : List Cell) (h : AHeap) :
    (jacquardref16_VM_Pick_k12 C L G h0) .normal (jacquardref16_VM_Pick_c11 k0 N0 o0 a1 a6 s0 s1 s3 h) =
    ((atK s3 0 fun q_74 => asI .i64 (.c q_74) fun n_75 => scK (n_75 == 2) false (atK s3 0 fun q_76 => asI .i64 (.c q_76) fun n_77 => some ((n_77 == 4), h)) true h fun b_78 h_79 => some (.normal, (jacquardref16_VM_Pick_c13 k0 N0 o0 a1 a6 0 b_78 s0 s1 s3 h_79)) : Option (Ex × St)).bind fun p_123 => (jacquardref16_VM_Pick_k14 C L G) p_123.1 p_123.2 : Option (Ex × St)).bind fun p_191 => (jacquardref16_VM_Pick_k13 C L G h0) p_191.1 p_191.2 := by kernel_rfl
theorem jacquardref16_VM_Pick_ec4_n (C : CallF) (L : LoopF) (G : Glo) (h0 : AHeap) (k0 : Nat) (N0 : Nat) (o0 : Nat) (a1 : Int) (a6 : Int) (s0 : List Cell) (s1 : List Cell) (h : AHeap) :
    (jacquardref16_VM_Pick_k5 C L G h0) .normal (jacquardref16_VM_Pick_c4 k0 N0 o0 a1 a6 s0 s1 h) =
    (rdH h k0 N0 fun l_67 => if (o0 + 0) + 3 ≤ l_67.length then if 0 ≤ a1 ∧ a1 < ((4 : Nat) : Int) then rdH h k0 N0 fun l_68 => if ((o0 + 12) + ((Int.toNat a1) * 5)) + 5 ≤ l_68.length then c2 (qh h (C 81 [(.agg ((l_67.drop (o0 + 0)).take 3)), (.c (.int .i64 a1)), (.agg ((l_68.drop ((o0 + 12) + ((Int.toNat a1) * 5))).take 5))] h)) fun y_70 y_71 h_69 => asA y_70 fun l_72 => asB y_71 fun b_73 => if 0 = 0 ∧ (List.replicate 9 (Cell.int .i64 0)).length = 9 ∧ l_72.length = 9 then some (.normal, (jacquardref16_VM_Pick_c11 k0 N0 o0 a1 a6 s0 s1 l_72 h)) else none else none else none else none : Option (Ex × St)).bind fun p_192 => (jacquardref16_VM_Pick_k12 C L G h0) p_192.1 p_192.2 := by kernel_rfl
theorem jacquardref16_VM_Pick_ec4_0 (C : CallF) (L : LoopF) (G : Glo) (h0 : AHeap) (b5 : Bool) (s0 : List Cell) (h : AHeap) :
    (jacquardref16_VM_Pick_k5 C L G h0) .ret (jacquardref16_VM_Pick_c4_0 b5 s0 h) =
    if 0 = 0 ∧ s0.length = 7 then some ([(.agg s0), (.c (.bool b5))], h) else none := by kernel_rfl
theorem jacquardref16_VM_Pick_ec3_n (C : CallF) (L : LoopF) (G : Glo) (h0 : AHeap) (k0 : Nat) (N0 : Nat) (o0 : Nat) (a1 : Int) (a6 : Int) (s0 : List Cell) (s1 : List Cell) (h : AHeap) :
    (jacquardref16_VM_Pick_k4 C L G h0) .normal (jacquardref16_VM_Pick_c3 k0 N0 o0 a1 a6 s0 s1 h) =
    ((c3 (C 197 [(.c (.ptr k0 N0 o0)), (.c (.int .i64 a1))] h) fun y_8 y_9 y_10 h_7 => asI .i64 y_8 fun n_11 => asI .i64 y_9 fun n_12 => asB y_10 fun b_13 => some (.normal, (jacquardref16_VM_Pick_c5 k0 N0 o0 a1 a6 n_11 n_12 b_13 s0 s1 h_7)) : Option (Ex × St)).bind fun p_66 => (jacquardref16_VM_Pick_k6 C L G) p_66.1 p_66.2 : Option (Ex × St)).bind fun p_193 => (jacquardref16_VM_Pick_k5 C L G h0) p_193.1 p_193.2 := by kernel_rfl
theorem jacquardref16_VM_Pick_ec2_n (C : CallF) (L : LoopF) (G : Glo) (h0 : AHeap) (k0 : Nat) (N0 : Nat) (o0 : Nat) (a1 : Int) (a6 : Int) (s0 : List Cell) (h : AHeap) :
    (jacquardref16_VM_Pick_k3 C L G h0) .normal (jacquardref16_VM_Pick_c2 k0 N0 o0 a1 a6 s0 h) =
    (if 0 = 0 ∧ (List.replicate 7 (Cell.int .i64 0)).length = 7 ∧ (splice (splice (splice (List.replicate 7 (Cell.int .i64 0)) 0 ([(.int .i64 a1)] : List Cell)) 1 ([(.int .i64 a1)] : List Cell)) 6 ([(.int .i64 (-1))] : List Cell)).length = 7 then some (.normal, (jacquardref16_VM_Pick_c3 k0 N0 o0 a1 a6 s0 (splice (splice (splice (List.replicate 7 (Cell.int .i64 0)) 0 ([(.int .i64 a1)] : List Cell)) 1 ([(.int .i64 a1)] : List Cell)) 6 ([(.int .i64 (-1))] : List Cell)) h)) else none : Option (Ex × St)).bind fun p_194 => (jacquardref16_VM_Pick_k4 C L G h0) p_194.1 p_194.2 := by kernel_rfl
theorem jacquardref16_VM_Pick_ec1_n (C : CallF) (L : LoopF) (G : Glo) (h0 : AHeap) (k0 : Nat) (N0 : Nat) (o0 : Nat) (a1 : Int) (s0 : List Cell) (h : AHeap) :
    (jacquardref16_VM_Pick_k2 C L G h0) .normal (jacquardref16_VM_Pick_c1 k0 N0 o0 a1 s0 h) =
    (rdH h k0 N0 fun l_4 => atK l_4 (o0 + 36) fun q_5 => lenK q_5 fun n_6 => some (.normal, (jacquardref16_VM_Pick_c2 k0 N0 o0 a1 n_6 s0 h)) : Option (Ex × St)).bind fun p_195 => (jacquardref16_VM_Pick_k3 C L G h0) p_195.1 p_195.2 := by kernel_rfl
theorem jacquardref16_VM_Pick_ec1_0 (C : CallF) (L : LoopF) (G : Glo) (h0 : AHeap) (b5 : Bool) (s0 : List Cell) (h : AHeap) :
    (jacquardref16_VM_Pick_k2 C L G h0) .ret (jacquardref16_VM_Pick_c1_0 b5 s0 h) =
    if 0 = 0 ∧ s0.length = 7 then some ([(.agg s0), (.c (.bool b5))], h) else none := by kernel_rfl
set_option maxRecDepth 100000 in
theorem jacquardref16_VM_Pick_eq (C : CallF) (L : LoopF) (G : Glo) (k0 : Nat) (N0 : Nat) (o0 : Nat) (a1 : Int) (h0 : AHeap) :
    jacquardref16_VM_Pick.body C L G [(.c (.ptr k0 N0 o0)), (.c (.int .i64 a1))] h0 =
    (c1 (C 196 [(.c (.ptr k0 N0 o0)), (.c (.int .i64 a1))] h0) fun y_2 h_1 => asB y_2 fun b_3 => if (!b_3) = true then if 0 = 0 ∧ (List.replicate 7 (Cell.int .i64 0)).length = 7 ∧ (List.replicate 7 (Cell.int .i64 0)).length = 7 then some (.ret, (jacquardref16_VM_Pick_c1_0 false (List.replicate 7 (Cell.int .i64 0)) h_1)) else none else some (.normal, (jacquardref16_VM_Pick_c1 k0 N0 o0 a1 (List.replicate 7 (Cell.int .i64 0)) h_1)) : Option (Ex × St)).bind fun p_196 => (jacquardref16_VM_Pick_k2 C L G h0) p_196.1 p_196.2 := by kernel_rfl

/- jacquard/jacquardref16.Run: 186 -/
def jacquardref16_Run_k2 (C : CallF) (L : LoopF) (G : Glo) (h0 : AHeap) : Ex → St → Option (List AV × AHeap) :=
  kSeq (fun st => jacquardref16_Run_p1.exec C L G st (jacquardref16_Run.fin G h0)) (jacquardref16_Run.fin G h0)
def jacquardref16_Run_k3 (C : CallF) (L : LoopF) (G : Glo) (h0 : AHeap) : Ex → St → Option (List AV × AHeap) :=
  kBlk 0 (jacquardref16_Run_k2 C L G h0)
def jacquardref16_Run_s1 (x2 : Cell) (x8 : Cell) (a9 : Int) (h : AHeap) : St := ⟨[.top, .top, .v (.c x2), .top, .top, .top, .top, .top, .v (.c x8), .v (.c (.int .i64 a9)), .top, .top, .top, .top, .top, .top, .top, .top, .top, .top, .top, .top, .top, .top, .top, .top, .top, .top, .top, .top, .top, .top, .top, .top, .top, .top, .top], [none, none], h⟩
def jacquardref16_Run_F1 (C : CallF) (L : LoopF) (G : Glo) : St → Option (Ex × St) :=
  roundF (fun st f => jacquardref16_Run_b1.exec C L G st f) [2, 8, 9] [] [(0, [6, 7], []), (1, [2, 8], [])]
def jacquardref16_Run_x1_0 (x6 : Cell) (a7 : Int) (h : AHeap) : St := ⟨[.top, .top, .top, .top, .top, .top, .v (.c x6), .v (.c (.int .i64 a7)), .top, .top, .top, .top, .top, .top, .top, .top, .top, .top, .top, .top, .top, .top, .top, .top, .top, .top, .top, .top, .top, .top, .top, .top, .top, .top, .top, .top, .top], [none, none], h⟩
def jacquardref16_Run_x1_1 (x2 : Cell) (x8 : Cell) (h : AHeap) : St := ⟨[.top, .top, .v (.c x2), .top, .top, .top, .top, .top, .v (.c x8), .top, .top, .top, .top, .top, .top, .top, .top, .top, .top, .top, .top, .top, .top, .top, .top, .top, .top, .top, .top, .top, .top, .top, .top, .top, .top, .top, .top], [none, none], h⟩
theorem jacquardref16_Run_r1 (C : CallF) (L : LoopF) (G : Glo) (x2 : Cell) (x8 : Cell) (a9 : Int) (h : AHeap) :
    jacquardref16_Run_F1 C L G (jacquardref16_Run_s1 x2 x8 a9 h) =
    lenK x2 fun n_4 => if (decide (a9 < n_4)) = true then idxSK 1 x2 a9 fun k_5 N_6 o_7 => rdH h k_5 N_6 fun l_8 => atK l_8 o_7 fun q_9 => asI .i64 (.c q_9) fun n_10 => c2 (C 182 [(.c x8), (.c (.int .i64 n_10))] h) fun y_12 y_13 h_11 => asA y_12 fun l_14 => asB y_13 fun b_15 => if 0 = 0 ∧ (List.replicate 7 (Cell.int .i64 0)).length = 7 ∧ l_14.length = 7 then if (!b_15) = true then some (.ret, (jacquardref16_Run_x1_0 x8 a9 h_11)) else some (.normal, (jacquardref16_Run_s1 x2 x8 (G.wrap .i64 (a9 + 1)) h_11)) else none else some ((.exit 0), (jacquardref16_Run_x1_1 x2 x8 h)) := by kernel_rfl
theorem jacquardref16_Run_e1_0 (C : CallF) (L : LoopF) (G : Glo) (h0 : AHeap) (x6 : Cell) (a7 : Int) (h : AHeap) :
    (jacquardref16_Run_k3 C L G h0) .ret (jacquardref16_Run_x1_0 x6 a7 h) =
    some ([(.c x6), (.c (.int .i64 a7))], h) := by kernel_rfl
theorem jacquardref16_Run_e1_1 (C : CallF) (L : LoopF) (G : Glo) (h0 : AHeap) (x2 : Cell) (x8 : Cell) (h : AHeap) :
    (jacquardref16_Run_k3 C L G h0) (.exit 0) (jacquardref16_Run_x1_1 x2 x8 h) =
    lenK x2 fun n_16 => some ([(.c x8), (.c (.int .i64 n_16))], h) := by kernel_rfl
set_option maxRecDepth 100000 in
theorem jacquardref16_Run_eq (C : CallF) (L : LoopF) (G : Glo) (l0 : List Cell) (a1 : Int) (x2 : Cell) (h0 : AHeap) :
    jacquardref16_Run.body C L G [(.agg l0), (.c (.int .i64 a1)), (.c x2)] h0 =
    if 0 = 0 ∧ l0.length = 3 then c1 (C 180 [(.agg l0), (.c (.int .i64 a1))] h0) fun y_2 h_1 => asC y_2 fun x_3 => (L (jacquardref16_Run_F1 C L G) (jacquardref16_Run_s1 x2 x_3 0 h_1)).bind fun p_17 => (jacquardref16_Run_k3 C L G h0) p_17.1 p_17.2 else none := by kernel_rfl

/- (*jacquard/jacquardref16.VM).May: 196 -/
set_option maxRecDepth 100000 in
theorem jacquardref16_VM_May_eq (C : CallF) (L : LoopF) (G : Glo) (k0 : Nat) (N0 : Nat) (o0 : Nat) (a1 : Int) (h0 : AHeap) :
    jacquardref16_VM_May.body C L G [(.c (.ptr k0 N0 o0)), (.c (.int .i64 a1))] h0 =
    scK (decide (a1 ≥ 0)) true (some ((decide (a1 < 4)), h0)) false h0 fun b_1 h_2 => if b_1 = true then rdH h_2 k0 N0 fun l_3 => if (o0 + 0) + 3 ≤ l_3.length then if 0 ≤ a1 ∧ a1 < ((4 : Nat) : Int) then rdH h_2 k0 N0 fun l_4 => if ((o0 + 12) + ((Int.toNat a1) * 5)) + 5 ≤ l_4.length then c2 (qh h_2 (C 81 [(.agg ((l_3.drop (o0 + 0)).take 3)), (.c (.int .i64 a1)), (.agg ((l_4.drop ((o0 + 12) + ((Int.toNat a1) * 5))).take 5))] h_2)) fun y_6 y_7 h_5 => asA y_6 fun l_8 => asB y_7 fun b_9 => if 0 = 0 ∧ (List.replicate 9 (Cell.int .i64 0)).length = 9 ∧ l_8.length = 9 then scK b_9 true (atK l_8 0 fun q_10 => asI .i64 (.c q_10) fun n_11 => scK (n_11 != 3) true (atK l_8 0 fun q_12 => asI .i64 (.c q_12) fun n_13 => some ((n_13 != 4), h_2)) false h_2 fun b_14 h_15 => scK b_14 false (if 0 ≤ a1 ∧ a1 < ((4 : Nat) : Int) then rdH h_15 k0 N0 fun l_16 => atK l_16 ((o0 + 32) + ((Int.toNat a1) * 1)) fun q_17 => lenK q_17 fun n_18 => some ((n_18 == 0), h_15) else none) true h_15 fun b_19 h_20 => some (b_19, h_20)) false h_2 fun b_21 h_22 => some ([(.c (.bool b_21))], h_22) else none else none else none else none else c3 (C 197 [(.c (.ptr k0 N0 o0)), (.c (.int .i64 a1))] h_2) fun y_24 y_25 y_26 h_23 => asI .i64 y_24 fun n_27 => asI .i64 y_25 fun n_28 => asB y_26 fun b_29 => scK b_29 true (c1 (C 198 [(.c (.ptr k0 N0 o0)), (.c (.int .i64 n_27)), (.c (.int .i64 n_28))] h_23) fun y_31 h_30 => asI .i64 y_31 fun n_32 => some ((decide (n_32 ≥ 0)), h_30)) false h_23 fun b_33 h_34 => some ([(.c (.bool b_33))], h_34) := by kernel_rfl

/- (*jacquard/jacquardref16.VM).flush: 197 -/
set_option maxRecDepth 100000 in
theorem jacquardref16_VM_flush_eq (C : CallF) (L : LoopF) (G : Glo) (k0 : Nat) (N0 : Nat) (o0 : Nat) (a1 : Int) (h0 : AHeap) :
    jacquardref16_VM_flush.body C L G [(.c (.ptr k0 N0 o0)), (.c (.int .i64 a1))] h0 =
    rdH h0 k0 N0 fun l_1 => atK l_1 (o0 + 3) fun q_2 => asI .i64 (.c q_2) fun n_3 => scK (n_3 == 2) true (some ((decide (a1 ≥ 4)), h0)) false h0 fun b_4 h_5 => scK b_4 true (some ((decide (a1 < 8)), h_5)) false h_5 fun b_6 h_7 => if b_6 = true then some ([(.c (.int .i64 (G.wrap .i64 (a1 - 4)))), (.c (.int .i64 (-1))), (.c (.bool true))], h_7) else rdH h_7 k0 N0 fun l_8 => atK l_8 (o0 + 3) fun q_9 => asI .i64 (.c q_9) fun n_10 => scK (n_10 == 3) true (some ((decide (a1 ≥ 8)), h_7)) false h_7 fun b_11 h_12 => scK b_11 true (some ((decide (a1 < 24)), h_12)) false h_12 fun b_13 h_14 => if b_13 = true then some ([(.c (.int .i64 (G.quo .i64 (G.wrap .i64 (a1 - 8)) 4))), (.c (.int .i64 (G.rem .i64 (G.wrap .i64 (a1 - 8)) 4))), (.c (.bool true))], h_14) else some ([(.c (.int .i64 0)), (.c (.int .i64 0)), (.c (.bool false))], h_14) := by kernel_rfl

/- (*jacquard/jacquardref16.VM).oldest: 198 -/
def jacquardref16_VM_oldest_k2 (C : CallF) (L : LoopF) (G : Glo) (h0 : AHeap) : Ex → St → Option (List AV × AHeap) :=
  kSeq (fun st => jacquardref16_VM_oldest_p1.exec C L G st (jacquardref16_VM_oldest.fin G h0)) (jacquardref16_VM_oldest.fin G h0)
def jacquardref16_VM_oldest_k3 (C : CallF) (L : LoopF) (G : Glo) (h0 : AHeap) : Ex → St → Option (List AV × AHeap) :=
  kBlk 0 (jacquardref16_VM_oldest_k2 C L G h0)
def jacquardref16_VM_oldest_s1 (k0 : Nat) (N0 : Nat) (o0 : Nat) (a1 : Int) (a2 : Int) (a7 : Int) (h : AHeap) : St := ⟨[.v (.c (.ptr k0 N0 o0)), .v (.c (.int .i64 a1)), .v (.c (.int .i64 a2)), .top, .top, .top, .top, .v (.c (.int .i64 a7)), .top, .top, .top, .top, .top, .top, .top, .top, .top, .top, .top, .top, .top, .top, .top, .top, .top, .top, .top, .top, .top, .top, .top, .top, .top, .top, .top, .top], [], h⟩
def jacquardref16_VM_oldest_F1 (C : CallF) (L : LoopF) (G : Glo) : St → Option (Ex × St) :=
  roundF (fun st f => jacquardref16_VM_oldest_b1.exec C L G st f) [0, 1, 2, 7] [] [(0, [6], []), (1, [], [])]
def jacquardref16_VM_oldest_x1_0 (a6 : Int) (h : AHeap) : St := ⟨[.top, .top, .top, .top, .top, .top, .v (.c (.int .i64 a6)), .top, .top, .top, .top, .top, .top, .top, .top, .top, .top, .top, .top, .top, .top, .top, .top, .top, .top, .top, .top, .top, .top, .top, .top, .top, .top, .top, .top, .top], [], h⟩
def jacquardref16_VM_oldest_x1_1 (h : AHeap) : St := ⟨[.top, .top, .top, .top, .top, .top, .top, .top, .top, .top, .top, .top, .top, .top, .top, .top, .top, .top, .top, .top, .top, .top, .top, .top, .top, .top, .top, .top, .top, .top, .top, .top, .top, .top, .top, .top], [], h⟩
theorem jacquardref16_VM_oldest_r1 (C : CallF) (L : LoopF) (G : Glo) (k0 : Nat) (N0 : Nat) (o0 : Nat) (a1 : Int) (a2 : Int) (a7 : Int) (h : AHeap) :
    jacquardref16_VM_oldest_F1 C L G (jacquardref16_VM_oldest_s1 k0 N0 o0 a1 a2 a7 h) =
    if 0 ≤ a1 ∧ a1 < ((4 : Nat) : Int) then rdH h k0 N0 fun l_1 => atK l_1 ((o0 + 32) + ((Int.toNat a1) * 1)) fun q_2 => lenK q_2 fun n_3 => if (decide (a7 < n_3)) = true then scK (decide (a2 < 0)) false (if 0 ≤ a1 ∧ a1 < ((4 : Nat) : Int) then rdH h k0 N0 fun l_4 => atK l_4 ((o0 + 32) + ((Int.toNat a1) * 1)) fun q_5 => idxSK 3 q_5 a7 fun k_6 N_7 o_8 => rdH h k_6 N_7 fun l_9 => atK l_9 (o_8 + 0) fun q_10 => asI .i64 (.c q_10) fun n_11 => some ((n_11 == a2), h) else none) true h fun b_12 h_13 => if b_12 = true then some (.ret, (jacquardref16_VM_oldest_x1_0 a7 h_13)) else some (.normal, (jacquardref16_VM_oldest_s1 k0 N0 o0 a1 a2 (G.wrap .i64 (a7 + 1)) h_13)) else some ((.exit 0), (jacquardref16_VM_oldest_x1_1 h)) else none := by kernel_rfl
theorem jacquardref16_VM_oldest_e1_0 (C : CallF) (L : LoopF) (G : Glo) (h0 : AHeap) (a6 : Int) (h : AHeap) :
    (jacquardref16_VM_oldest_k3 C L G h0) .ret (jacquardref16_VM_oldest_x1_0 a6 h) =
    some ([(.c (.int .i64 a6))], h) := by kernel_rfl
theorem jacquardref16_VM_oldest_e1_1 (C : CallF) (L : LoopF) (G : Glo) (h0 : AHeap) (h : AHeap) :
    (jacquardref16_VM_oldest_k3 C L G h0) (.exit 0) (jacquardref16_VM_oldest_x1_1 h) =
    some ([(.c (.int .i64 (-1)))], h) := by kernel_rfl
set_option maxRecDepth 100000 in
theorem jacquardref16_VM_oldest_eq (C : CallF) (L : LoopF) (G : Glo) (k0 : Nat) (N0 : Nat) (o0 : Nat) (a1 : Int) (a2 : Int) (h0 : AHeap) :
    jacquardref16_VM_oldest.body C L G [(.c (.ptr k0 N0 o0)), (.c (.int .i64 a1)), (.c (.int .i64 a2))] h0 =
    (L (jacquardref16_VM_oldest_F1 C L G) (jacquardref16_VM_oldest_s1 k0 N0 o0 a1 a2 0 h0)).bind fun p_14 => (jacquardref16_VM_oldest_k3 C L G h0) p_14.1 p_14.2 := by kernel_rfl

/- (*jacquard/jacquardref16.VM).Copy: 404 -/
def jacquardref16_VM_Copy_k2 (C : CallF) (L : LoopF) (G : Glo) (h0 : AHeap) : Ex → St → Option (List AV × AHeap) :=
  kSeq (fun st => jacquardref16_VM_Copy_p1.exec C L G st (jacquardref16_VM_Copy.fin G h0)) (jacquardref16_VM_Copy.fin G h0)
def jacquardref16_VM_Copy_k3 (C : CallF) (L : LoopF) (G : Glo) (h0 : AHeap) : Ex → St → Option (List AV × AHeap) :=
  kBlk 0 (jacquardref16_VM_Copy_k2 C L G h0)
def jacquardref16_VM_Copy_s1 (k0 : Nat) (N0 : Nat) (o0 : Nat) (k3 : Nat) (N3 : Nat) (o3 : Nat) (a4 : Int) (h : AHeap) : St := ⟨[.v (.c (.ptr k0 N0 o0)), .top, .top, .v (.c (.ptr k3 N3 o3)), .v (.c (.int .i64 a4)), .top, .top, .top, .top, .top, .top, .top, .top, .top, .top, .top, .top, .top, .top, .top, .top, .top, .top, .top, .top, .top, .top, .top, .top, .top], [], h⟩
def jacquardref16_VM_Copy_F1 (C : CallF) (L : LoopF) (G : Glo) : St → Option (Ex × St) :=
  roundF (fun st f => jacquardref16_VM_Copy_b1.exec C L G st f) [0, 3, 4] [] [(1, [0, 3], [])]
def jacquardref16_VM_Copy_x1_1 (k0 : Nat) (N0 : Nat) (o0 : Nat) (k3 : Nat) (N3 : Nat) (o3 : Nat) (h : AHeap) : St := ⟨[.v (.c (.ptr k0 N0 o0)), .top, .top, .v (.c (.ptr k3 N3 o3)), .top, .top, .top, .top, .top, .top, .top, .top, .top, .top, .top, .top, .top, .top, .top, .top, .top, .top, .top, .top, .top, .top, .top, .top, .top, .top], [], h⟩
theorem jacquardref16_VM_Copy_r1 (C : CallF) (L : LoopF) (G : Glo) (k0 : Nat) (N0 : Nat) (o0 : Nat) (k3 : Nat) (N3 : Nat) (o3 : Nat) (a4 : Int) (h : AHeap) :
    jacquardref16_VM_Copy_F1 C L G (jacquardref16_VM_Copy_s1 k0 N0 o0 k3 N3 o3 a4 h) =
    if (decide (a4 < 4)) = true then if ([] : List Cell).length = 0 * 3 then if 0 ≤ a4 ∧ a4 < ((4 : Nat) : Int) then rdH (h ++ [some (Blk.mk true 3 ([] : List Cell))]) k0 N0 fun l_4 => atK l_4 ((o0 + 32) + ((Int.toNat a4) * 1)) fun q_5 => (slCells (h ++ [some (Blk.mk true 3 ([] : List Cell))]) 3 q_5).bind fun l_8 => appK 3 24 (.sl h.length (([] : List Cell).length) 0 0) l_8 (h ++ [some (Blk.mk true 3 ([] : List Cell))]) fun x_6 h_7 => if 0 ≤ a4 ∧ a4 < ((4 : Nat) : Int) then rdH h_7 k3 N3 fun l_9 => if ((o3 + 32) + ((Int.toNat a4) * 1)) < l_9.length then putH h_7 k3 (l_9.set ((o3 + 32) + ((Int.toNat a4) * 1)) x_6) fun h_10 => some (.normal, (jacquardref16_VM_Copy_s1 k0 N0 o0 k3 N3 o3 (G.wrap .i64 (a4 + 1)) h_10)) else none else none else none else none else some ((.exit 0), (jacquardref16_VM_Copy_x1_1 k0 N0 o0 k3 N3 o3 h)) := by kernel_rfl
theorem jacquardref16_VM_Copy_e1_1 (C : CallF) (L : LoopF) (G : Glo) (h0 : AHeap) (k0 : Nat) (N0 : Nat) (o0 : Nat) (k3 : Nat) (N3 : Nat) (o3 : Nat) (h : AHeap) :
    (jacquardref16_VM_Copy_k3 C L G h0) (.exit 0) (jacquardref16_VM_Copy_x1_1 k0 N0 o0 k3 N3 o3 h) =
    if ([] : List Cell).length = 0 * 7 then rdH (h ++ [some (Blk.mk true 7 ([] : List Cell))]) k0 N0 fun l_11 => atK l_11 (o0 + 36) fun q_12 => (slCells (h ++ [some (Blk.mk true 7 ([] : List Cell))]) 7 q_12).bind fun l_15 => appK 7 56 (.sl h.length (([] : List Cell).length) 0 0) l_15 (h ++ [some (Blk.mk true 7 ([] : List Cell))]) fun x_13 h_14 => rdH h_14 k3 N3 fun l_16 => if (o3 + 36) < l_16.length then putH h_14 k3 (l_16.set (o3 + 36) x_13) fun h_17 => some ([(.c (.ptr k3 N3 o3))], h_17) else none else none := by kernel_rfl
set_option maxRecDepth 100000 in
theorem jacquardref16_VM_Copy_eq (C : CallF) (L : LoopF) (G : Glo) (k0 : Nat) (N0 : Nat) (o0 : Nat) (h0 : AHeap) :
    jacquardref16_VM_Copy.body C L G [(.c (.ptr k0 N0 o0))] h0 =
    rdH h0 k0 N0 fun l_1 => if o0 + 37 ≤ l_1.length then rdH (h0 ++ [some (Blk.mk true 0 ([Cell.nils, Cell.nils, Cell.nils] ++ List.replicate 29 (Cell.int .i64 0) ++ List.replicate 5 (Cell.nils)))]) h0.length (([Cell.nils, Cell.nils, Cell.nils] ++ List.replicate 29 (Cell.int .i64 0) ++ List.replicate 5 (Cell.nils)).length) fun l_2 => if 0 = 0 ∧ l_2.length = 37 ∧ ((l_1.drop o0).take 37).length = 37 then putH (h0 ++ [some (Blk.mk true 0 ([Cell.nils, Cell.nils, Cell.nils] ++ List.replicate 29 (Cell.int .i64 0) ++ List.replicate 5 (Cell.nils)))]) h0.length ((l_1.drop o0).take 37) fun h_3 => (L (jacquardref16_VM_Copy_F1 C L G) (jacquardref16_VM_Copy_s1 k0 N0 o0 h0.length (([Cell.nils, Cell.nils, Cell.nils] ++ List.replicate 29 (Cell.int .i64 0) ++ List.replicate 5 (Cell.nils)).length) 0 0 h_3)).bind fun p_18 => (jacquardref16_VM_Copy_k3 C L G h0) p_18.1 p_18.2 else none else none := by kernel_rfl


end Jq

/- Steps: which clash; who wakes; who may be first. -/
namespace Jq
open Go

structure Stp where
  pick : Int
  t : Int
  kind : Int
  loc : Int
  r : Int
  w : Int
  frm : Int

def Stp.cs (s : Stp) : List Cell := [.int .i64 s.pick, .int .i64 s.t, .int .i64 s.kind, .int .i64 s.loc, .int .i64 s.r, .int .i64 s.w, .int .i64 s.frm]
def shStep : Sh := .agg (Sh.rep (.i .i64) 7)
def stepsC (l : List Stp) : List Cell := l.flatMap Stp.cs

theorem stp_len (s : Stp) : s.cs.length = 7 := rfl
theorem stp_pick {α : Type} {s : Stp} {f : Cell → Option α} : atK s.cs 0 f = f (.int .i64 s.pick) := rfl
theorem stp_t {α : Type} {s : Stp} {f : Cell → Option α} : atK s.cs 1 f = f (.int .i64 s.t) := rfl
theorem stp_kind {α : Type} {s : Stp} {f : Cell → Option α} : atK s.cs 2 f = f (.int .i64 s.kind) := rfl
theorem stp_loc {α : Type} {s : Stp} {f : Cell → Option α} : atK s.cs 3 f = f (.int .i64 s.loc) := rfl
theorem stp_r {α : Type} {s : Stp} {f : Cell → Option α} : atK s.cs 4 f = f (.int .i64 s.r) := rfl
theorem stp_w {α : Type} {s : Stp} {f : Cell → Option α} : atK s.cs 5 f = f (.int .i64 s.w) := rfl
theorem stepsC_len : ∀ l : List Stp, (stepsC l).length = l.length * 7
  | [] => rfl
  | s :: l => by simp only [stepsC, List.flatMap_cons, List.length_append]; rw [show (l.flatMap _).length = _ from stepsC_len l, stp_len]; simp; omega

theorem stepsC_at : ∀ (l : List Stp) (i : Nat) (s : Stp), l[i]? = some s → ((stepsC l).drop (i * 7)).take 7 = s.cs
  | [], _, _, h => by simp at h
  | q :: l, 0, s, h => by simp at h; subst h; rfl
  | q :: l, i + 1, s, h => by
    have := stepsC_at l i s (by simpa using h)
    have e : stepsC (q :: l) = q.cs ++ stepsC l := rfl
    rw [e, List.drop_append, List.drop_of_length_le (by rw [stp_len]; omega), List.nil_append, show (i + 1) * 7 - q.cs.length = i * 7 by rw [stp_len]; omega]
    exact this

theorem stepsC_snoc (l : List Stp) (s : Stp) : stepsC (l ++ [s]) = stepsC l ++ s.cs := by simp [stepsC]

/-- One of a row, wherever it is looked at. -/
theorem SlAt.elG {h : AHeap} {x : Cell} {esz len : Nat} {cs : List Cell} (s : SlAt h x esz cs len) {i : Nat} (hi : i < len) :
    ∃ off cs', (∀ {α : Type} (G : Nat → List Cell → Option α), (idxSK esz x (i : Int) fun k N o => rdH h k N fun l => G o l) = G off cs') ∧ off + esz ≤ cs'.length ∧ (cs'.drop off).take esz = (cs.drop (i * esz)).take esz := by
  rcases s.2 with ⟨_, rfl⟩ | ⟨k, N, off, rfl, h0 | ⟨b, hb, hN, hle, hat⟩⟩
  · omega
  · omega
  · have hlt : i * esz + esz ≤ len * esz := by
      have : (i + 1) * esz ≤ len * esz := Nat.mul_le_mul_right _ hi
      rw [Nat.succ_mul] at this; exact this
    refine ⟨off + i * esz, b.cs, fun G => by rw [idxSK_ok hi, rdH_ok hb hN], by omega, ?_⟩
    refine List.ext_getElem? fun j => ?_
    rw [List.getElem?_take, List.getElem?_take]
    by_cases hj : j < esz
    · rw [if_pos hj, if_pos hj, List.getElem?_drop, List.getElem?_drop, Nat.add_assoc, hat _ (by omega)]
    · rw [if_neg hj, if_neg hj]

/-- One of the steps. -/
theorem SlAt.step {α : Type} {h : AHeap} {x : Cell} {l : List Stp} (s : SlAt h x 7 (stepsC l) l.length) {i : Nat} {q : Stp} (hq : l[i]? = some q) {f : List Cell → Option α} :
    (idxSK 7 x (i : Int) fun k N o => rdH h k N fun l => if o + 7 ≤ l.length then f ((l.drop o).take 7) else none) = f q.cs := by
  have hi : i < l.length := by
    rcases Nat.lt_or_ge i l.length with h | h
    · exact h
    · rw [List.getElem?_eq_none h] at hq; cases hq
  rw [s.getN hi, stepsC_at l i q hq]

def wrS (s : Stp) (m : Int) : Bool := s.kind == 6 || s.kind == 4 || (m == 1 && s.kind == 2)
def rdS (s : Stp) : Bool := s.kind == 1 || s.kind == 4 || s.kind == 5
def fnS (s : Stp) : Bool := s.kind == 3 || s.kind == 4 || s.kind == 5
def tchS (s : Stp) (m : Int) : Bool := wrS s m || rdS s
/-- Do two steps clash? -/
def clash (a b : Stp) (m : Int) : Bool :=
  if (a.pick == b.pick) = true then true
  else if (a.t == b.t) = true then (a.kind == 6 && fnS b) || (b.kind == 6 && fnS a)
  else tchS a m && tchS b m && a.loc == b.loc && (wrS a m || wrS b m)

theorem clash_comm (a b : Stp) (m : Int) : clash a b m = clash b a m := by
  have ec : ∀ x y : Int, (y == x) = (x == y) := fun x y => by rw [Bool.eq_iff_iff, beq_iff_eq, beq_iff_eq]; exact eq_comm
  unfold clash
  rw [ec a.pick b.pick, ec a.t b.t, ec a.loc b.loc]
  split
  · rfl
  · split
    · exact Bool.or_comm _ _
    · cases tchS a m <;> cases tchS b m <;> cases (a.loc == b.loc) <;> cases wrS a m <;> cases wrS b m <;> rfl

/-- The sleepers that stay asleep. -/
def wakeS (a : Stp) (m : Int) : List Stp → Nat → Nat
  | [], s => s
  | x :: l, s => wakeS a m l (if clash x a m = true then ndiff s (bitI x.pick) else s)

section
variable {E : Env}

theorem Writes_R (hE : trace_Writes_In E) (s : Stp) (m : Int) (h : AHeap) : R E 257 [.agg s.cs, .c (.int .i64 m)] h = some ([.c (.bool (wrS s m))], h) := by
  refine R_intro hE.fn ?_
  rw [trace_Writes_eq]
  simp only [stp_kind, asI_ok, scK_or, scK_and, scK_ok]
  rfl

theorem Reads_R (hE : trace_Reads_In E) (s : Stp) (h : AHeap) : R E 266 [.agg s.cs] h = some ([.c (.bool (rdS s))], h) := by
  refine R_intro hE.fn ?_
  rw [trace_Reads_eq]
  simp only [stp_kind, asI_ok, scK_or, scK_and, scK_ok]
  rfl

theorem Fences_R (hE : trace_Fences_In E) (s : Stp) (h : AHeap) : R E 265 [.agg s.cs] h = some ([.c (.bool (fnS s))], h) := by
  refine R_intro hE.fn ?_
  rw [trace_Fences_eq]
  simp only [stp_kind, asI_ok, scK_or, scK_and, scK_ok]
  rfl

theorem touches_R (hE : sleep_touches_In E) (s : Stp) (m : Int) (h : AHeap) : R E 401 [.agg s.cs, .c (.int .i64 m)] h = some ([.c (.bool (tchS s m))], h) := by
  refine R_intro hE.fn ?_
  rw [sleep_touches_eq]
  simp only [stp_len, and_self, if_true, Writes_R hE.c257, Reads_R hE.c266, c1_ok, asB_ok, scK_or]
  rfl

theorem Clash_R (hE : sleep_Clash_In E) (a b : Stp) (m : Int) (h : AHeap) : R E 390 [.agg a.cs, .agg b.cs, .c (.int .i64 m)] h = some ([.c (.bool (clash a b m))], h) := by
  refine R_intro hE.fn ?_
  rw [sleep_Clash_eq]
  simp only [stp_len, stp_pick, stp_t, stp_kind, stp_loc, and_self, if_true, Writes_R hE.c257, Fences_R hE.c265, touches_R hE.c401, c1_ok, asI_ok, asB_ok, scK_or, scK_and]
  unfold clash
  split
  · rfl
  · split <;> rfl

theorem Covers_R (hE : sleep_Covers_In E) {a b : Nat} (ha : a < 2 ^ 64) (hb : b < 2 ^ 64) (h : AHeap) : R E 368 [.c (.int .u64 (a : Int)), .c (.int .u64 (b : Int))] h = some ([.c (.bool (b == 0 || (a &&& b) != 0))], h) := by
  refine R_intro hE.fn ?_
  rw [sleep_Covers_eq, g_band ha hb, scK_or, show ((b : Int) == 0) = (b == 0) by rw [Bool.eq_iff_iff]; simp, show (((a &&& b : Nat) : Int) != 0) = ((a &&& b) != 0) by rw [Bool.eq_iff_iff]; simp]

/-- May the one at a place be first, of those from a place on? -/
def frI (f : Nat → Nat) (a k : Nat) : Nat → Bool
  | 0 => true
  | i + 1 => frI f a k i && !(decide (a ≤ i) && (f i).testBit k)

/-- Who may be first, of the first so many. -/
def iniS (f : Nat → Nat) (l : List Int) (a : Nat) : Nat → Nat
  | 0 => 0
  | k + 1 => if (decide (a ≤ k) && frI f a k l.length) = true then iniS f l a k ||| bitI (l.getD k 0) else iniS f l a k

theorem iniS_lt (f : Nat → Nat) (l : List Int) (a : Nat) : ∀ k, iniS f l a k < 2 ^ 64
  | 0 => by rw [iniS]; omega
  | k + 1 => by
    rw [iniS]
    split
    · exact or_lt (iniS_lt f l a k) (bitI_lt _)
    · exact iniS_lt f l a k

theorem iniS_zero (f : Nat → Nat) (l : List Int) {a : Nat} : ∀ {k : Nat}, k ≤ a → iniS f l a k = 0
  | 0, _ => rfl
  | k + 1, h => by
    rw [iniS, show decide (a ≤ k) = false by simp; omega, Bool.false_and, if_neg (by simp)]
    exact iniS_zero f l (by omega)

theorem frI_true (f : Nat → Nat) (k : Nat) {a : Nat} : ∀ {i : Nat}, i ≤ a → frI f a k i = true
  | 0, _ => rfl
  | i + 1, h => by
    rw [frI, show decide (a ≤ i) = false by simp; omega, frI_true f k (by omega)]; rfl

theorem getD_int {l : List Int} {i : Nat} (hi : i < l.length) : l[i]? = some (l.getD i 0) := by
  rw [List.getD_eq_getElem?_getD, List.getElem?_eq_getElem hi]; rfl

/-- A walk over numbers that begins at a. -/
theorem Lim_from {F : St → Option (Ex × St)} (g : Nat → St) (a n : Nat) (hs : ∀ i, a ≤ i → i < n → F (g i) = some (.normal, g (i + 1))) {p} (hp : ∀ i, n ≤ i → (a ≤ i) → (i = a ∨ i = n) → Lim F (g i) = some p) : Lim F (g a) = some p := by
  by_cases h : a ≤ n
  · exact Lim_count g a n h hs (hp n (Nat.le_refl _) h (.inr rfl))
  · exact hp a (by omega) (Nat.le_refl _) (.inl rfl)

theorem Initials_R (hE : sleep_Initials_In E) {n : Nat} (hn : n ≤ 64) {f : Nat → Nat} (hf : Words f) {x : Cell} {l : List Int} {h : AHeap} (hx : SlAt h x 1 (intC .i64 l) l.length) (hl : l.length ≤ n) {a0 : Int} (a : Nat) (ha : (if 0 > a0 then 0 else a0) = (a : Int)) :
    R E 408 [.agg (relL n f), .c x, .c (.int .i64 a0)] h = some ([.c (.int .u64 ((iniS f l a l.length : Nat) : Int))], h) := by
  refine R_intro hE.fn ?_
  have inner : ∀ (s k : Nat), k < l.length → Lim (sleep_Initials_F1 (R E) Lim E.glob) (sleep_Initials_s1 x a s k true (a : Int) (relL n f) h) = some (.exit 2, sleep_Initials_x1_3 x a s k (frI f a k l.length) (relL n f) h) := by
    intro s k hk
    rw [show sleep_Initials_s1 x a s k true (a : Int) (relL n f) h = (fun i : Nat => sleep_Initials_s1 x a s k (frI f a k i) (i : Int) (relL n f) h) a by dsimp only; rw [frI_true f k (Nat.le_refl a)]]
    refine Lim_from (fun i : Nat => sleep_Initials_s1 x a s k (frI f a k i) (i : Int) (relL n f) h) a l.length (fun i hi1 hi2 => ?_) (fun i hi1 hi2 hi3 => Lim_exit ?_)
    · rw [sleep_Initials_r1, hx.len, if_pos (by simp; omega), frI]
      cases frI f a k i with
      | false => rw [scK_ft, Bool.false_and, g_succ (by omega)]
      | true =>
        have hr : hasR n f (i : Int) (k : Int) = (f i).testBit k := by
          unfold hasR
          rw [inR_nat, hasI_nat (by omega), Int.toNat_natCast]
          simp; omega
        rw [scK_ok, if_pos ⟨rfl, relL_len _ _⟩, HasR_R hE.c3 hn hf, c1_ok, asB_ok, hr, bind_ok]
        dsimp only
        rw [g_succ (by omega), show decide (a ≤ i) = true by simpa using hi1, Bool.true_and, Bool.true_and]
    · rw [sleep_Initials_r1, hx.len, if_neg (by simp; omega)]
      have : frI f a k i = frI f a k l.length := by
        rcases hi3 with e | e
        · rw [frI_true f k (by omega), frI_true f k (by omega)]
        · rw [e]
      rw [this]
  have outer : Lim (sleep_Initials_F2 (R E) Lim E.glob) (sleep_Initials_s2 x a 0 (a : Int) (relL n f) h) = some (.exit 0, sleep_Initials_x2_1 (iniS f l a l.length : Nat) h) := by
    rw [show sleep_Initials_s2 x a 0 (a : Int) (relL n f) h = (fun k : Nat => sleep_Initials_s2 x a (iniS f l a k : Nat) (k : Int) (relL n f) h) a by dsimp only; rw [iniS_zero f l (Nat.le_refl a)]; rfl]
    refine Lim_from (fun k : Nat => sleep_Initials_s2 x a (iniS f l a k : Nat) (k : Int) (relL n f) h) a l.length (fun k hk1 hk2 => ?_) (fun k hk1 hk2 hk3 => Lim_exit ?_)
    · rw [sleep_Initials_r2, hx.len, if_pos (by simp; omega), inner _ k hk2, bind_ok, sleep_Initials_e1_3, iniS, show decide (a ≤ k) = true by simpa using hk1, Bool.true_and]
      split
      · rw [hx.get1 hk2 (intC_get (getD_int hk2)), asI_ok, With_R hE.c18 (iniS_lt f l a k), c1_ok, asI_ok, g_succ (by omega)]
      · rw [g_succ (by omega)]
    · rw [sleep_Initials_r2, hx.len, if_neg (by simp; omega)]
      have : iniS f l a k = iniS f l a l.length := by
        rcases hk3 with e | e
        · rw [iniS_zero f l (by omega), iniS_zero f l (by omega)]
        · rw [e]
      rw [this]
  rw [sleep_Initials_eq, ha, outer, bind_ok, sleep_Initials_e2_1]

end
end Jq

namespace Jq
open Go


end Jq

namespace Jq
open Go


end Jq

/- Programs: instructions, where a thread is; what is done at once. -/
namespace Jq
open Go

structure Opd where
  reg : Int
  val : Int
  deriving DecidableEq
structure Ins where
  kind : Int
  reg : Int
  loc : Int
  a : Opd
  op : Int
  b : Opd
  n : Int
  deriving DecidableEq
structure Lcl where
  pc : Int
  r0 : Int
  r1 : Int
  r2 : Int
  r3 : Int
  deriving DecidableEq

def Opd.cs (o : Opd) : List Cell := [.int .i64 o.reg, .int .i64 o.val]
def Ins.cs (i : Ins) : List Cell := [.int .i64 i.kind, .int .i64 i.reg, .int .i64 i.loc, .int .i64 i.a.reg, .int .i64 i.a.val, .int .i64 i.op, .int .i64 i.b.reg, .int .i64 i.b.val, .int .i64 i.n]
def Lcl.cs (l : Lcl) : List Cell := [.int .i64 l.pc, .int .i64 l.r0, .int .i64 l.r1, .int .i64 l.r2, .int .i64 l.r3]
def codeC (l : List Ins) : List Cell := l.flatMap Ins.cs
def Ins.zero : Ins := ⟨0, 0, 0, ⟨0, 0⟩, 0, ⟨0, 0⟩, 0⟩
def Lcl.zero : Lcl := ⟨0, 0, 0, 0, 0⟩

theorem Ins.len (i : Ins) : i.cs.length = 9 := rfl
theorem Lcl.len (l : Lcl) : l.cs.length = 5 := rfl
theorem zero5 : [Cell.int .i64 0, Cell.int .i64 0, Cell.int .i64 0, Cell.int .i64 0, Cell.int .i64 0] = Lcl.zero.cs := rfl

theorem codeC_len : ∀ l : List Ins, (codeC l).length = l.length * 9
  | [] => rfl
  | s :: l => by simp only [codeC, List.flatMap_cons, List.length_append]; rw [show (l.flatMap _).length = _ from codeC_len l, Ins.len]; simp; omega

theorem codeC_at : ∀ (l : List Ins) (i : Nat) (s : Ins), l[i]? = some s → ((codeC l).drop (i * 9)).take 9 = s.cs
  | [], _, _, h => by simp at h
  | q :: l, 0, s, h => by simp at h; subst h; rfl
  | q :: l, i + 1, s, h => by
    have := codeC_at l i s (by simpa using h)
    have e : codeC (q :: l) = q.cs ++ codeC l := rfl
    rw [e, List.drop_append, List.drop_of_length_le (by rw [Ins.len]; omega), List.nil_append, show (i + 1) * 9 - q.cs.length = i * 9 by rw [Ins.len]; omega]
    exact this

theorem codeC_snoc (l : List Ins) (s : Ins) : codeC (l ++ [s]) = codeC l ++ s.cs := by simp [codeC]

/-- One instruction, wherever it is looked at. -/
theorem SlAt.insG {h : AHeap} {x : Cell} {l : List Ins} (s : SlAt h x 9 (codeC l) l.length) {i : Nat} {q : Ins} (hq : l[i]? = some q) :
    ∃ off cs', (∀ {α : Type} (G : Nat → List Cell → Option α), (idxSK 9 x (i : Int) fun k N o => rdH h k N fun l => G o l) = G off cs') ∧ off + 9 ≤ cs'.length ∧ (cs'.drop off).take 9 = q.cs := by
  have hi : i < l.length := by
    rcases Nat.lt_or_ge i l.length with h | h
    · exact h
    · rw [List.getElem?_eq_none h] at hq; cases hq
  obtain ⟨off, cs', h1, h2, h3⟩ := s.elG hi
  exact ⟨off, cs', h1, h2, h3.trans (codeC_at l i q hq)⟩

/-- A register. -/
def Lcl.reg (l : Lcl) (i : Int) : Int := if i = 0 then l.r0 else if i = 1 then l.r1 else if i = 2 then l.r2 else l.r3
/-- A register set, if there is one. -/
def Lcl.setR (l : Lcl) (i v : Int) : Lcl := if i = 0 then { l with r0 := v } else if i = 1 then { l with r1 := v } else if i = 2 then { l with r2 := v } else if i = 3 then { l with r3 := v } else l
/-- An operand's number. -/
def opV (o : Opd) (l : Lcl) : Int := if 0 ≤ o.reg ∧ o.reg < 4 then l.reg o.reg else o.val

/-- Numbers as they are, no tables. -/
def GN : Glo := Glo.std fun _ => []

/-- What a sign makes of two numbers. -/
def doV (op a b : Int) : Option Int :=
  if op = 1 then some (GN.wrap .i64 (a + b)) else if op = 2 then some (GN.wrap .i64 (a - b)) else if op = 3 then some (GN.wrap .i64 (a * b))
  else if op = 4 then some (GN.band .i64 a b) else if op = 5 then some (GN.bor .i64 a b) else if op = 6 then some (GN.bxor .i64 a b)
  else if op = 7 then some (GN.shl .i64 a (GN.rem .u64 (GN.wrap .u64 b) 64)) else if op = 8 then some (GN.shr .i64 a (GN.rem .u64 (GN.wrap .u64 b) 64))
  else if op = 9 then some (if a = b then 1 else 0) else if op = 10 then some (if a = b then 0 else 1) else if op = 11 then some (if a < b then 1 else 0) else none

/-- One instruction that is done at once, if one comes. -/
def stepI (code : List Ins) (l : Lcl) : Option Lcl :=
  if 0 ≤ l.pc then match code[l.pc.toNat]? with
    | none => none
    | some i =>
      if i.kind = 5 then
        let m := l.setR i.reg ((doV i.op (opV i.a l) (opV i.b l)).getD (opV i.a l))
        some { m with pc := m.pc + 1 }
      else if i.kind = 6 then
        (if opV i.a l = opV i.b l then some { l with pc := l.pc + min (max i.n 0) code.length + 1 } else some { l with pc := l.pc + 1 })
      else none
  else none

def nrm (code : List Ins) : Nat → Lcl → Lcl
  | 0, l => l
  | k + 1, l => match stepI code l with
    | none => l
    | some l' => nrm code k l'

/-- Made normal. -/
def normL (code : List Ins) (l : Lcl) : Lcl := nrm code code.length l

theorem getI_lt {α : Type} {l : List α} {i : Nat} {v : α} (h : l[i]? = some v) : i < l.length := by
  rcases Nat.lt_or_ge i l.length with h1 | h1
  · exact h1
  · rw [List.getElem?_eq_none h1] at h; cases h

theorem Lcl.setR_pc (l : Lcl) (i v : Int) : (l.setR i v).pc = l.pc := by unfold Lcl.setR; repeat' split <;> try rfl

theorem stepI_pc {code : List Ins} {l l' : Lcl} (h : stepI code l = some l') : 0 ≤ l.pc ∧ l.pc < code.length ∧ l.pc < l'.pc ∧ l'.pc ≤ 2 * code.length := by
  unfold stepI at h
  split at h
  · rename_i h0
    cases hi : code[l.pc.toNat]? with
    | none => rw [hi] at h; cases h
    | some i =>
      rw [hi] at h
      have hlt := getI_lt hi
      simp only at h
      split at h
      · cases h
        have := l.setR_pc i.reg ((doV i.op (opV i.a l) (opV i.b l)).getD (opV i.a l))
        refine ⟨h0, by omega, ?_, ?_⟩ <;> simp only [this] <;> omega
      · split at h
        · split at h
          · cases h; refine ⟨h0, by omega, ?_, ?_⟩ <;> simp only <;> omega
          · cases h; refine ⟨h0, by omega, ?_, ?_⟩ <;> simp only <;> omega
        · cases h
  · cases h

section
variable {E : Env}

theorem lcl_get {l : Lcl} {i : Int} (h0 : 0 ≤ i) (h1 : i < 4) : l.cs[1 + Int.toNat i * 1]? = some (.int .i64 (l.reg i)) := by
  have h : i = 0 ∨ i = 1 ∨ i = 2 ∨ i = 3 := by omega
  rcases h with rfl | rfl | rfl | rfl <;> rfl

theorem lcl_set {l : Lcl} {i v : Int} (h0 : 0 ≤ i) (h1 : i < 4) : l.cs.set (1 + Int.toNat i * 1) (.int .i64 v) = (l.setR i v).cs := by
  have h : i = 0 ∨ i = 1 ∨ i = 2 ∨ i = 3 := by omega
  rcases h with rfl | rfl | rfl | rfl <;> rfl

end
end Jq

/- RelAlgebra: joining and meeting are the same both ways; turned twice a relation is itself; closed twice it is closed. -/
namespace Jq
open Go

variable {E : Env}

end Jq

/- Relations told once more, by hand: closing, none leading to itself, cutting down, whether two are the same. -/
namespace Jq
open Go

theorem Low_mono {n m : Nat} (hm : n ≤ m) : ∀ {x : Cell}, Low n x → Low m x := by
  intro x h
  unfold Low at *
  split <;> simp_all
  omega

/-- What holds, over r. -/
def ACC (r : Nat) (q : Nat → Nat → Bool) : Nat → Nat := fun a => mkN fun b => decide (a < r) && decide (b < r) && q a b

variable {E : Env}

/-- Up to row i, place j. -/
def upto (i j a b : Nat) : Bool := decide (a < i) || (decide (a = i) && decide (b < j))

end Jq

/- Programs: made normal, begun, gone on. -/
namespace Jq
open Go

section
variable {E : Env}

theorem lcl_pc {α : Type} {l : Lcl} {f : Cell → Option α} : atK l.cs 0 f = f (.int .i64 l.pc) := rfl
theorem lcl_setpc {l : Lcl} {v : Int} : l.cs.set 0 (.int .i64 v) = ({ l with pc := v } : Lcl).cs := rfl
theorem ins_kind {α : Type} {i : Ins} {f : Cell → Option α} : atK i.cs 0 f = f (.int .i64 i.kind) := rfl
theorem ins_reg {α : Type} {i : Ins} {f : Cell → Option α} : atK i.cs 1 f = f (.int .i64 i.reg) := rfl
theorem ins_loc {α : Type} {i : Ins} {f : Cell → Option α} : atK i.cs 2 f = f (.int .i64 i.loc) := rfl
theorem ins_op {α : Type} {i : Ins} {f : Cell → Option α} : atK i.cs 5 f = f (.int .i64 i.op) := rfl
theorem ins_n {α : Type} {i : Ins} {f : Cell → Option α} : atK i.cs 8 f = f (.int .i64 i.n) := rfl
theorem ins_a {i : Ins} : (i.cs.drop 3).take 2 = i.a.cs := rfl
theorem ins_b {i : Ins} : (i.cs.drop 6).take 2 = i.b.cs := rfl

/-- A program, made of its parts. -/
structure PProg where
  locs : List Int
  init : List Int
  thr : List (List Ins)

/-- A program lies there. -/
def ProgAt (h : AHeap) (cs : List Cell) (P : PProg) : Prop :=
  ∃ a b c ts, cs = [a, b, c] ∧ (SlAt h a 1 (intC .u8 P.locs) P.locs.length ∧ Low h.length a) ∧ (SlAt h b 1 (intC .i64 P.init) P.init.length ∧ Low h.length b) ∧ (SlAt h c 1 ts P.thr.length ∧ Low h.length c) ∧
    ∀ (t : Nat) (code : List Ins), P.thr[t]? = some code → ∃ x : Cell, ts[t]? = some x ∧ SlAt h x 9 (codeC code) code.length ∧ Low h.length x

theorem ProgAt.len {h : AHeap} {cs : List Cell} {P : PProg} (p : ProgAt h cs P) : cs.length = 3 := by
  obtain ⟨a, b, c, ts, rfl, _⟩ := p; rfl

theorem ProgAt.keep {h h' : AHeap} {cs : List Cell} {P : PProg} (p : ProgAt h cs P) (hk : Kp h.length h h') : ProgAt h' cs P := by
  obtain ⟨a, b, c, ts, e, ⟨a1, a2⟩, ⟨b1, b2⟩, ⟨c1, c2⟩, ht⟩ := p
  exact ⟨a, b, c, ts, e, ⟨a1.keep a2 hk, Low_mono hk.1 a2⟩, ⟨b1.keep b2 hk, Low_mono hk.1 b2⟩, ⟨c1.keep c2 hk, Low_mono hk.1 c2⟩, fun t code h1 => by
    obtain ⟨x, x1, x2, x3⟩ := ht t code h1
    exact ⟨x, x1, x2.keep x3 hk, Low_mono hk.1 x3⟩⟩

/-- No thread is too long. -/
def PProg.fits (P : PProg) : Prop := P.thr.length < 4000000000000000000 ∧ ∀ code ∈ P.thr, code.length < 4000000000000000000

/-- A thread's instructions, or none. -/
def PProg.code (P : PProg) (t : Int) : List Ins := if 0 ≤ t then P.thr.getD t.toNat [] else []

def startL (P : PProg) (t : Int) : Lcl := normL (P.code t) Lcl.zero

/-- The instruction that comes, if one comes that touches memory. -/
def nextI (code : List Ins) (l : Lcl) : Option Ins :=
  if 0 ≤ l.pc then match code[l.pc.toNat]? with
    | none => none
    | some i => if 1 ≤ i.kind ∧ i.kind ≤ 4 then some i else none
  else none

theorem nextI_kind {code : List Ins} {l : Lcl} {i : Ins} (h : nextI code l = some i) : 0 ≤ l.pc ∧ l.pc < code.length ∧ code[l.pc.toNat]? = some i ∧ 1 ≤ i.kind ∧ i.kind ≤ 4 := by
  unfold nextI at h
  split at h
  · rename_i h0
    cases hi : code[l.pc.toNat]? with
    | none => rw [hi] at h; cases h
    | some j =>
      rw [hi] at h
      simp only at h
      split at h
      · cases h
        have := getI_lt hi
        rename_i hk
        exact ⟨h0, by omega, rfl, hk⟩
      · cases h
  · cases h

/-- Where a thread is behind an instruction that reads a value. -/
def afterL (code : List Ins) (l : Lcl) (v : Int) : Lcl := match nextI code l with
  | none => l
  | some i => normL code { (if i.kind = 2 ∨ i.kind = 4 then l.setR i.reg v else l) with pc := l.pc + 1 }

end
end Jq

namespace Jq
open Go

/- jacquard/jacquardref2.Do: 93 -/
set_option maxRecDepth 100000 in
theorem jacquardref2_Do_eq (C : CallF) (L : LoopF) (G : Glo) (a0 : Int) (a1 : Int) (a2 : Int) (h0 : AHeap) :
    jacquardref2_Do.body C L G [(.c (.int .i64 a0)), (.c (.int .i64 a1)), (.c (.int .i64 a2))] h0 =
    if (a0 == 1) = true then let v_1 : Int := (G.wrap .u64 ((G.wrap .u64 a1) + (G.wrap .u64 a2))); some ([(.c (.int .i64 (G.wrap .i64 v_1))), (.c (.bool true))], h0) else if (a0 == 2) = true then let v_2 : Int := (G.wrap .u64 ((G.wrap .u64 a1) - (G.wrap .u64 a2))); some ([(.c (.int .i64 (G.wrap .i64 v_2))), (.c (.bool true))], h0) else if (a0 == 3) = true then let v_3 : Int := (G.wrap .u64 ((G.wrap .u64 a1) * (G.wrap .u64 a2))); some ([(.c (.int .i64 (G.wrap .i64 v_3))), (.c (.bool true))], h0) else if (a0 == 4) = true then some ([(.c (.int .i64 (G.band .i64 a1 a2))), (.c (.bool true))], h0) else if (a0 == 5) = true then some ([(.c (.int .i64 (G.bor .i64 a1 a2))), (.c (.bool true))], h0) else if (a0 == 6) = true then some ([(.c (.int .i64 (G.bxor .i64 a1 a2))), (.c (.bool true))], h0) else if (a0 == 7) = true then if (G.rem .u64 (G.wrap .u64 a2) 64) < 0 then none else let v_4 : Int := (G.shl .u64 (G.wrap .u64 a1) (G.rem .u64 (G.wrap .u64 a2) 64)); some ([(.c (.int .i64 (G.wrap .i64 v_4))), (.c (.bool true))], h0) else if (a0 == 8) = true then if (G.rem .u64 (G.wrap .u64 a2) 64) < 0 then none else let v_5 : Int := (G.shr .i64 a1 (G.rem .u64 (G.wrap .u64 a2) 64)); some ([(.c (.int .i64 v_5)), (.c (.bool true))], h0) else if (a0 == 9) = true then if (a1 == a2) = true then some ([(.c (.int .i64 1)), (.c (.bool true))], h0) else some ([(.c (.int .i64 0)), (.c (.bool true))], h0) else if (a0 == 10) = true then if (a1 != a2) = true then some ([(.c (.int .i64 1)), (.c (.bool true))], h0) else some ([(.c (.int .i64 0)), (.c (.bool true))], h0) else if (a0 == 11) = true then if (decide (a1 < a2)) = true then some ([(.c (.int .i64 1)), (.c (.bool true))], h0) else some ([(.c (.int .i64 0)), (.c (.bool true))], h0) else some ([(.c (.int .i64 0)), (.c (.bool false))], h0) := by kernel_rfl

/- jacquard/jacquardref2.Locs: 121 -/
def jacquardref2_Locs_k2 (C : CallF) (L : LoopF) (G : Glo) (h0 : AHeap) : Ex → St → Option (List AV × AHeap) :=
  kSeq (fun st => jacquardref2_Locs_p1.exec C L G st (jacquardref2_Locs.fin G h0)) (jacquardref2_Locs.fin G h0)
def jacquardref2_Locs_k3 (C : CallF) (L : LoopF) (G : Glo) (h0 : AHeap) : Ex → St → Option (List AV × AHeap) :=
  kBlk 0 (jacquardref2_Locs_k2 C L G h0)
def jacquardref2_Locs_s1 (a4 : Int) (s0 : List Cell) (s1 : List Cell) (h : AHeap) : St := ⟨[.top, .loc 0 0, .top, .loc 1 0, .v (.c (.int .i64 a4)), .top, .top, .top, .top, .top, .top, .top, .top, .top, .top, .top, .top, .top, .top, .top, .top, .top, .top, .top, .top, .top, .top, .top, .top, .top, .top, .top, .top, .top, .top, .top, .top, .top, .top, .top, .top, .top, .top, .top, .top, .top, .top, .top, .top, .top, .top, .top, .top, .top, .top, .top, .top, .top, .top, .top, .top, .top, .top, .top, .top, .top, .top, .top, .top, .top, .top, .top, .top, .top, .top, .top, .top, .top, .top, .top, .top, .top, .top, .top, .top, .top, .top, .top, .top, .top, .top, .top, .top, .top, .top, .top, .top, .top], [some s0, some s1], h⟩
def jacquardref2_Locs_F1 (C : CallF) (L : LoopF) (G : Glo) : St → Option (Ex × St) :=
  roundF (fun st f => jacquardref2_Locs_b1.exec C L G st f) [1, 3, 4] [0, 1] [(1, [1, 3], [0, 1])]
def jacquardref2_Locs_x1_1 (s0 : List Cell) (s1 : List Cell) (h : AHeap) : St := ⟨[.top, .loc 0 0, .top, .loc 1 0, .top, .top, .top, .top, .top, .top, .top, .top, .top, .top, .top, .top, .top, .top, .top, .top, .top, .top, .top, .top, .top, .top, .top, .top, .top, .top, .top, .top, .top, .top, .top, .top, .top, .top, .top, .top, .top, .top, .top, .top, .top, .top, .top, .top, .top, .top, .top, .top, .top, .top, .top, .top, .top, .top, .top, .top, .top, .top, .top, .top, .top, .top, .top, .top, .top, .top, .top, .top, .top, .top, .top, .top, .top, .top, .top, .top, .top, .top, .top, .top, .top, .top, .top, .top, .top, .top, .top, .top, .top, .top, .top, .top, .top, .top], [some s0, some s1], h⟩
def jacquardref2_Locs_k4 (C : CallF) (L : LoopF) (G : Glo) (h0 : AHeap) : Ex → St → Option (List AV × AHeap) :=
  kSeq (fun st => jacquardref2_Locs_p2.exec C L G st (jacquardref2_Locs.fin G h0)) (jacquardref2_Locs.fin G h0)
def jacquardref2_Locs_k5 (C : CallF) (L : LoopF) (G : Glo) (h0 : AHeap) : Ex → St → Option (List AV × AHeap) :=
  kBlk 2 (jacquardref2_Locs_k4 C L G h0)
def jacquardref2_Locs_s3 (a5 : Int) (s0 : List Cell) (s1 : List Cell) (h : AHeap) : St := ⟨[.top, .loc 0 0, .top, .loc 1 0, .top, .v (.c (.int .i64 a5)), .top, .top, .top, .top, .top, .top, .top, .top, .top, .top, .top, .top, .top, .top, .top, .top, .top, .top, .top, .top, .top, .top, .top, .top, .top, .top, .top, .top, .top, .top, .top, .top, .top, .top, .top, .top, .top, .top, .top, .top, .top, .top, .top, .top, .top, .top, .top, .top, .top, .top, .top, .top, .top, .top, .top, .top, .top, .top, .top, .top, .top, .top, .top, .top, .top, .top, .top, .top, .top, .top, .top, .top, .top, .top, .top, .top, .top, .top, .top, .top, .top, .top, .top, .top, .top, .top, .top, .top, .top, .top, .top, .top], [some s0, some s1], h⟩
def jacquardref2_Locs_F3 (C : CallF) (L : LoopF) (G : Glo) : St → Option (Ex × St) :=
  roundF (fun st f => jacquardref2_Locs_b3.exec C L G st f) [1, 3, 5] [0, 1] [(3, [1, 3], [0, 1])]
def jacquardref2_Locs_k6 (C : CallF) (L : LoopF) (G : Glo) : Ex → St → Option (Ex × St) :=
  kSeq (fun st => jacquardref2_Locs_p3.exec C L G st (kLoop [1, 3, 5] [0, 1] [(3, [1, 3], [0, 1])])) (kLoop [1, 3, 5] [0, 1] [(3, [1, 3], [0, 1])])
def jacquardref2_Locs_k7 (C : CallF) (L : LoopF) (G : Glo) : Ex → St → Option (Ex × St) :=
  kBlk 3 (jacquardref2_Locs_k6 C L G)
def jacquardref2_Locs_k8 (C : CallF) (L : LoopF) (G : Glo) : Ex → St → Option (Ex × St) :=
  kBlk 4 (jacquardref2_Locs_k7 C L G)
def jacquardref2_Locs_s2 (a5 : Int) (a6 : Int) (s0 : List Cell) (s1 : List Cell) (h : AHeap) : St := ⟨[.top, .loc 0 0, .top, .loc 1 0, .top, .v (.c (.int .i64 a5)), .v (.c (.int .i64 a6)), .top, .top, .top, .top, .top, .top, .top, .top, .top, .top, .top, .top, .top, .top, .top, .top, .top, .top, .top, .top, .top, .top, .top, .top, .top, .top, .top, .top, .top, .top, .top, .top, .top, .top, .top, .top, .top, .top, .top, .top, .top, .top, .top, .top, .top, .top, .top, .top, .top, .top, .top, .top, .top, .top, .top, .top, .top, .top, .top, .top, .top, .top, .top, .top, .top, .top, .top, .top, .top, .top, .top, .top, .top, .top, .top, .top, .top, .top, .top, .top, .top, .top, .top, .top, .top, .top, .top, .top, .top, .top, .top], [some s0, some s1], h⟩
def jacquardref2_Locs_F2 (C : CallF) (L : LoopF) (G : Glo) : St → Option (Ex × St) :=
  roundF (fun st f => jacquardref2_Locs_b2.exec C L G st f) [1, 3, 5, 6] [0, 1] [(5, [1, 3, 5], [0, 1])]
def jacquardref2_Locs_x2_5 (a5 : Int) (s0 : List Cell) (s1 : List Cell) (h : AHeap) : St := ⟨[.top, .loc 0 0, .top, .loc 1 0, .top, .v (.c (.int .i64 a5)), .top, .top, .top, .top, .top, .top, .top, .top, .top, .top, .top, .top, .top, .top, .top, .top, .top, .top, .top, .top, .top, .top, .top, .top, .top, .top, .top, .top, .top, .top, .top, .top, .top, .top, .top, .top, .top, .top, .top, .top, .top, .top, .top, .top, .top, .top, .top, .top, .top, .top, .top, .top, .top, .top, .top, .top, .top, .top, .top, .top, .top, .top, .top, .top, .top, .top, .top, .top, .top, .top, .top, .top, .top, .top, .top, .top, .top, .top, .top, .top, .top, .top, .top, .top, .top, .top, .top, .top, .top, .top, .top, .top], [some s0, some s1], h⟩
def jacquardref2_Locs_x3_3 (s0 : List Cell) (s1 : List Cell) (h : AHeap) : St := ⟨[.top, .loc 0 0, .top, .loc 1 0, .top, .top, .top, .top, .top, .top, .top, .top, .top, .top, .top, .top, .top, .top, .top, .top, .top, .top, .top, .top, .top, .top, .top, .top, .top, .top, .top, .top, .top, .top, .top, .top, .top, .top, .top, .top, .top, .top, .top, .top, .top, .top, .top, .top, .top, .top, .top, .top, .top, .top, .top, .top, .top, .top, .top, .top, .top, .top, .top, .top, .top, .top, .top, .top, .top, .top, .top, .top, .top, .top, .top, .top, .top, .top, .top, .top, .top, .top, .top, .top, .top, .top, .top, .top, .top, .top, .top, .top, .top, .top, .top, .top, .top, .top], [some s0, some s1], h⟩
def jacquardref2_Locs_k9 (C : CallF) (L : LoopF) (G : Glo) (h0 : AHeap) : Ex → St → Option (List AV × AHeap) :=
  kSeq (fun st => jacquardref2_Locs_p4.exec C L G st (jacquardref2_Locs.fin G h0)) (jacquardref2_Locs.fin G h0)
def jacquardref2_Locs_k10 (C : CallF) (L : LoopF) (G : Glo) (h0 : AHeap) : Ex → St → Option (List AV × AHeap) :=
  kBlk 6 (jacquardref2_Locs_k9 C L G h0)
def jacquardref2_Locs_s5 (a7 : Int) (s0 : List Cell) (s1 : List Cell) (h : AHeap) : St := ⟨[.top, .loc 0 0, .top, .loc 1 0, .top, .top, .top, .v (.c (.int .i64 a7)), .top, .top, .top, .top, .top, .top, .top, .top, .top, .top, .top, .top, .top, .top, .top, .top, .top, .top, .top, .top, .top, .top, .top, .top, .top, .top, .top, .top, .top, .top, .top, .top, .top, .top, .top, .top, .top, .top, .top, .top, .top, .top, .top, .top, .top, .top, .top, .top, .top, .top, .top, .top, .top, .top, .top, .top, .top, .top, .top, .top, .top, .top, .top, .top, .top, .top, .top, .top, .top, .top, .top, .top, .top, .top, .top, .top, .top, .top, .top, .top, .top, .top, .top, .top, .top, .top, .top, .top, .top, .top], [some s0, some s1], h⟩
def jacquardref2_Locs_F5 (C : CallF) (L : LoopF) (G : Glo) : St → Option (Ex × St) :=
  roundF (fun st f => jacquardref2_Locs_b5.exec C L G st f) [1, 3, 7] [0, 1] [(7, [3], [1])]
def jacquardref2_Locs_k11 (C : CallF) (L : LoopF) (G : Glo) : Ex → St → Option (Ex × St) :=
  kSeq (fun st => jacquardref2_Locs_p5.exec C L G st (kLoop [1, 3, 7] [0, 1] [(7, [3], [1])])) (kLoop [1, 3, 7] [0, 1] [(7, [3], [1])])
def jacquardref2_Locs_k12 (C : CallF) (L : LoopF) (G : Glo) : Ex → St → Option (Ex × St) :=
  kBlk 7 (jacquardref2_Locs_k11 C L G)
def jacquardref2_Locs_k13 (C : CallF) (L : LoopF) (G : Glo) : Ex → St → Option (Ex × St) :=
  kBlk 8 (jacquardref2_Locs_k12 C L G)
def jacquardref2_Locs_s4 (a7 : Int) (a8 : Int) (s0 : List Cell) (s1 : List Cell) (h : AHeap) : St := ⟨[.top, .loc 0 0, .top, .loc 1 0, .top, .top, .top, .v (.c (.int .i64 a7)), .v (.c (.int .i64 a8)), .top, .top, .top, .top, .top, .top, .top, .top, .top, .top, .top, .top, .top, .top, .top, .top, .top, .top, .top, .top, .top, .top, .top, .top, .top, .top, .top, .top, .top, .top, .top, .top, .top, .top, .top, .top, .top, .top, .top, .top, .top, .top, .top, .top, .top, .top, .top, .top, .top, .top, .top, .top, .top, .top, .top, .top, .top, .top, .top, .top, .top, .top, .top, .top, .top, .top, .top, .top, .top, .top, .top, .top, .top, .top, .top, .top, .top, .top, .top, .top, .top, .top, .top, .top, .top, .top, .top, .top, .top], [some s0, some s1], h⟩
def jacquardref2_Locs_F4 (C : CallF) (L : LoopF) (G : Glo) : St → Option (Ex × St) :=
  roundF (fun st f => jacquardref2_Locs_b4.exec C L G st f) [1, 3, 7, 8] [0, 1] [(9, [1, 3, 7], [0, 1])]
def jacquardref2_Locs_x4_9 (a7 : Int) (s0 : List Cell) (s1 : List Cell) (h : AHeap) : St := ⟨[.top, .loc 0 0, .top, .loc 1 0, .top, .top, .top, .v (.c (.int .i64 a7)), .top, .top, .top, .top, .top, .top, .top, .top, .top, .top, .top, .top, .top, .top, .top, .top, .top, .top, .top, .top, .top, .top, .top, .top, .top, .top, .top, .top, .top, .top, .top, .top, .top, .top, .top, .top, .top, .top, .top, .top, .top, .top, .top, .top, .top, .top, .top, .top, .top, .top, .top, .top, .top, .top, .top, .top, .top, .top, .top, .top, .top, .top, .top, .top, .top, .top, .top, .top, .top, .top, .top, .top, .top, .top, .top, .top, .top, .top, .top, .top, .top, .top, .top, .top, .top, .top, .top, .top, .top, .top], [some s0, some s1], h⟩
def jacquardref2_Locs_x5_7 (s1 : List Cell) (h : AHeap) : St := ⟨[.top, .top, .top, .loc 1 0, .top, .top, .top, .top, .top, .top, .top, .top, .top, .top, .top, .top, .top, .top, .top, .top, .top, .top, .top, .top, .top, .top, .top, .top, .top, .top, .top, .top, .top, .top, .top, .top, .top, .top, .top, .top, .top, .top, .top, .top, .top, .top, .top, .top, .top, .top, .top, .top, .top, .top, .top, .top, .top, .top, .top, .top, .top, .top, .top, .top, .top, .top, .top, .top, .top, .top, .top, .top, .top, .top, .top, .top, .top, .top, .top, .top, .top, .top, .top, .top, .top, .top, .top, .top, .top, .top, .top, .top, .top, .top, .top, .top, .top, .top], [none, some s1], h⟩
def jacquardref2_Locs_k14 (C : CallF) (L : LoopF) (G : Glo) (h0 : AHeap) : Ex → St → Option (List AV × AHeap) :=
  kSeq (fun st => jacquardref2_Locs_p6.exec C L G st (jacquardref2_Locs.fin G h0)) (jacquardref2_Locs.fin G h0)
def jacquardref2_Locs_k15 (C : CallF) (L : LoopF) (G : Glo) (h0 : AHeap) : Ex → St → Option (List AV × AHeap) :=
  kBlk 10 (jacquardref2_Locs_k14 C L G h0)
def jacquardref2_Locs_s6 (x9 : Cell) (a10 : Int) (s1 : List Cell) (h : AHeap) : St := ⟨[.top, .top, .top, .loc 1 0, .top, .top, .top, .top, .top, .v (.c x9), .v (.c (.int .i32 a10)), .top, .top, .top, .top, .top, .top, .top, .top, .top, .top, .top, .top, .top, .top, .top, .top, .top, .top, .top, .top, .top, .top, .top, .top, .top, .top, .top, .top, .top, .top, .top, .top, .top, .top, .top, .top, .top, .top, .top, .top, .top, .top, .top, .top, .top, .top, .top, .top, .top, .top, .top, .top, .top, .top, .top, .top, .top, .top, .top, .top, .top, .top, .top, .top, .top, .top, .top, .top, .top, .top, .top, .top, .top, .top, .top, .top, .top, .top, .top, .top, .top, .top, .top, .top, .top, .top, .top], [none, some s1], h⟩
def jacquardref2_Locs_F6 (C : CallF) (L : LoopF) (G : Glo) : St → Option (Ex × St) :=
  roundF (fun st f => jacquardref2_Locs_b6.exec C L G st f) [3, 9, 10] [1] [(11, [9], [])]
def jacquardref2_Locs_x6_11 (x9 : Cell) (h : AHeap) : St := ⟨[.top, .top, .top, .top, .top, .top, .top, .top, .top, .v (.c x9), .top, .top, .top, .top, .top, .top, .top, .top, .top, .top, .top, .top, .top, .top, .top, .top, .top, .top, .top, .top, .top, .top, .top, .top, .top, .top, .top, .top, .top, .top, .top, .top, .top, .top, .top, .top, .top, .top, .top, .top, .top, .top, .top, .top, .top, .top, .top, .top, .top, .top, .top, .top, .top, .top, .top, .top, .top, .top, .top, .top, .top, .top, .top, .top, .top, .top, .top, .top, .top, .top, .top, .top, .top, .top, .top, .top, .top, .top, .top, .top, .top, .top, .top, .top, .top, .top, .top, .top], [none, none], h⟩
theorem jacquardref2_Locs_r1 (C : CallF) (L : LoopF) (G : Glo) (a4 : Int) (s0 : List Cell) (s1 : List Cell) (h : AHeap) :
    jacquardref2_Locs_F1 C L G (jacquardref2_Locs_s1 a4 s0 s1 h) =
    atK s0 1 fun q_1 => lenK q_1 fun n_2 => if (decide (a4 < n_2)) = true then atK s0 1 fun q_3 => idxSK 2 q_3 a4 fun k_4 N_5 o_6 => rdH h k_4 N_5 fun l_7 => atK l_7 (o_6 + 0) fun q_8 => asI .i64 (.c q_8) fun n_9 => if 0 ≤ (G.band .i64 n_9 255) ∧ (G.band .i64 n_9 255) < ((256 : Nat) : Int) then if (0 + ((Int.toNat (G.band .i64 n_9 255)) * 1)) < s1.length then some (.normal, (jacquardref2_Locs_s1 (G.wrap .i64 (a4 + 1)) s0 (s1.set (0 + ((Int.toNat (G.band .i64 n_9 255)) * 1)) (.bool true)) h)) else none else none else some ((.exit 0), (jacquardref2_Locs_x1_1 s0 s1 h)) := by kernel_rfl
theorem jacquardref2_Locs_r2 (C : CallF) (L : LoopF) (G : Glo) (a5 : Int) (a6 : Int) (s0 : List Cell) (s1 : List Cell) (h : AHeap) :
    jacquardref2_Locs_F2 C L G (jacquardref2_Locs_s2 a5 a6 s0 s1 h) =
    atK s0 2 fun q_12 => idxSK 1 q_12 a5 fun k_13 N_14 o_15 => rdH h k_13 N_14 fun l_16 => atK l_16 o_15 fun q_17 => lenK q_17 fun n_18 => if (decide (a6 < n_18)) = true then atK s0 2 fun q_19 => idxSK 1 q_19 a5 fun k_20 N_21 o_22 => rdH h k_20 N_21 fun l_23 => atK l_23 o_22 fun q_24 => idxSK 9 q_24 a6 fun k_25 N_26 o_27 => rdH h k_25 N_26 fun l_28 => atK l_28 (o_27 + 2) fun q_29 => asI .i64 (.c q_29) fun n_30 => if 0 ≤ (G.band .i64 n_30 255) ∧ (G.band .i64 n_30 255) < ((256 : Nat) : Int) then if (0 + ((Int.toNat (G.band .i64 n_30 255)) * 1)) < s1.length then some (.normal, (jacquardref2_Locs_s2 a5 (G.wrap .i64 (a6 + 1)) s0 (s1.set (0 + ((Int.toNat (G.band .i64 n_30 255)) * 1)) (.bool true)) h)) else none else none else some ((.exit 4), (jacquardref2_Locs_x2_5 a5 s0 s1 h)) := by kernel_rfl
theorem jacquardref2_Locs_e2_5 (C : CallF) (L : LoopF) (G : Glo) (a5 : Int) (s0 : List Cell) (s1 : List Cell) (h : AHeap) :
    (jacquardref2_Locs_k8 C L G) (.exit 4) (jacquardref2_Locs_x2_5 a5 s0 s1 h) =
    some (.normal, (jacquardref2_Locs_s3 (G.wrap .i64 (a5 + 1)) s0 s1 h)) := by kernel_rfl
theorem jacquardref2_Locs_r3 (C : CallF) (L : LoopF) (G : Glo) (a5 : Int) (s0 : List Cell) (s1 : List Cell) (h : AHeap) :
    jacquardref2_Locs_F3 C L G (jacquardref2_Locs_s3 a5 s0 s1 h) =
    atK s0 2 fun q_10 => lenK q_10 fun n_11 => if (decide (a5 < n_11)) = true then (L (jacquardref2_Locs_F2 C L G) (jacquardref2_Locs_s2 a5 0 s0 s1 h)).bind fun p_31 => (jacquardref2_Locs_k8 C L G) p_31.1 p_31.2 else some ((.exit 2), (jacquardref2_Locs_x3_3 s0 s1 h)) := by kernel_rfl
theorem jacquardref2_Locs_r4 (C : CallF) (L : LoopF) (G : Glo) (a7 : Int) (a8 : Int) (s0 : List Cell) (s1 : List Cell) (h : AHeap) :
    jacquardref2_Locs_F4 C L G (jacquardref2_Locs_s4 a7 a8 s0 s1 h) =
    atK s0 4 fun q_34 => idxSK 1 q_34 a7 fun k_35 N_36 o_37 => rdH h k_35 N_36 fun l_38 => atK l_38 o_37 fun q_39 => lenK q_39 fun n_40 => if (decide (a8 < n_40)) = true then atK s0 4 fun q_41 => idxSK 1 q_41 a7 fun k_42 N_43 o_44 => rdH h k_42 N_43 fun l_45 => atK l_45 o_44 fun q_46 => idxSK 4 q_46 a8 fun k_47 N_48 o_49 => rdH h k_47 N_48 fun l_50 => atK l_50 (o_49 + 2) fun q_51 => asI .i64 (.c q_51) fun n_52 => if 0 ≤ (G.band .i64 n_52 255) ∧ (G.band .i64 n_52 255) < ((256 : Nat) : Int) then if (0 + ((Int.toNat (G.band .i64 n_52 255)) * 1)) < s1.length then some (.normal, (jacquardref2_Locs_s4 a7 (G.wrap .i64 (a8 + 1)) s0 (s1.set (0 + ((Int.toNat (G.band .i64 n_52 255)) * 1)) (.bool true)) h)) else none else none else some ((.exit 8), (jacquardref2_Locs_x4_9 a7 s0 s1 h)) := by kernel_rfl
theorem jacquardref2_Locs_e4_9 (C : CallF) (L : LoopF) (G : Glo) (a7 : Int) (s0 : List Cell) (s1 : List Cell) (h : AHeap) :
    (jacquardref2_Locs_k13 C L G) (.exit 8) (jacquardref2_Locs_x4_9 a7 s0 s1 h) =
    some (.normal, (jacquardref2_Locs_s5 (G.wrap .i64 (a7 + 1)) s0 s1 h)) := by kernel_rfl
theorem jacquardref2_Locs_r5 (C : CallF) (L : LoopF) (G : Glo) (a7 : Int) (s0 : List Cell) (s1 : List Cell) (h : AHeap) :
    jacquardref2_Locs_F5 C L G (jacquardref2_Locs_s5 a7 s0 s1 h) =
    atK s0 4 fun q_32 => lenK q_32 fun n_33 => if (decide (a7 < n_33)) = true then (L (jacquardref2_Locs_F4 C L G) (jacquardref2_Locs_s4 a7 0 s0 s1 h)).bind fun p_53 => (jacquardref2_Locs_k13 C L G) p_53.1 p_53.2 else some ((.exit 6), (jacquardref2_Locs_x5_7 s1 h)) := by kernel_rfl
theorem jacquardref2_Locs_r6 (C : CallF) (L : LoopF) (G : Glo) (x9 : Cell) (a10 : Int) (s1 : List Cell) (h : AHeap) :
    jacquardref2_Locs_F6 C L G (jacquardref2_Locs_s6 x9 a10 s1 h) =
    if (decide (a10 ≤ 122)) = true then if 0 ≤ a10 ∧ a10 < ((256 : Nat) : Int) then atK s1 (0 + ((Int.toNat a10) * 1)) fun q_54 => asB (.c q_54) fun b_55 => if b_55 = true then if (splice [Cell.int .u8 0] 0 ([(.int .u8 (G.wrap .u8 a10))] : List Cell)).length = 1 * 1 then appK 1 1 x9 (splice [Cell.int .u8 0] 0 ([(.int .u8 (G.wrap .u8 a10))] : List Cell)) h fun x_56 h_57 => some (.normal, (jacquardref2_Locs_s6 x_56 (G.wrap .i32 (a10 + 1)) s1 h_57)) else none else some (.normal, (jacquardref2_Locs_s6 x9 (G.wrap .i32 (a10 + 1)) s1 h)) else none else some ((.exit 10), (jacquardref2_Locs_x6_11 x9 h)) := by kernel_rfl
theorem jacquardref2_Locs_e6_11 (C : CallF) (L : LoopF) (G : Glo) (h0 : AHeap) (x9 : Cell) (h : AHeap) :
    (jacquardref2_Locs_k15 C L G h0) (.exit 10) (jacquardref2_Locs_x6_11 x9 h) =
    some ([(.c x9)], h) := by kernel_rfl
theorem jacquardref2_Locs_e5_7 (C : CallF) (L : LoopF) (G : Glo) (h0 : AHeap) (s1 : List Cell) (h : AHeap) :
    (jacquardref2_Locs_k10 C L G h0) (.exit 6) (jacquardref2_Locs_x5_7 s1 h) =
    (L (jacquardref2_Locs_F6 C L G) (jacquardref2_Locs_s6 .nils 97 s1 h)).bind fun p_58 => (jacquardref2_Locs_k15 C L G h0) p_58.1 p_58.2 := by kernel_rfl
theorem jacquardref2_Locs_e3_3 (C : CallF) (L : LoopF) (G : Glo) (h0 : AHeap) (s0 : List Cell) (s1 : List Cell) (h : AHeap) :
    (jacquardref2_Locs_k5 C L G h0) (.exit 2) (jacquardref2_Locs_x3_3 s0 s1 h) =
    (L (jacquardref2_Locs_F5 C L G) (jacquardref2_Locs_s5 0 s0 s1 h)).bind fun p_59 => (jacquardref2_Locs_k10 C L G h0) p_59.1 p_59.2 := by kernel_rfl
theorem jacquardref2_Locs_e1_1 (C : CallF) (L : LoopF) (G : Glo) (h0 : AHeap) (s0 : List Cell) (s1 : List Cell) (h : AHeap) :
    (jacquardref2_Locs_k3 C L G h0) (.exit 0) (jacquardref2_Locs_x1_1 s0 s1 h) =
    (L (jacquardref2_Locs_F3 C L G) (jacquardref2_Locs_s3 0 s0 s1 h)).bind fun p_60 => (jacquardref2_Locs_k5 C L G h0) p_60.1 p_60.2 := by kernel_rfl
set_option maxRecDepth 100000 in
theorem jacquardref2_Locs_eq (C : CallF) (L : LoopF) (G : Glo) (l0 : List Cell) (h0 : AHeap) :
    jacquardref2_Locs.body C L G [(.agg l0)] h0 =
    (L (jacquardref2_Locs_F1 C L G) (jacquardref2_Locs_s1 0 l0 (List.replicate 256 (Cell.bool false)) h0)).bind fun p_61 => (jacquardref2_Locs_k3 C L G h0) p_61.1 p_61.2 := by kernel_rfl


end Jq

/- Programs as the document says: what is done at once, what comes next. -/
namespace Jq
open Go

theorem wrap_res {x y : Int} (h : x % 18446744073709551616 = y % 18446744073709551616) : IntKind.wrap .i64 x = IntKind.wrap .i64 y := by
  simp only [IntKind.wrap, IntKind.signed, IntKind.bits, Bool.true_and]
  split
  · rename_i h1
    have h1 := of_decide_eq_true h1
    split
    · omega
    · rename_i h2; exact absurd (decide_eq_true (by omega)) h2
  · rename_i h1
    split
    · rename_i h2
      have h2 := of_decide_eq_true h2
      exact absurd (decide_eq_true (by omega)) h1
    · omega

theorem u64_mod (x : Int) : IntKind.wrap .u64 x = x % 18446744073709551616 := by
  simp only [IntKind.wrap, IntKind.signed, IntKind.bits, Bool.false_and, Bool.false_eq_true, if_false]; rfl

/-- An instruction that may be, in a thread of so many. -/
structure GoodI (len : Nat) (i : Ins) : Prop where
  kind : 1 ≤ i.kind ∧ i.kind ≤ 6
  reg : i.kind = 2 ∨ i.kind = 4 ∨ i.kind = 5 → 0 ≤ i.reg ∧ i.reg < 4
  op : i.kind = 5 → 0 ≤ i.op ∧ i.op ≤ 11
  n : i.kind = 6 → 0 ≤ i.n ∧ i.n ≤ len

def GoodC (code : List Ins) : Prop := ∀ i ∈ code, GoodI code.length i

section
variable {E : Env}

theorem refValue_R (hE : jacquardref6_Value_In E) (o : Opd) (l : Lcl) (h : AHeap) : R E 92 [.agg o.cs, .agg l.cs] h = some ([.c (.int .i64 (opV o l))], h) := by
  refine R_intro hE.fn ?_
  have a0 : ∀ {α : Type} (f : Cell → Option α), atK o.cs 0 f = f (.int .i64 o.reg) := fun _ => rfl
  have a1 : ∀ {α : Type} (f : Cell → Option α), atK o.cs 1 f = f (.int .i64 o.val) := fun _ => rfl
  unfold opV
  rw [jacquardref6_Value_eq]
  simp only [a0, a1, asI_ok, scK_and]
  by_cases h1 : 0 ≤ o.reg ∧ o.reg < 4
  · rw [if_pos (by simp; omega), if_pos ⟨h1.1, h1.2⟩, if_pos h1, atK_ok (lcl_get h1.1 h1.2), asI_ok]
  · rw [if_neg (by simp; omega), if_neg h1]

theorem refDo_R (hE : jacquardref2_Do_In E) (op a b : Int) (h : AHeap) : R E 93 [.c (.int .i64 op), .c (.int .i64 a), .c (.int .i64 b)] h = some ([.c (.int .i64 ((doV op a b).getD 0)), .c (.bool (doV op a b).isSome)], h) := by
  refine R_intro hE.fn ?_
  rw [jacquardref2_Do_eq]
  have hr : ∀ x : Int, 0 ≤ E.glob.rem .u64 (E.glob.wrap .u64 x) 64 := by
    intro x
    show 0 ≤ Int.tmod (IntKind.wrap .u64 x) 64
    rw [u64_mod, Int.tmod_eq_emod_of_nonneg (Int.emod_nonneg _ (by omega))]
    exact Int.emod_nonneg _ (by omega)
  have hr' : ∀ x : Int, ¬ E.glob.rem .u64 (E.glob.wrap .u64 x) 64 < 0 := fun x => by have := hr x; omega
  simp only [hr', if_false]
  have w1 : E.glob.wrap .i64 (E.glob.wrap .u64 (E.glob.wrap .u64 a + E.glob.wrap .u64 b)) = GN.wrap .i64 (a + b) := by
    show IntKind.wrap .i64 (IntKind.wrap .u64 (IntKind.wrap .u64 a + IntKind.wrap .u64 b)) = IntKind.wrap .i64 (a + b)
    refine wrap_res ?_
    rw [u64_mod, u64_mod, u64_mod]; omega
  have w2 : E.glob.wrap .i64 (E.glob.wrap .u64 (E.glob.wrap .u64 a - E.glob.wrap .u64 b)) = GN.wrap .i64 (a - b) := by
    show IntKind.wrap .i64 (IntKind.wrap .u64 (IntKind.wrap .u64 a - IntKind.wrap .u64 b)) = IntKind.wrap .i64 (a - b)
    refine wrap_res ?_
    rw [u64_mod, u64_mod, u64_mod]; omega
  have w3 : E.glob.wrap .i64 (E.glob.wrap .u64 (E.glob.wrap .u64 a * E.glob.wrap .u64 b)) = GN.wrap .i64 (a * b) := by
    show IntKind.wrap .i64 (IntKind.wrap .u64 (IntKind.wrap .u64 a * IntKind.wrap .u64 b)) = IntKind.wrap .i64 (a * b)
    refine wrap_res ?_
    rw [u64_mod, u64_mod, u64_mod, Int.emod_emod_of_dvd _ (Int.dvd_refl _), ← Int.mul_emod]
  have w7 : ∀ k : Int, E.glob.wrap .i64 (E.glob.shl .u64 (E.glob.wrap .u64 a) k) = GN.shl .i64 a k := by
    intro k
    show IntKind.wrap .i64 (IntKind.wrap .u64 (IntKind.wrap .u64 a * 2 ^ min k.toNat IntKind.u64.bits)) = IntKind.wrap .i64 (a * 2 ^ min k.toNat IntKind.i64.bits)
    refine wrap_res ?_
    rw [u64_mod, u64_mod, Int.emod_emod_of_dvd _ (Int.dvd_refl _)]
    show _ = (a * 2 ^ min k.toNat IntKind.u64.bits) % _
    rw [Int.mul_emod, Int.emod_emod_of_dvd _ (Int.dvd_refl _), ← Int.mul_emod]
  simp only [w1, w2, w3, w7]
  unfold doV
  have key : ∀ k : Int, ((op == k) = true) = (op = k) := fun k => by rw [beq_iff_eq]
  simp only [key]
  by_cases h1 : op = 1
  · simp only [if_pos h1]; rfl
  simp only [if_neg h1]
  by_cases h2 : op = 2
  · simp only [if_pos h2]; rfl
  simp only [if_neg h2]
  by_cases h3 : op = 3
  · simp only [if_pos h3]; rfl
  simp only [if_neg h3]
  by_cases h4 : op = 4
  · simp only [if_pos h4]; rfl
  simp only [if_neg h4]
  by_cases h5 : op = 5
  · simp only [if_pos h5]; rfl
  simp only [if_neg h5]
  by_cases h6 : op = 6
  · simp only [if_pos h6]; rfl
  simp only [if_neg h6]
  by_cases h7 : op = 7
  · simp only [if_pos h7]; rfl
  simp only [if_neg h7]
  by_cases h8 : op = 8
  · simp only [if_pos h8]; rfl
  simp only [if_neg h8]
  by_cases h9 : op = 9
  · simp only [if_pos h9]; (by_cases hab : a = b <;> simp [hab])
  simp only [if_neg h9]
  by_cases h10 : op = 10
  · simp only [if_pos h10]; (by_cases hab : a = b <;> simp [hab])
  simp only [if_neg h10]
  by_cases h11 : op = 11
  · simp only [if_pos h11]; (by_cases hab : a < b <;> simp [hab])
  simp only [if_neg h11]
  rfl

theorem doV_some {op : Int} (a b : Int) (h1 : 1 ≤ op) (h2 : op ≤ 11) : ∃ v, doV op a b = some v := by
  have h : op = 1 ∨ op = 2 ∨ op = 3 ∨ op = 4 ∨ op = 5 ∨ op = 6 ∨ op = 7 ∨ op = 8 ∨ op = 9 ∨ op = 10 ∨ op = 11 := by omega
  rcases h with rfl | rfl | rfl | rfl | rfl | rfl | rfl | rfl | rfl | rfl | rfl <;> exact ⟨_, rfl⟩

/-- One thread of a program that lies there. -/
theorem ProgAt.thr {h : AHeap} {cs : List Cell} {P : PProg} (p : ProgAt h cs P) {t : Nat} {code : List Ins} (ht : P.thr[t]? = some code) :
    ∃ x, SlAt h x 9 (codeC code) code.length ∧ Low h.length x ∧ ∀ {α : Type} (f : Cell → Option α), (atK cs 2 fun q => idxSK 1 q (t : Int) fun k N o => rdH h k N fun l => atK l o f) = f x := by
  obtain ⟨a, b, c, ts, rfl, _, _, ⟨hc, hcl⟩, hts⟩ := p
  obtain ⟨x, x1, x2, x3⟩ := hts _ _ ht
  refine ⟨x, x2, x3, fun f => ?_⟩
  show (idxSK 1 c (t : Int) fun k N o => rdH h k N fun l => atK l o f) = f x
  exact hc.get1 (getI_lt ht) x1

theorem ProgAt.nthr {α : Type} {h : AHeap} {cs : List Cell} {P : PProg} (p : ProgAt h cs P) {f : Int → Option α} : (atK cs 2 fun q => lenK q f) = f P.thr.length := by
  obtain ⟨a, b, c, ts, rfl, _, _, ⟨hc, hcl⟩, hts⟩ := p
  show lenK c f = _
  exact hc.len

theorem code_of {P : PProg} {t : Nat} {code : List Ins} (ht : P.thr[t]? = some code) : P.code (t : Int) = code := by
  unfold PProg.code
  rw [if_pos (by omega), Int.toNat_natCast, List.getD_eq_getElem?_getD, ht]; rfl

theorem refnormal_R (hE : jacquardref6_normal_In E) {cs : List Cell} {P : PProg} {h : AHeap} (p : ProgAt h cs P) {t : Nat} {code : List Ins} (ht : P.thr[t]? = some code) (hlen : code.length < 4000000000000000000) (hg : GoodC code) (l : Lcl) (h0 : 0 ≤ l.pc) :
    R E 123 [.agg cs, .c (.int .i64 (t : Int)), .agg l.cs] h = some ([.agg (normL code l).cs], h) := by
  refine R_intro hE.fn ?_
  obtain ⟨x, hx, hxl, hT⟩ := p.thr ht
  have round : ∀ l : Lcl, 0 ≤ l.pc → jacquardref6_normal_F1 (R E) Lim E.glob (jacquardref6_normal_s1 t cs l.cs Lcl.zero.cs h) = match stepI code l with
      | some l' => some (.normal, jacquardref6_normal_s1 t cs l'.cs Lcl.zero.cs h)
      | none => if l.pc < code.length then some (.ret, jacquardref6_normal_x1_0 l.cs h) else some (.exit 0, jacquardref6_normal_x1_1 l.cs Lcl.zero.cs h) := by
    intro l h0
    rw [jacquardref6_normal_r1, lcl_pc, asI_ok, hT, hx.len]
    by_cases h1 : l.pc < code.length
    · obtain ⟨q, hp⟩ : ∃ q : Nat, l.pc = (q : Int) := ⟨l.pc.toNat, by omega⟩
      have hpl : q < code.length := by omega
      have hq : code[q]? = some code[q] := List.getElem?_eq_getElem hpl
      have hgi := hg _ (List.getElem_mem hpl)
      generalize code[q] = i at hq hgi
      obtain ⟨off, cs', hG0, hle, hcs⟩ := hx.insG hq
      have hG : ∀ {α : Type} (G : Nat → List Cell → Option α), (idxSK 9 x l.pc fun k N o => rdH h k N fun l => G o l) = G off cs' := by intro α G; rw [hp]; exact hG0 G
      have hst : stepI code l = if i.kind = 5 then
          some { (l.setR i.reg ((doV i.op (opV i.a l) (opV i.b l)).getD (opV i.a l))) with pc := (l.setR i.reg ((doV i.op (opV i.a l) (opV i.b l)).getD (opV i.a l))).pc + 1 }
        else if i.kind = 6 then (if opV i.a l = opV i.b l then some { l with pc := l.pc + min (max i.n 0) code.length + 1 } else some { l with pc := l.pc + 1 }) else none := by
        unfold stepI
        rw [if_pos h0, show l.pc.toNat = q by omega, hq]
      rw [hst, if_pos (decide_eq_true h1), hT, lcl_pc, asI_ok, hG, if_pos hle, hcs, if_pos ⟨rfl, rfl, rfl⟩, ins_kind, asI_ok]
      by_cases k5 : i.kind = 5
      · obtain ⟨r0, r1⟩ := hgi.reg (.inr (.inr k5))
        obtain ⟨o0, o1⟩ := hgi.op k5
        rw [if_pos (by rw [k5]; rfl), if_pos k5, if_pos (show 3 + 2 ≤ i.cs.length by rw [Ins.len]; omega), if_pos ⟨rfl, rfl⟩, ins_a, refValue_R hE.c92, c1_ok, asI_ok, ins_op, asI_ok]
        by_cases hop : i.op = 0
        · have hd : doV i.op (opV i.a l) (opV i.b l) = none := by rw [hop]; rfl
          have hpc := l.setR_pc i.reg (opV i.a l)
          rw [hd, if_neg (by rw [hop]; simp), ins_reg, asI_ok, if_pos ⟨r0, r1⟩, if_pos (by rw [Lcl.len]; omega), lcl_set r0 r1, lcl_pc, asI_ok, if_pos (by rw [Lcl.len]; omega), lcl_setpc]
          rw [show (none : Option Int).getD (opV i.a l) = opV i.a l from rfl, hpc, g_wrap_i64 (x := l.pc + 1) (by omega) (by omega)]
        · obtain ⟨v, hd⟩ := doV_some (opV i.a l) (opV i.b l) (show 1 ≤ i.op by omega) o1
          have hpc := l.setR_pc i.reg v
          rw [hd, if_pos (by rw [bne_iff_ne]; exact hop), ins_op, asI_ok, if_pos (show 6 + 2 ≤ i.cs.length by rw [Ins.len]; omega), if_pos ⟨rfl, rfl⟩, ins_b, refValue_R hE.c92, qh_ok, c1_ok, asI_ok, refDo_R hE.c93, qh_ok, c2_ok, asI_ok, asB_ok, hd, ins_reg, asI_ok, if_pos ⟨r0, r1⟩, if_pos (by rw [Lcl.len]; omega), show (some v : Option Int).getD 0 = v from rfl, lcl_set r0 r1, lcl_pc, asI_ok, if_pos (by rw [Lcl.len]; omega), lcl_setpc]
          rw [show (some v : Option Int).getD (opV i.a l) = v from rfl, hpc, g_wrap_i64 (x := l.pc + 1) (by omega) (by omega)]
      · rw [if_neg (by rw [beq_iff_eq]; exact k5), if_neg k5]
        by_cases k6 : i.kind = 6
        · obtain ⟨n0, n1⟩ := hgi.n k6
          rw [if_pos (by rw [k6]; rfl), if_pos k6, if_pos (show 3 + 2 ≤ i.cs.length by rw [Ins.len]; omega), if_pos ⟨rfl, rfl⟩, ins_a, refValue_R hE.c92, qh_ok, c1_ok, asI_ok, if_pos (show 6 + 2 ≤ i.cs.length by rw [Ins.len]; omega), if_pos ⟨rfl, rfl⟩, ins_b, refValue_R hE.c92, qh_ok, c1_ok, asI_ok]
          by_cases hab : opV i.a l = opV i.b l
          · rw [if_pos (by rw [hab]; exact beq_self_eq_true _), if_pos hab, lcl_pc, asI_ok, ins_n, asI_ok, if_pos (by rw [Lcl.len]; omega), lcl_setpc, lcl_pc, asI_ok, if_pos (by rw [Lcl.len]; omega), lcl_setpc]
            dsimp only
            rw [show min (max i.n 0) (code.length : Int) = i.n by omega, g_wrap_i64 (x := l.pc + i.n) (by omega) (by omega), g_wrap_i64 (x := l.pc + i.n + 1) (by omega) (by omega)]
          · rw [if_neg (by rw [beq_iff_eq]; exact hab), if_neg hab, lcl_pc, asI_ok, if_pos (by rw [Lcl.len]; omega), lcl_setpc, g_wrap_i64 (x := l.pc + 1) (by omega) (by omega)]
        · rw [if_neg (by rw [beq_iff_eq]; exact k6), if_neg k6, if_pos ⟨rfl, rfl⟩, if_pos ⟨rfl, rfl, rfl⟩]
          dsimp only
          rw [if_pos h1]
    · have hst : stepI code l = none := by
        unfold stepI
        rw [if_pos h0, List.getElem?_eq_none (by omega)]
      rw [hst, if_neg (by simpa using h1)]
      dsimp only
      rw [if_neg h1]
  have stop : ∀ l : Lcl, 0 ≤ l.pc → stepI code l = none → (Lim (jacquardref6_normal_F1 (R E) Lim E.glob) (jacquardref6_normal_s1 t cs l.cs Lcl.zero.cs h)).bind (fun p => jacquardref6_normal_k3 (R E) Lim E.glob h p.1 p.2) = some ([.agg l.cs], h) := by
    intro l h0 hs
    have hr := round l h0
    rw [hs] at hr
    dsimp only at hr
    split at hr
    · rw [Lim_ret hr, bind_ok, jacquardref6_normal_e1_0, if_pos ⟨rfl, rfl⟩]
    · rw [Lim_exit hr, bind_ok, jacquardref6_normal_e1_1, if_pos ⟨rfl, rfl⟩, if_pos ⟨rfl, rfl, rfl⟩, if_pos ⟨rfl, rfl⟩]
  have loop : ∀ (k : Nat) (l : Lcl), 0 ≤ l.pc → (code.length : Int) ≤ l.pc + k → (Lim (jacquardref6_normal_F1 (R E) Lim E.glob) (jacquardref6_normal_s1 t cs l.cs Lcl.zero.cs h)).bind (fun p => jacquardref6_normal_k3 (R E) Lim E.glob h p.1 p.2) = some ([.agg (nrm code k l).cs], h) := by
    intro k
    induction k with
    | zero =>
      intro l h0 hk
      rw [nrm]
      refine stop l h0 ?_
      cases hs : stepI code l with
      | none => rfl
      | some l' => have := stepI_pc hs; omega
    | succ k ih =>
      intro l h0 hk
      rw [nrm]
      cases hs : stepI code l with
      | none => exact stop l h0 hs
      | some l' =>
        have hr := round l h0
        rw [hs] at hr
        have h3 := stepI_pc hs
        have := ih l' (by omega) (by omega)
        cases hL : Lim (jacquardref6_normal_F1 (R E) Lim E.glob) (jacquardref6_normal_s1 t cs l'.cs Lcl.zero.cs h) with
        | none => rw [hL] at this; cases this
        | some p => rw [Lim_next hr hL]; rw [hL] at this; exact this
  rw [jacquardref6_normal_eq, zero5]
  exact loop code.length l h0 (by omega)

theorem there_R (hE : jacquardref6_there_In E) {cs : List Cell} {P : PProg} {h : AHeap} (p : ProgAt h cs P) (t : Int) :
    R E 110 [.agg cs, .c (.int .i64 t)] h = some ([.c (.bool (decide (0 ≤ t) && decide (t < P.thr.length)))], h) := by
  refine R_intro hE.fn ?_
  rw [jacquardref6_there_eq]
  by_cases h0 : 0 ≤ t
  · rw [show decide (t ≥ 0) = true from decide_eq_true h0, scK_ok, p.nthr, bind_ok]
    rfl
  · rw [show decide (t ≥ 0) = false from decide_eq_false h0, scK_ft]
    rfl

/-- Each thread may be. -/
def PProg.good (P : PProg) : Prop := P.fits ∧ ∀ code ∈ P.thr, GoodC code

theorem code_out {P : PProg} {t : Int} (h : ¬ (0 ≤ t ∧ t < P.thr.length)) : P.code t = [] := by
  unfold PProg.code
  split
  · rw [List.getD_eq_getElem?_getD, List.getElem?_eq_none (by omega)]; rfl
  · rfl

theorem refStart_R (hE : jacquardref6_Start_In E) {cs : List Cell} {P : PProg} {h : AHeap} (hg : P.good) (p : ProgAt h cs P) (t : Int) :
    R E 104 [.agg cs, .c (.int .i64 t)] h = some ([.agg (startL P t).cs], h) := by
  refine R_intro hE.fn ?_
  rw [jacquardref6_Start_eq, if_pos ⟨rfl, p.len⟩, there_R hE.c110 p, c1_ok, asB_ok]
  by_cases ht : 0 ≤ t ∧ t < P.thr.length
  · obtain ⟨q, hq⟩ : ∃ q : Nat, t = (q : Int) := ⟨t.toNat, by omega⟩
    have hqq : P.thr[q]? = some P.thr[q] := List.getElem?_eq_getElem (by omega)
    have hm := List.mem_of_getElem? hqq
    generalize P.thr[q] = code at hqq hm
    rw [show (decide (0 ≤ t) && decide (t < P.thr.length)) = true by simp [ht.1, ht.2], if_neg (by simp), if_pos ⟨rfl, p.len⟩, zero5, hq, refnormal_R hE.c123 p hqq (hg.1.2 _ hm) (hg.2 _ hm) Lcl.zero (by simp [Lcl.zero]), c1_ok, asA_ok, if_pos ⟨rfl, rfl, rfl⟩, if_pos ⟨rfl, rfl⟩]
    unfold startL
    rw [code_of hqq]
  · have hs : startL P t = Lcl.zero := by unfold startL; rw [code_out ht]; rfl
    rw [show (decide (0 ≤ t) && decide (t < P.thr.length)) = false by simp; omega, if_pos (show (!false) = true from rfl), zero5, if_pos ⟨rfl, rfl, rfl⟩, if_pos ⟨rfl, rfl⟩, hs]

theorem refNext_R (hE : jacquardref6_Next_In E) {cs : List Cell} {P : PProg} {h : AHeap} (hg : P.good) (p : ProgAt h cs P) (t : Int) (l : Lcl) :
    R E 81 [.agg cs, .c (.int .i64 t), .agg l.cs] h = some ([.agg ((nextI (P.code t) l).getD Ins.zero).cs, .c (.bool (nextI (P.code t) l).isSome)], h) := by
  refine R_intro hE.fn ?_
  rw [jacquardref6_Next_eq, if_pos ⟨rfl, p.len⟩, there_R hE.c110 p, qh_ok, c1_ok, asB_ok]
  by_cases ht : 0 ≤ t ∧ t < P.thr.length
  · obtain ⟨q, hq⟩ : ∃ q : Nat, t = (q : Int) := ⟨t.toNat, by omega⟩
    have hqq : P.thr[q]? = some P.thr[q] := List.getElem?_eq_getElem (by omega)
    have hm := List.mem_of_getElem? hqq
    generalize P.thr[q] = code at hqq hm
    have hgc := hg.2 _ hm
    obtain ⟨x, hx, hxl, hT⟩ := p.thr hqq
    rw [show (decide (0 ≤ t) && decide (t < P.thr.length)) = true by simp [ht.1, ht.2], Bool.not_true, scK_ok, lcl_pc, asI_ok, bind_ok]
    dsimp only
    subst hq
    rw [code_of hqq]
    by_cases h0 : 0 ≤ l.pc
    · rw [show decide (l.pc < 0) = false from decide_eq_false (by omega), scK_ok, lcl_pc, asI_ok, hT, hx.len, bind_ok]
      dsimp only
      by_cases h1 : l.pc < code.length
      · obtain ⟨m, hmm⟩ : ∃ m : Nat, l.pc = (m : Int) := ⟨l.pc.toNat, by omega⟩
        have hml : m < code.length := by omega
        have hi : code[m]? = some code[m] := List.getElem?_eq_getElem hml
        have hgi := hgc _ (List.getElem_mem hml)
        generalize code[m] = i at hi hgi
        obtain ⟨off, cs', hG0, hle, hcs⟩ := hx.insG hi
        have hG : ∀ {α : Type} (G : Nat → List Cell → Option α), (idxSK 9 x l.pc fun k N o => rdH h k N fun l => G o l) = G off cs' := by intro α G; rw [hmm]; exact hG0 G
        have hn : nextI code l = if 1 ≤ i.kind ∧ i.kind ≤ 4 then some i else none := by
          unfold nextI
          rw [if_pos h0, show l.pc.toNat = m by omega, hi]
        have hk2 := hgi.kind
        rw [show decide (l.pc ≥ (code.length : Int)) = false from decide_eq_false (by omega), if_neg (by simp), hT, lcl_pc, asI_ok, hG, if_pos hle, hcs, if_pos ⟨rfl, rfl, rfl⟩, ins_kind, asI_ok, ins_kind, asI_ok, scK_or, hn]
        by_cases hk : 1 ≤ i.kind ∧ i.kind ≤ 4
        · rw [if_neg (by simp; omega), if_pos hk, if_pos ⟨rfl, rfl⟩, if_pos ⟨rfl, rfl, rfl⟩, if_pos ⟨rfl, rfl⟩]; rfl
        · rw [if_pos (by simp; omega), if_neg hk, if_pos ⟨rfl, rfl, rfl⟩, if_pos ⟨rfl, rfl⟩]; rfl
      · have hn : nextI code l = none := by unfold nextI; rw [if_pos h0, List.getElem?_eq_none (by omega)]
        rw [show decide (l.pc ≥ (code.length : Int)) = true from decide_eq_true (by omega), if_pos rfl, hn, if_pos ⟨rfl, rfl, rfl⟩, if_pos ⟨rfl, rfl⟩]; rfl
    · have hn : nextI code l = none := by unfold nextI; rw [if_neg h0]
      rw [show decide (l.pc < 0) = true from decide_eq_true (by omega), scK_tf, if_pos rfl, hn, if_pos ⟨rfl, rfl, rfl⟩, if_pos ⟨rfl, rfl⟩]; rfl
  · have hn : nextI (P.code t) l = none := by rw [code_out ht]; unfold nextI; split <;> simp
    rw [show (decide (0 ≤ t) && decide (t < P.thr.length)) = false by simp; omega, Bool.not_false, scK_tf, scK_tf, if_pos rfl, hn, if_pos ⟨rfl, rfl, rfl⟩, if_pos ⟨rfl, rfl⟩]; rfl

theorem refAfter_R (hE : jacquardref6_After_In E) {cs : List Cell} {P : PProg} {h : AHeap} (hg : P.good) (p : ProgAt h cs P) (t : Int) (l : Lcl) (v : Int) :
    R E 107 [.agg cs, .c (.int .i64 t), .agg l.cs, .c (.int .i64 v)] h = some ([.agg (afterL (P.code t) l v).cs], h) := by
  refine R_intro hE.fn ?_
  rw [jacquardref6_After_eq, if_pos ⟨rfl, p.len⟩, if_pos ⟨rfl, rfl⟩, refNext_R hE.c81 hg p, c2_ok, asA_ok, asB_ok, if_pos ⟨rfl, rfl, rfl⟩]
  unfold afterL
  cases hn : nextI (P.code t) l with
  | none =>
    rw [show (none : Option Ins).isSome = false from rfl, if_pos (show (!false) = true from rfl), if_pos ⟨rfl, rfl⟩, if_pos ⟨rfl, rfl, rfl⟩, if_pos ⟨rfl, rfl⟩]
  | some i =>
    obtain ⟨n0, n1, n2, n3, n4⟩ := nextI_kind hn
    have ht : 0 ≤ t ∧ t < P.thr.length := by
      refine Classical.byContradiction fun hc => ?_
      rw [code_out hc] at n2; simp at n2
    obtain ⟨q, hq⟩ : ∃ q : Nat, t = (q : Int) := ⟨t.toNat, by omega⟩
    have hqq : P.thr[q]? = some P.thr[q] := List.getElem?_eq_getElem (by omega)
    have hm := List.mem_of_getElem? hqq
    generalize P.thr[q] = code at hqq hm
    subst hq
    rw [code_of hqq] at n1 n2 ⊢
    have hgi := hg.2 _ hm i (List.mem_of_getElem? n2)
    have hfit := hg.1.2 _ hm
    rw [show (some i : Option Ins).isSome = true from rfl, if_neg (by simp), show (some i : Option Ins).getD Ins.zero = i from rfl, ins_kind, asI_ok, ins_kind, asI_ok, scK_or]
    by_cases hk : i.kind = 2 ∨ i.kind = 4
    · have hpc := l.setR_pc i.reg v
      obtain ⟨r0, r1⟩ := hgi.reg (hk.imp id .inl)
      rw [if_pos (by rw [Bool.or_eq_true, beq_iff_eq, beq_iff_eq]; exact hk), ins_reg, asI_ok, if_pos ⟨r0, r1⟩, if_pos (by rw [Lcl.len]; omega), lcl_set r0 r1, lcl_pc, asI_ok, if_pos (by rw [Lcl.len]; omega), lcl_setpc, if_pos ⟨rfl, p.len⟩, if_pos ⟨rfl, rfl⟩, hpc, g_wrap_i64 (x := l.pc + 1) (by omega) (by omega), refnormal_R hE.c123 p hqq hfit (hg.2 _ hm) _ (by dsimp only; omega), c1_ok, asA_ok, if_pos ⟨rfl, rfl, rfl⟩, if_pos ⟨rfl, rfl⟩]
      dsimp only
      rw [if_pos hk]
    · rw [if_neg (by rw [Bool.or_eq_true, beq_iff_eq, beq_iff_eq]; exact hk), lcl_pc, asI_ok, if_pos (by rw [Lcl.len]; omega), lcl_setpc, if_pos ⟨rfl, p.len⟩, if_pos ⟨rfl, rfl⟩, g_wrap_i64 (x := l.pc + 1) (by omega) (by omega), refnormal_R hE.c123 p hqq hfit (hg.2 _ hm) _ (by dsimp only; omega), c1_ok, asA_ok, if_pos ⟨rfl, rfl, rfl⟩, if_pos ⟨rfl, rfl⟩]
      dsimp only
      rw [if_neg hk]

end
end Jq

namespace Jq
open Go


end Jq

/- Events: what an instruction does; a thread unfolded. -/
namespace Jq
open Go

structure Evt where
  t : Int
  i : Int
  kind : Int
  loc : Int
  r : Int
  w : Int
  deriving DecidableEq

def Evt.cs (e : Evt) : List Cell := [.int .i64 e.t, .int .i64 e.i, .int .i64 e.kind, .int .i64 e.loc, .int .i64 e.r, .int .i64 e.w]
def evsC (l : List Evt) : List Cell := l.flatMap Evt.cs
theorem Evt.len (e : Evt) : e.cs.length = 6 := rfl
/-- The event of an instruction that reads v. -/
def evOf (i : Ins) (l : Lcl) (v : Int) : Evt :=
  if i.kind = 1 then ⟨0, 0, 2, i.loc, 0, opV i.a l⟩
  else if i.kind = 2 then ⟨0, 0, 1, i.loc, v, 0⟩
  else if i.kind = 4 then (if opV i.a l = v then ⟨0, 0, 4, i.loc, v, opV i.b l⟩ else ⟨0, 0, 5, i.loc, v, 0⟩)
  else ⟨0, 0, 3, 0, 0, 0⟩

def rdI (i : Ins) : Bool := decide (i.kind = 2 ∨ i.kind = 4)

/-- A thread unfolded: its events, where it is, and whether it would read more. -/
def unf (code : List Ins) (t : Int) : Nat → Lcl → List Int → List Evt → List Evt × Lcl × Bool
  | 0, l, _, out => (out, l, false)
  | k + 1, l, rs, out => match nextI code l with
    | none => (out, l, false)
    | some i =>
      if rdI i = true then match rs with
        | [] => (out, l, true)
        | v :: rs => unf code t k (afterL code l v) rs (out ++ [{ evOf i l v with t := t, i := out.length }])
      else unf code t k (afterL code l 0) rs (out ++ [{ evOf i l 0 with t := t, i := out.length }])

theorem nrm_pc {code : List Ins} : ∀ (k : Nat) (l : Lcl), l.pc ≤ (nrm code k l).pc
  | 0, l => by rw [nrm]; omega
  | k + 1, l => by
    rw [nrm]
    cases hs : stepI code l with
    | none => show l.pc ≤ l.pc; omega
    | some l' =>
      have h1 := stepI_pc hs
      have h2 := nrm_pc (code := code) k l'
      show l.pc ≤ (nrm code k l').pc
      omega

theorem afterL_pc {code : List Ins} {l : Lcl} {i : Ins} (h : nextI code l = some i) (v : Int) : l.pc + 1 ≤ (afterL code l v).pc := by
  unfold afterL
  rw [h]
  exact nrm_pc _ _

theorem evOf_novalue {i : Ins} (h : rdI i = false) (l : Lcl) (v w : Int) : evOf i l v = evOf i l w := by
  unfold rdI at h
  rw [decide_eq_false_iff_not] at h
  unfold evOf
  split
  · rfl
  · rw [if_neg (by omega), if_neg (by omega), if_neg (by omega), if_neg (by omega)]
theorem afterL_novalue {code : List Ins} {l : Lcl} {i : Ins} (hn : nextI code l = some i) (h : rdI i = false) (v w : Int) : afterL code l v = afterL code l w := by
  unfold rdI at h
  rw [decide_eq_false_iff_not] at h
  unfold afterL
  rw [hn]
  dsimp only
  rw [if_neg h, if_neg h]

section
variable {E : Env}

theorem evOf_ref (hE : jacquardref6_Event_In E) (i : Ins) (l : Lcl) (v : Int) (h : AHeap) : R E 111 [.agg i.cs, .agg l.cs, .c (.int .i64 v)] h = some ([.agg (evOf i l v).cs], h) := by
  refine R_intro hE.fn ?_
  have n3 : (3 + 2 ≤ i.cs.length) := by rw [Ins.len]; omega
  have n6 : (6 + 2 ≤ i.cs.length) := by rw [Ins.len]; omega
  unfold evOf
  rw [jacquardref6_Event_eq, ins_kind, asI_ok]
  by_cases k1 : i.kind = 1
  · rw [if_pos (by rw [k1]; rfl), if_pos k1, ins_loc, asI_ok, if_pos n3, if_pos ⟨rfl, rfl⟩, ins_a, refValue_R hE.c92, qh_ok, c1_ok, asI_ok, if_pos ⟨rfl, rfl, rfl⟩, if_pos ⟨rfl, rfl⟩]
    rfl
  · rw [if_neg (by rw [beq_iff_eq]; exact k1), if_neg k1]
    by_cases k2 : i.kind = 2
    · rw [if_pos (by rw [k2]; rfl), if_pos k2, ins_loc, asI_ok, if_pos ⟨rfl, rfl, rfl⟩, if_pos ⟨rfl, rfl⟩]
      rfl
    · rw [if_neg (by rw [beq_iff_eq]; exact k2), if_neg k2]
      by_cases k4 : i.kind = 4
      · rw [if_pos (by rw [k4]; rfl), if_pos k4, if_pos n3, if_pos ⟨rfl, rfl⟩, ins_a, refValue_R hE.c92, c1_ok, asI_ok]
        by_cases hv : opV i.a l = v
        · rw [if_pos (by rw [hv]; exact beq_self_eq_true _), if_pos hv, ins_loc, asI_ok, if_pos n6, if_pos ⟨rfl, rfl⟩, ins_b, refValue_R hE.c92, qh_ok, c1_ok, asI_ok, if_pos ⟨rfl, rfl, rfl⟩, if_pos ⟨rfl, rfl⟩]
          rfl
        · rw [if_neg (by rw [beq_iff_eq]; exact fun e => hv e.symm), if_neg hv, ins_loc, asI_ok, if_pos ⟨rfl, rfl, rfl⟩, if_pos ⟨rfl, rfl⟩]
          rfl
      · rw [if_neg (by rw [beq_iff_eq]; exact k4), if_neg k4, if_pos ⟨rfl, rfl, rfl⟩, if_pos ⟨rfl, rfl⟩]
        rfl

/-- A row that can be cut, whatever is made behind it. -/
def SlOkE (h : AHeap) (esz : Nat) (x : Cell) : Prop := ∀ k N off len, x = .sl k N off len → ∀ h', Kp h.length h h' → okSl h' esz k N = true

theorem SlOk.e {h : AHeap} {x : Cell} (s : SlOk h x) (esz : Nat) : SlOkE h esz x := fun k N off len e h' hk => s k N off len e h' hk esz

theorem SlOkE.mono {h h' : AHeap} {esz : Nat} {x : Cell} (s : SlOkE h esz x) (hk : Kp h.length h h') : SlOkE h' esz x :=
  fun k N off len e h2 hk2 => s k N off len e h2 (hk.trans (hk2.mono hk.1))

/-- No thread is long. -/
def PProg.small (P : PProg) : Prop := P.thr.length ≤ 1000 ∧ ∀ code ∈ P.thr, code.length ≤ 1000
theorem PProg.small.fits {P : PProg} (h : P.small) : P.fits := ⟨by have := h.1; omega, fun c hc => by have := h.2 c hc; omega⟩
theorem PProg.small.code {P : PProg} (h : P.small) (t : Int) : (P.code t).length ≤ 1000 := by
  unfold PProg.code
  split
  · rw [List.getD_eq_getElem?_getD]
    cases hq : P.thr[t.toNat]? with
    | none => show (0 : Nat) ≤ _; omega
    | some c => exact h.2 c (List.mem_of_getElem? hq)
  · show (0 : Nat) ≤ _; omega

end
end Jq

namespace Jq
open Go


end Jq

/- What a function needs of an environment. -/
namespace Jq
open Go


end Jq

namespace Jq
open Go


end Jq

namespace Jq
open Go


end Jq

/- Events: those at the beginning; their order; whether two rows are the same; laws of them. -/
namespace Jq
open Go

def initsE (l : List Int) : List Evt := (List.range l.length).map fun (i : Nat) => ⟨-1, i, 2, i, 0, l.getD i 0⟩

theorem getDI {l : List Int} {i : Nat} (hi : i < l.length) : l[i]? = some (l.getD i 0) := by
  rw [List.getD_eq_getElem?_getD, List.getElem?_eq_getElem hi]; rfl

theorem takeI_succ {α : Type} {l : List α} {i : Nat} {p : α} (h : l[i]? = some p) : l.take (i + 1) = l.take i ++ [p] := by
  rw [List.take_add_one, h]; rfl

def shEv : Sh := .agg (Sh.rep (.i .i64) 6)
section
variable {E : Env}

theorem ProgAt.initG {h : AHeap} {cs : List Cell} {P : PProg} (p : ProgAt h cs P) : ∃ b, SlAt h b 1 (intC .i64 P.init) P.init.length ∧ Low h.length b ∧ ∀ {α : Type} (f : Cell → Option α), atK cs 1 f = f b := by
  obtain ⟨a, b, c, ts, rfl, _, ⟨hb, hbl⟩, _⟩ := p
  exact ⟨b, hb, hbl, fun _ => rfl⟩
def evRd (e : Evt) : Bool := e.kind == 1 || e.kind == 4 || e.kind == 5
def evWr (e : Evt) : Bool := e.kind == 2 || e.kind == 4
def evFn (e : Evt) : Bool := e.kind == 3 || e.kind == 4 || e.kind == 5

/-- Is one ahead of another by their threads? -/
def poB (a b : Evt) : Bool := (decide (a.t < 0) && decide (b.t ≥ 0)) || (decide (a.t ≥ 0) && a.t == b.t && decide (a.i < b.i))
def poL (l : List Evt) (a b : Nat) : Bool := poB (l.getD a ⟨0, 0, 0, 0, 0, 0⟩) (l.getD b ⟨0, 0, 0, 0, 0, 0⟩)

end
end Jq

/- Tests in memory; their locations; made ready as the document says. -/
namespace Jq
open Go

structure Atm where
  thread : Int
  reg : Int
  loc : Int
  value : Int
def Atm.cs (a : Atm) : List Cell := [.int .i64 a.thread, .int .i64 a.reg, .int .i64 a.loc, .int .i64 a.value]
def atmC (l : List Atm) : List Cell := l.flatMap Atm.cs
theorem Atm.len (a : Atm) : a.cs.length = 4 := rfl
theorem atmC_at : ∀ (l : List Atm) (i : Nat) (s : Atm), l[i]? = some s → ((atmC l).drop (i * 4)).take 4 = s.cs
  | [], _, _, h => by simp at h
  | q :: l, 0, s, h => by simp at h; subst h; rfl
  | q :: l, i + 1, s, h => by
    have := atmC_at l i s (by simpa using h)
    have e : atmC (q :: l) = q.cs ++ atmC l := rfl
    rw [e, List.drop_append, List.drop_of_length_le (by rw [Atm.len]; omega), List.nil_append, show (i + 1) * 4 - q.cs.length = i * 4 by rw [Atm.len]; omega]
    exact this
theorem atmC_cell {l : List Atm} {i j : Nat} {s : Atm} {c : Cell} (h : l[i]? = some s) (hj : j < 4) (hc : s.cs[j]? = some c) : (atmC l)[i * 4 + j]? = some c := by
  rw [← hc, ← atmC_at l i s h, List.getElem?_take, if_pos hj, List.getElem?_drop]
theorem codeC_cell {l : List Ins} {i j : Nat} {s : Ins} {c : Cell} (h : l[i]? = some s) (hj : j < 9) (hc : s.cs[j]? = some c) : (codeC l)[i * 9 + j]? = some c := by
  rw [← hc, ← codeC_at l i s h, List.getElem?_take, if_pos hj, List.getElem?_drop]

structure PTest where
  name : ByteArray
  inits : List (Int × Int)
  thr : List (List Ins)
  ck : Int
  any : List (List Atm)

/-- Rows that lie there. -/
def RowsOf {α : Type} (esz : Nat) (C : List α → List Cell) (h : AHeap) (x : Cell) (rows : List (List α)) : Prop :=
  ∃ ts, SlAt h x 1 ts rows.length ∧ Low h.length x ∧ ∀ (t : Nat) (r : List α), rows[t]? = some r → ∃ y : Cell, ts[t]? = some y ∧ SlAt h y esz (C r) r.length ∧ Low h.length y

theorem RowsOf.keep {α : Type} {esz : Nat} {C : List α → List Cell} {h h' : AHeap} {x : Cell} {rows : List (List α)} (r : RowsOf esz C h x rows) (hk : Kp h.length h h') : RowsOf esz C h' x rows := by
  obtain ⟨ts, h1, h2, h3⟩ := r
  exact ⟨ts, h1.keep h2 hk, Low_mono hk.1 h2, fun t r hr => by
    obtain ⟨y, y1, y2, y3⟩ := h3 t r hr
    exact ⟨y, y1, y2.keep y3 hk, Low_mono hk.1 y3⟩⟩

theorem RowsOf.get {α β : Type} {esz : Nat} {C : List α → List Cell} {h : AHeap} {x : Cell} {rows : List (List α)} (r : RowsOf esz C h x rows) {t : Nat} {row : List α} (ht : rows[t]? = some row) :
    ∃ y, SlAt h y esz (C row) row.length ∧ Low h.length y ∧ ∀ (f : Cell → Option β), (idxSK 1 x (t : Int) fun k N o => rdH h k N fun l => atK l o f) = f y := by
  obtain ⟨ts, h1, h2, h3⟩ := r
  obtain ⟨y, y1, y2, y3⟩ := h3 t row ht
  exact ⟨y, y2, y3, fun f => h1.get1 (getI_lt ht) y1⟩

theorem RowsOf.len {α β : Type} {esz : Nat} {C : List α → List Cell} {h : AHeap} {x : Cell} {rows : List (List α)} (r : RowsOf esz C h x rows) {f : Int → Option β} : lenK x f = f rows.length := by
  obtain ⟨ts, h1, _⟩ := r; exact h1.len

/-- A test lies there. -/
def TestAt (h : AHeap) (cs : List Cell) (T : PTest) : Prop :=
  ∃ a b c, cs = [.str T.name, a, b, .int .i64 T.ck, c] ∧ (SlAt h a 2 (pairC T.inits) T.inits.length ∧ Low h.length a) ∧ RowsOf 9 codeC h b T.thr ∧ RowsOf 4 atmC h c T.any

theorem TestAt.keep {h h' : AHeap} {cs : List Cell} {T : PTest} (p : TestAt h cs T) (hk : Kp h.length h h') : TestAt h' cs T := by
  obtain ⟨a, b, c, e, ⟨a1, a2⟩, hb, hc⟩ := p
  exact ⟨a, b, c, e, ⟨a1.keep a2 hk, Low_mono hk.1 a2⟩, hb.keep hk, hc.keep hk⟩

theorem TestAt.len {h : AHeap} {cs : List Cell} {T : PTest} (p : TestAt h cs T) : cs.length = 5 := by
  obtain ⟨a, b, c, rfl, _⟩ := p; rfl

/-- Nothing of a test is long. -/
structure PTest.small (T : PTest) : Prop where
  inits : T.inits.length ≤ 1000
  thr : T.thr.length ≤ 1000
  code : ∀ c ∈ T.thr, c.length ≤ 1000
  any : T.any.length ≤ 1000
  row : ∀ c ∈ T.any, c.length ≤ 1000

/-- Is a letter named? -/
def thereT (T : PTest) (b : Nat) : Bool := (T.inits.any fun p => p.1 % 256 == (b : Int)) || (T.thr.any fun c => c.any fun i => i.loc % 256 == (b : Int)) || (T.any.any fun c => c.any fun a => a.loc % 256 == (b : Int))

/-- The locations, in order. -/
def locsF (S : Nat → Bool) (n : Nat) : List Int := ((List.range n).filter fun c => S (97 + c)).map fun (c : Nat) => ((97 + c : Nat) : Int)
def locsT (T : PTest) : List Int := locsF (thereT T) 26

theorem locsF_succ (S : Nat → Bool) (n : Nat) : locsF S (n + 1) = if S (97 + n) = true then locsF S n ++ [((97 + n : Nat) : Int)] else locsF S n := by
  unfold locsF
  rw [List.range_succ, List.filter_append, List.filter_cons, List.filter_nil]
  split <;> simp

theorem locsF_len (S : Nat → Bool) : ∀ n, (locsF S n).length ≤ n
  | 0 => by simp [locsF]
  | n + 1 => by
    have := locsF_len S n
    rw [locsF_succ]; split
    · rw [List.length_append, List.length_singleton]; omega
    · omega

theorem locsF_mem {S : Nat → Bool} {n : Nat} {x : Int} : x ∈ locsF S n ↔ ∃ c, c < n ∧ S (97 + c) = true ∧ x = ((97 + c : Nat) : Int) := by
  unfold locsF
  rw [List.mem_map]
  constructor
  · rintro ⟨c, hc, rfl⟩
    rw [List.mem_filter] at hc
    exact ⟨c, by simpa using hc.1, hc.2, rfl⟩
  · rintro ⟨c, h1, h2, rfl⟩
    exact ⟨c, by rw [List.mem_filter]; exact ⟨by simpa using h1, h2⟩, rfl⟩

theorem boolL_congr {s t : Nat → Bool} {n : Nat} (h : ∀ i, i < n → s i = t i) : boolL s n = boolL t n := List.map_congr_left fun i hi => by rw [h i (by simpa using hi)]

theorem mark_next {S S' : Nat → Bool} {v : Int} (h : ∀ b : Nat, b < 256 → S' b = (S b || (v % 256 == (b : Int)))) :
    (boolL S 256).set (0 + (v % 256).toNat * 1) (.bool true) = boolL S' 256 := by
  rw [show 0 + (v % 256).toNat * 1 = (v % 256).toNat by omega, boolL_set]
  refine boolL_congr fun i hi => ?_
  rw [h i hi]
  by_cases e : i = (v % 256).toNat
  · rw [if_pos e, show (v % 256 == (i : Int)) = true by rw [beq_iff_eq]; omega, Bool.or_true]
  · rw [if_neg e, show (v % 256 == (i : Int)) = false by rw [beq_eq_false_iff_ne]; omega, Bool.or_false]

theorem any_take_succ {α : Type} {l : List α} {i : Nat} {p : α} (h : l[i]? = some p) (f : α → Bool) : (l.take (i + 1)).any f = ((l.take i).any f || f p) := by
  rw [takeI_succ h, List.any_append]; simp

section
variable {E : Env}

theorem refLocs_R (hE : jacquardref2_Locs_In E) {cs : List Cell} {T : PTest} {h : AHeap} (p : TestAt h cs T) (hs : T.small) :
    ∃ y h', R E 121 [.agg cs] h = some ([.c y], h') ∧ Own h.length h' y 1 (intC .u8 (locsT T)) (locsT T).length ∧ Kp h.length h h' := by
  obtain ⟨a, b, c, rfl, ⟨ha, hal⟩, hb, hc⟩ := p
  have a1 : ∀ {α : Type} (f : Cell → Option α), atK [.str T.name, a, b, .int .i64 T.ck, c] 1 f = f a := fun _ => rfl
  have a2 : ∀ {α : Type} (f : Cell → Option α), atK [.str T.name, a, b, .int .i64 T.ck, c] 2 f = f b := fun _ => rfl
  have a4 : ∀ {α : Type} (f : Cell → Option α), atK [.str T.name, a, b, .int .i64 T.ck, c] 4 f = f c := fun _ => rfl
  have w : ∀ v : Int, 0 ≤ v % 256 ∧ v % 256 < ((256 : Nat) : Int) := fun v => by omega
  have w2 : ∀ (v : Int) (S : Nat → Bool), 0 + Int.toNat (v % 256) * 1 < (boolL S 256).length := fun v S => by rw [boolL_len]; omega
  have loop1 : Lim (jacquardref2_Locs_F1 (R E) Lim E.glob) (jacquardref2_Locs_s1 ((0 : Nat) : Int) [.str T.name, a, b, .int .i64 T.ck, c] (boolL (fun q => (T.inits.take 0).any fun p => p.1 % 256 == (q : Int)) 256) h) = some (.exit 0, jacquardref2_Locs_x1_1 [.str T.name, a, b, .int .i64 T.ck, c] (boolL (fun q => (T.inits.take T.inits.length).any fun p => p.1 % 256 == (q : Int)) 256) h) := by
    refine Lim_count (fun i => jacquardref2_Locs_s1 (i : Int) [.str T.name, a, b, .int .i64 T.ck, c] (boolL (fun q => (T.inits.take i).any fun p => p.1 % 256 == (q : Int)) 256) h) 0 T.inits.length (by omega) (fun i _ hi => ?_) (Lim_exit ?_)
    · have hq : T.inits[i]? = some T.inits[i] := List.getElem?_eq_getElem hi
      generalize T.inits[i] = q at hq
      have := hs.inits
      rw [jacquardref2_Locs_r1, a1, ha.len, if_pos (by simp; omega), a1, ha.get hi (by omega) (pairC_get _ _ _ hq).1, asI_ok, g_band255, if_pos (w _), if_pos (w2 _ _), g_succ (by omega), mark_next (S' := fun r => (T.inits.take (i + 1)).any fun p => p.1 % 256 == (r : Int)) (fun r _ => any_take_succ hq _)]
    · rw [jacquardref2_Locs_r1, a1, ha.len, if_neg (by simp)]
  rw [List.take_length] at loop1
  generalize hS1 : (fun q : Nat => T.inits.any fun p => p.1 % 256 == (q : Int)) = S1 at loop1
  have loop2 : ∀ (t : Nat) (code : List Ins) (S : Nat → Bool), T.thr[t]? = some code → Lim (jacquardref2_Locs_F2 (R E) Lim E.glob) (jacquardref2_Locs_s2 (t : Int) ((0 : Nat) : Int) [.str T.name, a, b, .int .i64 T.ck, c] (boolL (fun q => S q || (code.take 0).any fun i => i.loc % 256 == (q : Int)) 256) h) = some (.exit 4, jacquardref2_Locs_x2_5 (t : Int) [.str T.name, a, b, .int .i64 T.ck, c] (boolL (fun q => S q || (code.take code.length).any fun i => i.loc % 256 == (q : Int)) 256) h) := by
    intro t code S ht
    obtain ⟨y, y1, y2, y3⟩ := hb.get (β := Ex × St) ht
    refine Lim_count (fun i => jacquardref2_Locs_s2 (t : Int) (i : Int) [.str T.name, a, b, .int .i64 T.ck, c] (boolL (fun q => S q || (code.take i).any fun i => i.loc % 256 == (q : Int)) 256) h) 0 code.length (by omega) (fun i _ hi => ?_) (Lim_exit ?_)
    · have hq : code[i]? = some code[i] := List.getElem?_eq_getElem hi
      generalize code[i] = q at hq
      have := hs.code code (List.mem_of_getElem? ht)
      rw [jacquardref2_Locs_r2, a2, y3, y1.len, if_pos (by simp; omega), a2, y3, y1.get hi (by omega) (codeC_cell hq (by omega) (c := .int .i64 q.loc) rfl), asI_ok, g_band255, if_pos (w _), if_pos (w2 _ _), g_succ (by omega), mark_next (S' := fun r => S r || (code.take (i + 1)).any fun i => i.loc % 256 == (r : Int)) (fun r _ => by rw [any_take_succ hq, Bool.or_assoc])]
    · rw [jacquardref2_Locs_r2, a2, y3, y1.len, if_neg (by simp)]
  have loop3 : Lim (jacquardref2_Locs_F3 (R E) Lim E.glob) (jacquardref2_Locs_s3 ((0 : Nat) : Int) [.str T.name, a, b, .int .i64 T.ck, c] (boolL (fun q => S1 q || (T.thr.take 0).any fun c => c.any fun i => i.loc % 256 == (q : Int)) 256) h) = some (.exit 2, jacquardref2_Locs_x3_3 [.str T.name, a, b, .int .i64 T.ck, c] (boolL (fun q => S1 q || (T.thr.take T.thr.length).any fun c => c.any fun i => i.loc % 256 == (q : Int)) 256) h) := by
    refine Lim_count (fun t => jacquardref2_Locs_s3 (t : Int) [.str T.name, a, b, .int .i64 T.ck, c] (boolL (fun q => S1 q || (T.thr.take t).any fun c => c.any fun i => i.loc % 256 == (q : Int)) 256) h) 0 T.thr.length (by omega) (fun t _ ht => ?_) (Lim_exit ?_)
    · have hq : T.thr[t]? = some T.thr[t] := List.getElem?_eq_getElem ht
      generalize T.thr[t] = code at hq
      have := hs.thr
      have l2 := loop2 t code (fun q => S1 q || (T.thr.take t).any fun c => c.any fun i => i.loc % 256 == (q : Int)) hq
      rw [List.take_length, show ((0 : Nat) : Int) = 0 from rfl] at l2
      have e0 : boolL (fun q => (S1 q || (T.thr.take t).any fun c => c.any fun i => i.loc % 256 == (q : Int)) || (code.take 0).any fun i => i.loc % 256 == (q : Int)) 256 = boolL (fun q => S1 q || (T.thr.take t).any fun c => c.any fun i => i.loc % 256 == (q : Int)) 256 := boolL_congr fun q _ => by simp
      rw [e0] at l2
      rw [jacquardref2_Locs_r3, a2, hb.len, if_pos (by simp; omega), l2, bind_ok, jacquardref2_Locs_e2_5, g_succ (by omega)]
      congr 3
      exact boolL_congr fun q _ => by rw [any_take_succ hq, Bool.or_assoc]
    · rw [jacquardref2_Locs_r3, a2, hb.len, if_neg (by simp)]
  rw [List.take_length] at loop3
  have e3 : boolL (fun q => S1 q || (T.thr.take 0).any fun c => c.any fun i => i.loc % 256 == (q : Int)) 256 = boolL S1 256 := boolL_congr fun q _ => by simp
  rw [e3, show ((0 : Nat) : Int) = 0 from rfl] at loop3
  generalize hS2 : (fun q : Nat => S1 q || T.thr.any fun c => c.any fun i => i.loc % 256 == (q : Int)) = S2 at loop3
  have loop4 : ∀ (t : Nat) (row : List Atm) (S : Nat → Bool), T.any[t]? = some row → Lim (jacquardref2_Locs_F4 (R E) Lim E.glob) (jacquardref2_Locs_s4 (t : Int) ((0 : Nat) : Int) [.str T.name, a, b, .int .i64 T.ck, c] (boolL (fun q => S q || (row.take 0).any fun i => i.loc % 256 == (q : Int)) 256) h) = some (.exit 8, jacquardref2_Locs_x4_9 (t : Int) [.str T.name, a, b, .int .i64 T.ck, c] (boolL (fun q => S q || (row.take row.length).any fun i => i.loc % 256 == (q : Int)) 256) h) := by
    intro t row S ht
    obtain ⟨y, y1, y2, y3⟩ := hc.get (β := Ex × St) ht
    refine Lim_count (fun i => jacquardref2_Locs_s4 (t : Int) (i : Int) [.str T.name, a, b, .int .i64 T.ck, c] (boolL (fun q => S q || (row.take i).any fun i => i.loc % 256 == (q : Int)) 256) h) 0 row.length (by omega) (fun i _ hi => ?_) (Lim_exit ?_)
    · have hq : row[i]? = some row[i] := List.getElem?_eq_getElem hi
      generalize row[i] = q at hq
      have := hs.row row (List.mem_of_getElem? ht)
      rw [jacquardref2_Locs_r4, a4, y3, y1.len, if_pos (by simp; omega), a4, y3, y1.get hi (by omega) (atmC_cell hq (by omega) (c := .int .i64 q.loc) rfl), asI_ok, g_band255, if_pos (w _), if_pos (w2 _ _), g_succ (by omega), mark_next (S' := fun r => S r || (row.take (i + 1)).any fun i => i.loc % 256 == (r : Int)) (fun r _ => by rw [any_take_succ hq, Bool.or_assoc])]
    · rw [jacquardref2_Locs_r4, a4, y3, y1.len, if_neg (by simp)]
  have loop5 : Lim (jacquardref2_Locs_F5 (R E) Lim E.glob) (jacquardref2_Locs_s5 ((0 : Nat) : Int) [.str T.name, a, b, .int .i64 T.ck, c] (boolL (fun q => S2 q || (T.any.take 0).any fun c => c.any fun i => i.loc % 256 == (q : Int)) 256) h) = some (.exit 6, jacquardref2_Locs_x5_7 (boolL (fun q => S2 q || (T.any.take T.any.length).any fun c => c.any fun i => i.loc % 256 == (q : Int)) 256) h) := by
    refine Lim_count (fun t => jacquardref2_Locs_s5 (t : Int) [.str T.name, a, b, .int .i64 T.ck, c] (boolL (fun q => S2 q || (T.any.take t).any fun c => c.any fun i => i.loc % 256 == (q : Int)) 256) h) 0 T.any.length (by omega) (fun t _ ht => ?_) (Lim_exit ?_)
    · have hq : T.any[t]? = some T.any[t] := List.getElem?_eq_getElem ht
      generalize T.any[t] = row at hq
      have := hs.any
      have l2 := loop4 t row (fun q => S2 q || (T.any.take t).any fun c => c.any fun i => i.loc % 256 == (q : Int)) hq
      rw [List.take_length, show ((0 : Nat) : Int) = 0 from rfl] at l2
      have e0 : boolL (fun q => (S2 q || (T.any.take t).any fun c => c.any fun i => i.loc % 256 == (q : Int)) || (row.take 0).any fun i => i.loc % 256 == (q : Int)) 256 = boolL (fun q => S2 q || (T.any.take t).any fun c => c.any fun i => i.loc % 256 == (q : Int)) 256 := boolL_congr fun q _ => by simp
      rw [e0] at l2
      rw [jacquardref2_Locs_r5, a4, hc.len, if_pos (by simp; omega), l2, bind_ok, jacquardref2_Locs_e4_9, g_succ (by omega)]
      congr 3
      exact boolL_congr fun q _ => by rw [any_take_succ hq, Bool.or_assoc]
    · rw [jacquardref2_Locs_r5, a4, hc.len, if_neg (by simp)]
  rw [List.take_length] at loop5
  have e5 : boolL (fun q => S2 q || (T.any.take 0).any fun c => c.any fun i => i.loc % 256 == (q : Int)) 256 = boolL S2 256 := boolL_congr fun q _ => by simp
  rw [e5, show ((0 : Nat) : Int) = 0 from rfl] at loop5
  have hS3 : (fun q : Nat => S2 q || T.any.any fun c => c.any fun i => i.loc % 256 == (q : Int)) = thereT T := by
    funext q; rw [← hS2, ← hS1]; rfl
  rw [hS3] at loop5
  have hm : maxBytes ≥ 100 := by unfold maxBytes; omega
  obtain ⟨st, ⟨y, h1, rfl, hy, hk⟩, hL⟩ := Lim_inv (F := jacquardref2_Locs_F6 (R E) Lim E.glob) (fun i st => ∃ y h1, st = jacquardref2_Locs_s6 y ((97 + i : Nat) : Int) (boolL (thereT T) 256) h1 ∧ Own h.length h1 y 1 (intC .u8 (locsF (thereT T) i)) (locsF (thereT T) i).length ∧ Kp h.length h h1) 0 26 (by omega)
    (fun i st _ hi => by
      rintro ⟨y, h1, rfl, hy, hk⟩
      have hlen := locsF_len (thereT T) i
      have hw : E.glob.wrap .i32 (((97 + i : Nat) : Int) + 1) = ((97 + (i + 1) : Nat) : Int) := by
        show IntKind.wrap .i32 _ = _
        simp only [IntKind.wrap, IntKind.signed, IntKind.bits, Bool.true_and]
        split
        · rename_i hh; have hh := of_decide_eq_true hh; omega
        · omega
      have hw8 : E.glob.wrap .u8 ((97 + i : Nat) : Int) = ((97 + i : Nat) : Int) := by
        show IntKind.wrap .u8 _ = _
        simp only [IntKind.wrap, IntKind.signed, IntKind.bits, Bool.false_and, Bool.false_eq_true, if_false]; omega
      have hrd : jacquardref2_Locs_F6 (R E) Lim E.glob (jacquardref2_Locs_s6 y ((97 + i : Nat) : Int) (boolL (thereT T) 256) h1) = if thereT T (97 + i) = true then appK 1 1 y [.int .u8 ((97 + i : Nat) : Int)] h1 fun x h' => some (.normal, jacquardref2_Locs_s6 x ((97 + (i + 1) : Nat) : Int) (boolL (thereT T) 256) h') else some (.normal, jacquardref2_Locs_s6 y ((97 + (i + 1) : Nat) : Int) (boolL (thereT T) 256) h1) := by
        rw [jacquardref2_Locs_r6, if_pos (by simp; omega), if_pos ⟨by omega, by omega⟩, show 0 + Int.toNat ((97 + i : Nat) : Int) * 1 = 97 + i by omega, atK_ok (boolL_get (show 97 + i < 256 by omega)), asB_ok, hw, hw8]
        rfl
      rw [hrd]
      by_cases ht : thereT T (97 + i) = true
      · obtain ⟨y2, h2, hap, hy2, hk2, _⟩ := hy.app (bytes := 1) (xs := [.int .u8 ((97 + i : Nat) : Int)]) hk.1 rfl (by omega) (by omega) (by omega)
        refine ⟨_, by rw [if_pos ht, hap], y2, h2, rfl, ?_, hk.trans hk2⟩
        rw [locsF_succ, if_pos ht, intC_snoc, List.length_append, List.length_singleton]; exact hy2
      · refine ⟨_, by rw [if_neg ht], y, h1, rfl, ?_, hk⟩
        rw [locsF_succ, if_neg ht]; exact hy) (st := jacquardref2_Locs_s6 .nils ((97 + 0 : Nat) : Int) (boolL (thereT T) 256) h) ⟨.nils, h, rfl, Own.nil _ _ _, Kp.refl _ _⟩
  have hfin : jacquardref2_Locs_F6 (R E) Lim E.glob (jacquardref2_Locs_s6 y ((97 + 26 : Nat) : Int) (boolL (thereT T) 256) h1) = some (.exit 10, jacquardref2_Locs_x6_11 y h1) := by
    rw [jacquardref2_Locs_r6, if_neg (by simp)]
  have hr := hL _ (Lim_exit hfin)
  refine ⟨y, h1, R_intro hE.fn ?_, hy, hk⟩
  have e1 : boolL (fun q => (T.inits.take 0).any fun p => p.1 % 256 == (q : Int)) 256 = List.replicate 256 (Cell.bool false) := by rw [boolL_false]; exact boolL_congr fun q _ => by simp
  rw [e1, show ((0 : Nat) : Int) = 0 from rfl] at loop1
  rw [jacquardref2_Locs_eq, loop1, bind_ok, jacquardref2_Locs_e1_1, loop3, bind_ok, jacquardref2_Locs_e3_3, loop5, bind_ok, jacquardref2_Locs_e5_7, show (97 : Int) = ((97 + 0 : Nat) : Int) from rfl, hr, bind_ok, jacquardref2_Locs_e6_11]

end
end Jq

/- A test made ready as the document says. -/
namespace Jq
open Go

theorem Own.keepK {n : Nat} {h h' : AHeap} {x : Cell} {esz len : Nat} {cs : List Cell} (o : Own n h x esz cs len) (hk : Kp h.length h h') : Own n h' x esz cs len := by
  refine ⟨o.1, o.2.imp id ?_⟩
  rintro ⟨k, e, hn, hb⟩
  exact ⟨k, e, hn, by rw [hk.blk (blk_lt' hb)]; exact hb⟩
theorem Own.monoN {n m : Nat} (hm : m ≤ n) {h : AHeap} {x : Cell} {esz len : Nat} {cs : List Cell} (o : Own n h x esz cs len) : Own m h x esz cs len :=
  ⟨o.1, o.2.imp id fun ⟨k, e, hn, hb⟩ => ⟨k, e, by omega, hb⟩⟩
theorem Own.blkLt {n : Nat} {h : AHeap} {x : Cell} {esz len : Nat} {cs : List Cell} (o : Own n h x esz cs len) {k : Nat} (hk : isBlk x k) : k < h.length ∧ n ≤ k := by
  rcases o.2 with ⟨rfl, _⟩ | ⟨j, rfl, hn, hb⟩
  · cases hk
  · have : j = k := hk
    subst this; exact ⟨blk_lt' hb, hn⟩

/-- Rows of the call's own, each in a block of its own. -/
def RowsOwn {α : Type} (esz : Nat) (C : List α → List Cell) (n : Nat) (h : AHeap) (y : Cell) (rows : List (List α)) : Prop :=
  ∃ ts, Own n h y 1 ts rows.length ∧ ∀ (t : Nat) (r : List α), rows[t]? = some r → ∃ x : Cell, ts[t]? = some x ∧ Own n h x esz (C r) r.length ∧ ∀ k, isBlk x k → ¬ isBlk y k

section rows
variable {α : Type} {esz : Nat} {C : List α → List Cell} {n : Nat}

theorem RowsOwn.nil (h : AHeap) : RowsOwn esz C n h .nils ([] : List (List α)) := ⟨[], Own.nil _ _ _, fun t r hr => by simp at hr⟩

theorem RowsOwn.keep {h h' : AHeap} {y : Cell} {rows : List (List α)} (r : RowsOwn esz C n h y rows) (hk : Kp h.length h h') : RowsOwn esz C n h' y rows := by
  obtain ⟨ts, h1, h2⟩ := r
  exact ⟨ts, h1.keepK hk, fun t r hr => by obtain ⟨x, x1, x2, x3⟩ := h2 t r hr; exact ⟨x, x1, x2.keepK hk, x3⟩⟩

theorem RowsOwn.blkLt {h : AHeap} {y : Cell} {rows : List (List α)} (r : RowsOwn esz C n h y rows) {k : Nat} (hk : isBlk y k) : k < h.length ∧ n ≤ k := by
  obtain ⟨ts, h1, _⟩ := r; exact h1.blkLt hk

theorem RowsOwn.of {h : AHeap} {y : Cell} {rows : List (List α)} (r : RowsOwn esz C n h y rows) : RowsOf esz C h y rows := by
  obtain ⟨ts, h1, h2⟩ := r
  exact ⟨ts, h1.at, h1.low, fun t r hr => by obtain ⟨x, x1, x2, _⟩ := h2 t r hr; exact ⟨x, x1, x2.at, x2.low⟩⟩

theorem RowsOwn.push {h : AHeap} {y x : Cell} {rows : List (List α)} {r : List α} (w : RowsOwn esz C n h y rows) (hx : Own n h x esz (C r) r.length) (hd : ∀ k, isBlk x k → ¬ isBlk y k) (hn : n ≤ h.length) (hl : rows.length ≤ 2000) :
    ∃ y' h', (∀ {β : Type} (f : Cell → AHeap → Option β), appK 1 24 y [x] h f = f y' h') ∧ RowsOwn esz C n h' y' (rows ++ [r]) ∧ Kp n h h' ∧ ∀ j b, blk? h j = some b → ¬ isBlk y j → blk? h' j = some b ∧ ¬ isBlk y' j := by
  have hm : maxBytes ≥ 2001 * 24 := by unfold maxBytes; omega
  obtain ⟨ts, h1, h2⟩ := w
  obtain ⟨y', h', ha, ho, hk, hf⟩ := h1.app (bytes := 24) (xs := [x]) hn rfl (by omega) (by omega) (by omega)
  have mv : ∀ {z : Cell} {cs : List Cell} {len : Nat}, Own n h z esz cs len → (∀ k, isBlk z k → ¬ isBlk y k) → Own n h' z esz cs len ∧ ∀ k, isBlk z k → ¬ isBlk y' k := by
    intro z cs len oz dz
    rcases oz.2 with e | ⟨k, e, hnk, hb⟩
    · refine ⟨⟨oz.1, .inl e⟩, fun k hk => ?_⟩
      rw [e.1] at hk; cases hk
    · have hik : isBlk z k := by rw [e]; rfl
      obtain ⟨b1, b2⟩ := hf k _ hb (dz k hik)
      refine ⟨⟨oz.1, .inr ⟨k, e, hnk, b1⟩⟩, fun j hj => ?_⟩
      rw [e] at hj
      have : k = j := hj
      subst this; exact b2
  refine ⟨y', h', ha, ⟨ts ++ [x], by rw [List.length_append, List.length_singleton]; exact ho, fun t r' hr => ?_⟩, hk, hf⟩
  have hts : ts.length = rows.length := by have := h1.1; omega
  by_cases ht : t < rows.length
  · rw [List.getElem?_append_left ht] at hr
    obtain ⟨z, z1, z2, z3⟩ := h2 t r' hr
    obtain ⟨w1, w2⟩ := mv z2 z3
    exact ⟨z, by rw [List.getElem?_append_left (by omega)]; exact z1, w1, w2⟩
  · rw [List.getElem?_append_right (by omega)] at hr
    have h0 : t - rows.length = 0 := by
      rcases Nat.eq_zero_or_pos (t - rows.length) with e | e
      · exact e
      · rw [List.getElem?_eq_none (by simp; omega)] at hr; cases hr
    rw [h0] at hr
    obtain rfl : r = r' := by simpa using hr
    obtain ⟨w1, w2⟩ := mv hx hd
    exact ⟨x, by rw [List.getElem?_append_right (by omega), show t - ts.length = 0 by omega]; rfl, w1, w2⟩
end rows

/-- Where a letter stands. -/
def plc : List Int → Int → Nat → Int
  | [], _, _ => -1
  | c :: t, x, i => if c = x then i else plc t x (i + 1)

def initV (l : List (Int × Int)) (c : Int) : Int := l.foldl (fun v p => if p.1 = c then p.2 else v) 0
def compI (locs : List Int) (i : Ins) : Ins := if i.loc ≠ 0 then { i with loc := plc locs i.loc 0 } else i
def compT (T : PTest) : PProg := ⟨locsT T, (locsT T).map (initV T.inits), T.thr.map fun c => c.map (compI (locsT T))⟩

theorem locsT_u8 {T : PTest} {x : Int} (h : x ∈ locsT T) : 97 ≤ x ∧ x ≤ 122 := by
  obtain ⟨c, h1, _, rfl⟩ := locsF_mem.1 h
  omega

section
variable {E : Env}

theorem Place_R (hE : jacquardref6_Place_In E) {a b c : Cell} {locs : List Int} {h : AHeap} (ha : SlAt h a 1 (intC .u8 locs) locs.length) (hu : ∀ x ∈ locs, 97 ≤ x ∧ x ≤ 122) (hl : locs.length ≤ 100) (x : Int) :
    R E 122 [.agg [a, b, c], .c (.int .i64 x)] h = some ([.c (.int .i64 (plc locs x 0))], h) := by
  refine R_intro hE.fn ?_
  have a0 : ∀ {α : Type} (f : Cell → Option α), atK [a, b, c] 0 f = f a := fun _ => rfl
  have key : ∀ (t : List Int) (i : Nat), locs.drop i = t → (Lim (jacquardref6_Place_F1 (R E) Lim E.glob) (jacquardref6_Place_s1 x (i : Int) [a, b, c] h)).bind (fun p => jacquardref6_Place_k3 (R E) Lim E.glob h p.1 p.2) = some ([.c (.int .i64 (plc t x i))], h) := by
    intro t
    induction t with
    | nil =>
      intro i hd
      have hi : locs.length ≤ i := by
        have := congrArg List.length hd
        simp at this; omega
      have hr : jacquardref6_Place_F1 (R E) Lim E.glob (jacquardref6_Place_s1 x (i : Int) [a, b, c] h) = some (.exit 0, jacquardref6_Place_x1_1 h) := by
        rw [jacquardref6_Place_r1, a0, ha.len, if_neg (by simp; omega)]
      rw [Lim_exit hr, bind_ok, jacquardref6_Place_e1_1]; rfl
    | cons v t ih =>
      intro i hd
      have hi : i < locs.length := by
        have := congrArg List.length hd
        simp at this; omega
      have hv : locs[i]? = some v := by
        have := congrArg (fun z => z[0]?) hd
        simpa [List.getElem?_drop] using this
      have hd2 : locs.drop (i + 1) = t := by
        have := congrArg (List.drop 1) hd
        simpa [List.drop_drop] using this
      have huv := hu v (List.mem_of_getElem? hv)
      have hr : jacquardref6_Place_F1 (R E) Lim E.glob (jacquardref6_Place_s1 x (i : Int) [a, b, c] h) = if (v == x) = true then some (.ret, jacquardref6_Place_x1_0 i h) else some (.normal, jacquardref6_Place_s1 x ((i + 1 : Nat) : Int) [a, b, c] h) := by
        rw [jacquardref6_Place_r1, a0, ha.len, if_pos (by simp; omega), a0, ha.get1 hi (intC_get hv), asI_ok, g_wrap_i64 (by omega) (by omega), g_succ (by omega)]
      rw [plc]
      by_cases hvx : v = x
      · rw [if_pos (by rw [hvx]; exact beq_self_eq_true _)] at hr
        rw [Lim_ret hr, bind_ok, jacquardref6_Place_e1_0, if_pos hvx]
      · rw [if_neg (by rw [beq_iff_eq]; exact hvx)] at hr
        rw [if_neg hvx]
        have := ih (i + 1) hd2
        cases hL : Lim (jacquardref6_Place_F1 (R E) Lim E.glob) (jacquardref6_Place_s1 x ((i + 1 : Nat) : Int) [a, b, c] h) with
        | none => rw [hL] at this; cases this
        | some p => rw [Lim_next hr hL]; rw [hL] at this; exact this
  rw [jacquardref6_Place_eq]
  exact key locs 0 rfl

theorem ins_setloc {i : Ins} {v : Int} : i.cs.set 2 (.int .i64 v) = ({ i with loc := v } : Ins).cs := rfl
theorem ins_splice {i : Ins} : splice (List.replicate 9 (Cell.int .i64 0)) 0 i.cs = i.cs := rfl
theorem ins_len19 (i : Ins) : i.cs.length = 1 * 9 := rfl

theorem initV_snoc (l : List (Int × Int)) (p : Int × Int) (c : Int) : initV (l ++ [p]) c = if p.1 = c then p.2 else initV l c := by
  unfold initV; rw [List.foldl_append]; rfl

/-- A program whose row of threads is the call's own. -/
def ProgOwn (n : Nat) (h : AHeap) (cs : List Cell) (P : PProg) : Prop :=
  ∃ (m : Nat) (a b y : Cell), cs = [a, b, y] ∧ n ≤ m ∧ m ≤ h.length ∧ (SlAt h a 1 (intC .u8 P.locs) P.locs.length ∧ Low m a) ∧ (SlAt h b 1 (intC .i64 P.init) P.init.length ∧ Low m b) ∧ RowsOwn 9 codeC m h y P.thr

theorem refCompile_S (hE : jacquardref6_Compile_In E) {cs : List Cell} {T : PTest} {h : AHeap} (p : TestAt h cs T) (hs : T.small) :
    ∃ cs' h', R E 101 [.agg cs] h = some ([.agg cs'], h') ∧ ProgOwn h.length h' cs' (compT T) ∧ Kp h.length h h' := by
  obtain ⟨a, h1, hr1, ha, hk1⟩ := refLocs_R hE.c121 p hs
  have hll : (locsT T).length ≤ 26 := locsF_len _ _
  have hu := fun x (hx : x ∈ locsT T) => locsT_u8 hx
  have p1 := p.keep hk1
  have hlen := p.len
  obtain ⟨ta, tb, tc, hcs, ⟨hta, htal⟩, htb, htc⟩ := p1
  have t1 : ∀ {α : Type} (f : Cell → Option α), atK cs 1 f = f ta := fun f => by rw [hcs]; rfl
  have t2 : ∀ {α : Type} (f : Cell → Option α), atK cs 2 f = f tb := fun f => by rw [hcs]; rfl
  have hat := ha.at
  have hal := ha.low
  have hm : maxBytes ≥ 2000 * 72 := by unfold maxBytes; omega
  have pu : ∀ (x y z : Cell), ([x, y, z] : List Cell).length = 3 := fun _ _ _ => rfl
  -- what locations begin with
  have inner1 : ∀ (i : Nat) (b : Cell) (h2 : AHeap) (v : Int) (z : List Cell), (locsT T)[i]? = some v → Kp h1.length h1 h2 →
      Lim (jacquardref6_Compile_F1 (R E) Lim E.glob) (jacquardref6_Compile_s1 (i : Int) 0 ((0 : Nat) : Int) cs z [a, b, .nils] h2) = some (.exit 2, jacquardref6_Compile_x1_3 (i : Int) (initV T.inits v) cs z [a, b, .nils] h2) := by
    intro i b h2 v z hv hk
    have h0 : (0 : Int) = initV (T.inits.take 0) v := rfl
    have he : initV T.inits v = initV (T.inits.take T.inits.length) v := by rw [List.take_length]
    rw [he]
    rw [show jacquardref6_Compile_s1 (i : Int) 0 ((0 : Nat) : Int) cs z [a, b, .nils] h2 = jacquardref6_Compile_s1 (i : Int) (initV (T.inits.take 0) v) ((0 : Nat) : Int) cs z [a, b, .nils] h2 from rfl]
    have huv := hu v (List.mem_of_getElem? hv)
    refine Lim_count (fun k => jacquardref6_Compile_s1 (i : Int) (initV (T.inits.take k) v) (k : Int) cs z [a, b, .nils] h2) 0 T.inits.length (by omega) (fun k _ hkk => ?_) (Lim_exit ?_)
    · have hq : T.inits[k]? = some T.inits[k] := List.getElem?_eq_getElem hkk
      generalize T.inits[k] = q at hq
      have := hs.inits
      have hta2 := hta.keep htal hk
      rw [jacquardref6_Compile_r1, t1, hta2.len, if_pos (by simp; omega), t1, hta2.get hkk (by omega) (pairC_get _ _ _ hq).1, asI_ok, show ∀ {α : Type} (f : Cell → Option α), atK [a, b, Cell.nils] 0 f = f a from fun _ => rfl, (hat.keep hal hk).get1 (getI_lt hv) (intC_get hv), asI_ok, g_wrap_i64 (by omega) (by omega), takeI_succ hq, initV_snoc]
      by_cases hqv : q.1 = v
      · rw [if_pos (by rw [hqv]; exact beq_self_eq_true _), if_pos hqv, t1, hta2.get hkk (by omega) (pairC_get _ _ _ hq).2, asI_ok, g_succ (by omega)]
      · rw [if_neg (by rw [beq_iff_eq]; exact hqv), if_neg hqv, g_succ (by omega)]
    · have hta2 := hta.keep htal hk
      rw [jacquardref6_Compile_r1, t1, hta2.len, if_neg (by simp)]
  obtain ⟨st, ⟨b, h2, rfl, hb, hk2⟩, hL2⟩ := Lim_inv (F := jacquardref6_Compile_F2 (R E) Lim E.glob) (fun i st => ∃ b h2, st = jacquardref6_Compile_s2 (i : Int) cs [Cell.nils, Cell.nils, Cell.nils] [a, b, .nils] h2 ∧ Own h1.length h2 b 1 (intC .i64 (((locsT T).map (initV T.inits)).take i)) i ∧ Kp h1.length h1 h2) 0 (locsT T).length (by omega)
    (fun i st _ hi => by
      rintro ⟨b, h2, rfl, hb, hk⟩
      have hv : (locsT T)[i]? = some (locsT T)[i] := List.getElem?_eq_getElem hi
      generalize (locsT T)[i] = v at hv
      have hin := inner1 i b h2 v [Cell.nils, Cell.nils, Cell.nils] hv hk
      rw [show ((0 : Nat) : Int) = 0 from rfl] at hin
      obtain ⟨b2, h3, hap, hb2, hk3, _⟩ := hb.app (bytes := 8) (xs := [.int .i64 (initV T.inits v)]) hk.1 rfl (by omega) (by omega) (by omega)
      refine ⟨_, ?_, b2, h3, rfl, ?_, hk.trans hk3⟩
      · rw [jacquardref6_Compile_r2, show ∀ {α : Type} (f : Cell → Option α), atK [a, b, Cell.nils] 0 f = f a from fun _ => rfl, hat.len, if_pos (by simp; omega), hin, bind_ok, jacquardref6_Compile_e1_3, show ∀ {α : Type} (f : Cell → Option α), atK [a, b, Cell.nils] 1 f = f b from fun _ => rfl, if_pos (show (splice [Cell.int .i64 0] 0 ([(.int .i64 (initV T.inits v))] : List Cell)).length = 1 * 1 from rfl), show splice [Cell.int .i64 0] 0 ([(.int .i64 (initV T.inits v))] : List Cell) = [.int .i64 (initV T.inits v)] from rfl, hap, if_pos (show 1 < ([a, b, Cell.nils] : List Cell).length by simp), g_succ (by omega)]
        rfl
      · rw [takeI_succ (p := initV T.inits v) (by rw [List.getElem?_map, hv]; rfl), intC_snoc]; exact hb2) (st := jacquardref6_Compile_s2 ((0 : Nat) : Int) cs [Cell.nils, Cell.nils, Cell.nils] [a, .nils, .nils] h1) ⟨.nils, h1, rfl, Own.nil _ _ _, Kp.refl _ _⟩
  have hfin2 : jacquardref6_Compile_F2 (R E) Lim E.glob (jacquardref6_Compile_s2 ((locsT T).length : Int) cs [Cell.nils, Cell.nils, Cell.nils] [a, b, .nils] h2) = some (.exit 0, jacquardref6_Compile_x2_1 cs [Cell.nils, Cell.nils, Cell.nils] [a, b, .nils] h2) := by
    rw [jacquardref6_Compile_r2, show ∀ {α : Type} (f : Cell → Option α), atK [a, b, Cell.nils] 0 f = f a from fun _ => rfl, hat.len, if_neg (by simp)]
  have hr2 := hL2 _ (Lim_exit hfin2)
  rw [List.take_of_length_le (by rw [List.length_map]; exact Nat.le_refl _)] at hb
  have htb2 := htb.keep hk2
  have hat2 := hat.keep hal hk2
  have hal2 : Low h2.length a := Low_mono hk2.1 hal
  have hbt := hb.at
  have hbl := hb.low
  -- the threads
  have inner2 : ∀ (t : Nat) (code : List Ins) (y : Cell) (h3 : AHeap), T.thr[t]? = some code → Kp h2.length h2 h3 →
      ∃ x h4, Lim (jacquardref6_Compile_F3 (R E) Lim E.glob) (jacquardref6_Compile_s3 (t : Int) .nils ((0 : Nat) : Int) cs [Cell.nils, Cell.nils, Cell.nils] [a, b, y] h3) = some (.exit 6, jacquardref6_Compile_x3_7 (t : Int) x cs [Cell.nils, Cell.nils, Cell.nils] [a, b, y] h4) ∧ Own h3.length h4 x 9 (codeC (code.map (compI (locsT T)))) code.length ∧ Kp h3.length h3 h4 := by
    intro t code y h3 ht hk3
    obtain ⟨cx, c1x, c2x, c3x⟩ := (htb2.keep hk3).get (β := Ex × St) ht
    have hcl := hs.code code (List.mem_of_getElem? ht)
    obtain ⟨st, ⟨x, h4, rfl, hx, hk4⟩, hL⟩ := Lim_inv (F := jacquardref6_Compile_F3 (R E) Lim E.glob) (fun i st => ∃ x h4, st = jacquardref6_Compile_s3 (t : Int) x (i : Int) cs [Cell.nils, Cell.nils, Cell.nils] [a, b, y] h4 ∧ Own h3.length h4 x 9 (codeC ((code.map (compI (locsT T))).take i)) i ∧ Kp h3.length h3 h4) 0 code.length (by omega)
      (fun i st _ hi => by
        rintro ⟨x, h4, rfl, hx, hk4⟩
        obtain ⟨cx', c1x', c2x', c3x'⟩ := ((htb2.keep hk3).keep hk4).get (β := Ex × St) ht
        have hq : code[i]? = some code[i] := List.getElem?_eq_getElem hi
        generalize code[i] = q at hq
        obtain ⟨off, cs', hG, hle, hcc⟩ := c1x'.insG hq
        have hsn : (code.map (compI (locsT T)))[i]? = some (compI (locsT T) q) := by rw [List.getElem?_map, hq]; rfl
        obtain ⟨x2, h5, hap, hx2, hk5, _⟩ := hx.app (bytes := 72) (xs := (compI (locsT T) q).cs) hk4.1 rfl (by omega) (by omega) (by omega)
        refine ⟨_, ?_, x2, h5, rfl, ?_, hk4.trans hk5⟩
        · rw [jacquardref6_Compile_r3, t2, c3x', c1x'.len, if_pos (by simp; omega), t2, c3x', hG, if_pos hle, hcc, if_pos ⟨rfl, rfl, rfl⟩, ins_loc, asI_ok]
          unfold compI at hap
          by_cases hz : q.loc ≠ 0
          · have hpl := Place_R hE.c122 (b := b) (c := y) ((hat2.keep hal2 hk3).keep (Low_mono hk3.1 hal2) hk4) hu (by omega) q.loc
            rw [if_pos hz] at hap
            rw [if_pos (by rw [bne_iff_ne]; exact hz), if_pos ⟨rfl, pu _ _ _⟩, ins_loc, asI_ok, hpl, c1_ok, asI_ok, if_pos (by rw [Ins.len]; omega), ins_setloc, if_pos ⟨rfl, rfl⟩, if_pos ⟨rfl, by simp⟩, ins_splice, if_pos (ins_len19 _), hap, g_succ (by omega)]
          · rw [if_neg hz] at hap
            rw [if_neg (by rw [bne_iff_ne]; exact hz), if_pos ⟨rfl, rfl⟩, if_pos ⟨rfl, by simp⟩, ins_splice, if_pos (ins_len19 _), hap, g_succ (by omega)]
        · rw [takeI_succ hsn, codeC_snoc]; exact hx2) (st := jacquardref6_Compile_s3 (t : Int) .nils ((0 : Nat) : Int) cs [Cell.nils, Cell.nils, Cell.nils] [a, b, y] h3) ⟨.nils, h3, rfl, Own.nil _ _ _, Kp.refl _ _⟩
    have hfin : jacquardref6_Compile_F3 (R E) Lim E.glob (jacquardref6_Compile_s3 (t : Int) x (code.length : Int) cs [Cell.nils, Cell.nils, Cell.nils] [a, b, y] h4) = some (.exit 6, jacquardref6_Compile_x3_7 (t : Int) x cs [Cell.nils, Cell.nils, Cell.nils] [a, b, y] h4) := by
      obtain ⟨cx', c1x', c2x', c3x'⟩ := ((htb2.keep hk3).keep hk4).get (β := Ex × St) ht
      rw [jacquardref6_Compile_r3, t2, c3x', c1x'.len, if_neg (by simp)]
    rw [List.take_of_length_le (by rw [List.length_map]; exact Nat.le_refl _)] at hx
    exact ⟨x, h4, hL _ (Lim_exit hfin), hx, hk4⟩
  have hthl := hs.thr
  obtain ⟨st, ⟨y, h3, rfl, hy, hk3⟩, hL4⟩ := Lim_inv (F := jacquardref6_Compile_F4 (R E) Lim E.glob) (fun t st => ∃ y h3, st = jacquardref6_Compile_s4 (t : Int) cs [Cell.nils, Cell.nils, Cell.nils] [a, b, y] h3 ∧ RowsOwn 9 codeC h2.length h3 y ((T.thr.map fun c => c.map (compI (locsT T))).take t) ∧ Kp h2.length h2 h3) 0 T.thr.length (by omega)
    (fun t st _ ht => by
      rintro ⟨y, h3, rfl, hy, hk3⟩
      have hq : T.thr[t]? = some T.thr[t] := List.getElem?_eq_getElem ht
      generalize T.thr[t] = code at hq
      obtain ⟨x, h4, hin, hx, hk4⟩ := inner2 t code y h3 hq hk3
      rw [show ((0 : Nat) : Int) = 0 from rfl] at hin
      have hsn : (T.thr.map fun c => c.map (compI (locsT T)))[t]? = some (code.map (compI (locsT T))) := by rw [List.getElem?_map, hq]; rfl
      have hxl : code.length = (code.map (compI (locsT T))).length := by simp
      rw [hxl] at hx
      obtain ⟨y2, h5, hap, hy2, hk5, _⟩ := (hy.keep hk4).push (hx.monoN hk3.1) (fun k h1 h2 => by have := (hx.blkLt h1).2; have := (hy.blkLt h2).1; omega) (Nat.le_trans hk3.1 hk4.1) (by rw [List.length_take]; omega)
      refine ⟨_, ?_, y2, h5, rfl, ?_, hk3.trans ((hk4.mono hk3.1).trans hk5)⟩
      · rw [jacquardref6_Compile_r4, t2, htb2.len, if_pos (by simp; omega), hin, bind_ok, jacquardref6_Compile_e3_7, show ∀ {α : Type} (f : Cell → Option α), atK [a, b, y] 2 f = f y from fun _ => rfl, if_pos (show (splice [Cell.nils] 0 ([x] : List Cell)).length = 1 * 1 from rfl), show splice [Cell.nils] 0 ([x] : List Cell) = [x] from rfl, hap, if_pos (show 2 < ([a, b, y] : List Cell).length by simp), g_succ (by omega)]
        rfl
      · rw [takeI_succ hsn]; exact hy2) (st := jacquardref6_Compile_s4 ((0 : Nat) : Int) cs [Cell.nils, Cell.nils, Cell.nils] [a, b, .nils] h2) ⟨.nils, h2, rfl, by rw [List.take_zero]; exact RowsOwn.nil _, Kp.refl _ _⟩
  have hfin4 : jacquardref6_Compile_F4 (R E) Lim E.glob (jacquardref6_Compile_s4 (T.thr.length : Int) cs [Cell.nils, Cell.nils, Cell.nils] [a, b, y] h3) = some (.exit 4, jacquardref6_Compile_x4_5 [Cell.nils, Cell.nils, Cell.nils] [a, b, y] h3) := by
    rw [jacquardref6_Compile_r4, t2, htb2.len, if_neg (by simp)]
  have hr4 := hL4 _ (Lim_exit hfin4)
  rw [List.take_of_length_le (by rw [List.length_map]; exact Nat.le_refl _)] at hy
  refine ⟨[a, b, y], h3, R_intro hE.fn ?_, ⟨h2.length, a, b, y, rfl, Nat.le_trans hk1.1 hk2.1, hk3.1, ⟨hat2.keep hal2 hk3, hal2⟩, ⟨?_, hbl⟩, hy⟩, hk1.trans ((hk2.mono hk1.1).trans (hk3.mono (Nat.le_trans hk1.1 hk2.1)))⟩
  · rw [jacquardref6_Compile_eq, if_pos ⟨rfl, hlen⟩, hr1, c1_ok, asC_ok, show splice [Cell.nils, Cell.nils, Cell.nils] 0 ([a] : List Cell) = [a, .nils, .nils] from rfl, if_pos ⟨rfl, rfl, rfl⟩, show (0 : Int) = ((0 : Nat) : Int) from rfl, hr2, bind_ok, jacquardref6_Compile_e2_1, show (0 : Int) = ((0 : Nat) : Int) from rfl, hr4, bind_ok, jacquardref6_Compile_e4_5, if_pos ⟨rfl, rfl⟩, if_pos ⟨rfl, rfl, rfl⟩, if_pos ⟨rfl, rfl⟩]
  · have := hbt.keep hbl hk3
    have e : (compT T).init.length = (locsT T).length := by simp [compT]
    rw [e]; exact this

theorem ProgOwn.at {n : Nat} {h : AHeap} {cs : List Cell} {P : PProg} (p : ProgOwn n h cs P) : ProgAt h cs P := by
  obtain ⟨m, a, b, y, rfl, h1, h2, ⟨a1, a2⟩, ⟨b1, b2⟩, hy⟩ := p
  obtain ⟨ts, y1, y2, y3⟩ := hy.of
  exact ⟨a, b, y, ts, rfl, ⟨a1, Low_mono h2 a2⟩, ⟨b1, Low_mono h2 b2⟩, ⟨y1, y2⟩, y3⟩

end
end Jq

/- Is there one in a row? (printed by tools/gen_any.py) -/
namespace Jq
open Go

def pairCs (p : Int × Int) : List Cell := [.int .i64 p.1, .int .i64 p.2]
section
variable {E : Env}

end
end Jq

namespace Jq
open Go


end Jq

/- Is a test one that could be in a tree? -/
namespace Jq
open Go

def locB (n : Int) : Bool := decide (n ≥ 97) && decide (n ≤ 122)
def regB (n : Int) : Bool := decide (n ≥ 0) && decide (n < 4)
def opB (o : Opd) : Bool := o.reg == -1 || (regB o.reg && o.val == 0)
def fldB (has : Int → Bool) (i : Ins) : Bool :=
  if i.kind = 1 then has i.loc && opB i.a && decide (i.cs = (⟨i.kind, 0, i.loc, i.a, 0, ⟨0, 0⟩, 0⟩ : Ins).cs)
  else if i.kind = 2 then has i.loc && regB i.reg && decide (i.cs = (⟨i.kind, i.reg, i.loc, ⟨0, 0⟩, 0, ⟨0, 0⟩, 0⟩ : Ins).cs)
  else if i.kind = 3 then decide (i.cs = (⟨i.kind, 0, 0, ⟨0, 0⟩, 0, ⟨0, 0⟩, 0⟩ : Ins).cs)
  else if i.kind = 4 then has i.loc && regB i.reg && opB i.a && opB i.b && decide (i.cs = (⟨i.kind, i.reg, i.loc, i.a, 0, i.b, 0⟩ : Ins).cs)
  else if i.kind = 5 then regB i.reg && opB i.a && opB i.b && decide (i.op ≥ 0) && decide (i.op ≤ 11) && (decide (i.op > 0) || decide (i.b.cs = (⟨-1, 0⟩ : Opd).cs)) && decide (i.cs = (⟨i.kind, i.reg, 0, i.a, i.op, i.b, 0⟩ : Ins).cs)
  else if i.kind = 6 then decide (i.n ≥ 0) && opB i.a && opB i.b && decide (i.cs = (⟨i.kind, 0, 0, i.a, 0, i.b, i.n⟩ : Ins).cs)
  else false

section
variable {E : Env}

/-- A function value that answers as said. -/
def Says (E : Env) (h : AHeap) (f : Cell) (has : Int → Bool) : Prop := ∀ (n : Int) {α : Type} (F : AV → AHeap → Option α), (fnK f fun g cs => c1 (R E g ([.c (.int .i64 n)] ++ cs) h) F) = F (.c (.bool (has n))) h

/-- Is a name a word? -/
def chrB (b : UInt8) (first : Bool) : Bool := !((decide ((b.toNat : Int) < 97) || decide ((b.toNat : Int) > 122)) && ((first || decide ((b.toNat : Int) < 48)) || decide ((b.toNat : Int) > 57)))
def wordB (s : ByteArray) : Bool := (List.range s.size).all (fun i => match s[i]? with | some b => chrB b (i == 0) | none => true) && !(s.toList == (ByteArray.mk #[]).toList)

def atmB (a : Atm) : Bool := if a.thread = -1 then (a.reg == 0 && locB a.loc) else decide (a.thread ≥ 0) && decide (a.thread ≤ 9) && (a.loc == 0) && regB a.reg

def rowBad (r : List Atm) : Bool := r.length == 0 || r.any fun a => !atmB a
def condB (ck : Int) (any : List (List Atm)) : Bool := if ck = 0 then any.length == 0 else (ck == 1 || ck == 2) && decide ((any.length : Int) > 0) && !(any.any rowBad)

/-- The rows that came in are not too long. -/
structure PTest.fits (T : PTest) : Prop where
  name : T.name.size < 9223372036854775807
  inits : T.inits.length < 9223372036854775807
  thr : T.thr.length < 9223372036854775807
  code : ∀ c ∈ T.thr, c.length < 9223372036854775807
  any : T.any.length < 9223372036854775807
  row : ∀ c ∈ T.any, c.length < 9223372036854775807

def okT (T : PTest) : Bool := wordB T.name && !(T.inits.any fun p => !locB p.1) && !(T.thr.any fun c => c.any fun i => !fldB locB i) && condB T.ck T.any

end
end Jq

namespace Jq
open Go


end Jq

/- Is a test small enough? -/
namespace Jq
open Go

/-- Is a letter named, as it stands? -/
def thereW (T : PTest) (b : Nat) : Bool := (T.inits.any fun p => p.1 == (b : Int)) || (T.thr.any fun c => c.any fun i => i.loc == (b : Int)) || (T.any.any fun c => c.any fun a => a.loc == (b : Int))

def LtAt (h0 h : AHeap) (S : Nat → Bool) : Prop :=
  Kp h0.length h0 h ∧ ∃ m : Nat, m < 2 ^ 26 ∧ (∀ i, i < 26 → m.testBit i = S (97 + i)) ∧ blk? h h0.length = some ⟨true, 0, [.int .u64 (m : Int)]⟩

theorem LtAt.congr {h0 h : AHeap} {S S' : Nat → Bool} (v : LtAt h0 h S) (hs : ∀ b, 97 ≤ b → b ≤ 122 → S' b = S b) : LtAt h0 h S' := by
  obtain ⟨k, m, m1, m2, m3⟩ := v
  exact ⟨k, m, m1, fun i hi => by rw [m2 i hi, hs (97 + i) (by omega) (by omega)], m3⟩

section
variable {E : Env}

end
end Jq

/- A test's locations; is it too big; do its skips lead to where they may; the check. -/
namespace Jq
open Go

def locsW (T : PTest) : List Int := locsF (thereW T) 26
def jmpB (l : List Ins) : Bool := (List.range l.length).all fun k => match l[k]? with | some i => !(i.kind == 6 && (decide (i.n < 1) || decide (i.n > (l.length : Int) - k - 1))) | none => true
def sumL (l : List (List Ins)) : Int := ((l.map List.length).sum : Nat)
def bigB (T : PTest) : Bool := (T.thr.any fun c => decide ((c.length : Int) > 10)) || ((((((T.thr.length : Int) == 0 || decide ((T.thr.length : Int) > 4) || decide (sumL T.thr > 24)) || decide (((locsW T).length : Int) > 4)) || decide ((T.any.length : Int) > 8)) || (T.any.any fun r => decide ((r.length : Int) > 8))) || decide ((T.name.size : Int) > 20))
def twB (l : List (Int × Int)) : Bool := (List.range l.length).any fun k => match l[k]? with | some p => (l.take k).any (fun q => q.1 == p.1) | none => false
def outB (n : Nat) (a : Atm) : Bool := (a.thread != -1) && decide (a.thread ≥ (n : Int))
def checkT (T : PTest) : Int := if (!okT T) = true then 1 else if bigB T = true then 8 else if twB T.inits = true then 9 else if (T.thr.any fun c => !jmpB c) = true then 10 else if (T.any.any fun r => r.any (outB T.thr.length)) = true then 10 else 0

theorem PTest.small.fits {T : PTest} (s : T.small) (hn : T.name.size < 9223372036854775807) : T.fits :=
  ⟨hn, by have := s.inits; omega, by have := s.thr; omega, fun c hc => by have := s.code c hc; omega, by have := s.any; omega, fun c hc => by have := s.row c hc; omega⟩

section
variable {E : Env}

end
end Jq

/- Is a test too big; is a location begun twice; the check. -/
namespace Jq
open Go

section
variable {E : Env}

end
end Jq

