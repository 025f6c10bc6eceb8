/- YtldfafaiappibaaProgEndsB: a part of the proof; no conditions of its own. -/
import Derived.KernelRfl
import Derived.Test.YtldfafaiappibaaProgEndsA
set_option linter.unusedVariables false
set_option linter.unusedSimpArgs false

namespace Jq
open Go

/- jacquard/jacquardref2.Locs: 121 -/
def jacquardref2_Locs_k2 (C : CallF) (L : LoopF) (G : Glo) (h0 : AHeap) : Ex → St → Option (List AV × AHeap) :=
  kSeq (fun st => jacquardref2_Locs_p1.exec C L G st (jacquardref2_Locs.fin G h0)) (jacquardref2_Locs.fin G h0)
def jacquardref2_Locs_k3 (C : CallF) (L : LoopF) (G : Glo) (h0 : AHeap) : Ex → St → Option (List AV × AHeap) :=
  kBlk 0 (jacquardref2_Locs_k2 C L G h0)
def jacquardref2_Locs_s1 (a4 : Int) (s0 : List Cell) (s1 : List Cell) (h : AHeap) : St := ⟨[.top, .loc 0 0, .top, .loc 1 0, .v (.c (.int .i64 a4)), .top, .top, .top, .top, .top, .top, .top, .top, .top, .top, .top, .top, .top, .top, .top, .top, .top, .top, .top, .top, .top, .top, .top, .top, .top, .top, .top, .top, .top, .top, .top, .top, .top, .top, .top, .top, .top, .top, .top, .top, .top, .top, .top, .top, .top, .top, .top, .top, .top, .top, .top, .top, .top, .top, .top, .top, .top, .top, .top, .top, .top, .top, .top, .top, .top, .top, .top, .top, .top, .top, .top, .top, .top, .top, .top, .top, .top, .top, .top, .top, .top, .top, .top, .top, .top, .top, .top, .top, .top, .top, .top, .top, .top], [some s0, some s1], h⟩
def jacquardref2_Locs_F1 (C : CallF) (L : LoopF) (G : Glo) : St → Option (Ex × St) :=
  roundF (fun st f => jacquardref2_Locs_b1.exec C L G st f) [1, 3, 4] [0, 1] [(1, [1, 3], [0, 1])]
def jacquardref2_Locs_x1_1 (s0 : List Cell) (s1 : List Cell) (h : AHeap) : St := ⟨[.top, .loc 0 0, .top, .loc 1 0, .top, .top, .top, .top, .top, .top, .top, .top, .top, .top, .top, .top, .top, .top, .top, .top, .top, .top, .top, .top, .top, .top, .top, .top, .top, .top, .top, .top, .top, .top, .top, .top, .top, .top, .top, .top, .top, .top, .top, .top, .top, .top, .top, .top, .top, .top, .top, .top, .top, .top, .top, .top, .top, .top, .top, .top, .top, .top, .top, .top, .top, .top, .top, .top, .top, .top, .top, .top, .top, .top, .top, .top, .top, .top, .top, .top, .top, .top, .top, .top, .top, .top, .top, .top, .top, .top, .top, .top, .top, .top, .top, .top, .top, .top], [some s0, some s1], h⟩
def jacquardref2_Locs_k4 (C : CallF) (L : LoopF) (G : Glo) (h0 : AHeap) : Ex → St → Option (List AV × AHeap) :=
  kSeq (fun st => jacquardref2_Locs_p2.exec C L G st (jacquardref2_Locs.fin G h0)) (jacquardref2_Locs.fin G h0)
def jacquardref2_Locs_k5 (C : CallF) (L : LoopF) (G : Glo) (h0 : AHeap) : Ex → St → Option (List AV × AHeap) :=
  kBlk 2 (jacquardref2_Locs_k4 C L G h0)
def jacquardref2_Locs_s3 (a5 : Int) (s0 : List Cell) (s1 : List Cell) (h : AHeap) : St := ⟨[.top, .loc 0 0, .top, .loc 1 0, .top, .v (.c (.int .i64 a5)), .top, .top, .top, .top, .top, .top, .top, .top, .top, .top, .top, .top, .top, .top, .top, .top, .top, .top, .top, .top, .top, .top, .top, .top, .top, .top, .top, .top, .top, .top, .top, .top, .top, .top, .top, .top, .top, .top, .top, .top, .top, .top, .top, .top, .top, .top, .top, .top, .top, .top, .top, .top, .top, .top, .top, .top, .top, .top, .top, .top, .top, .top, .top, .top, .top, .top, .top, .top, .top, .top, .top, .top, .top, .top, .top, .top, .top, .top, .top, .top, .top, .top, .top, .top, .top, .top, .top, .top, .top, .top, .top, .top], [some s0, some s1], h⟩
def jacquardref2_Locs_F3 (C : CallF) (L : LoopF) (G : Glo) : St → Option (Ex × St) :=
  roundF (fun st f => jacquardref2_Locs_b3.exec C L G st f) [1, 3, 5] [0, 1] [(3, [1, 3], [0, 1])]
def jacquardref2_Locs_k6 (C : CallF) (L : LoopF) (G : Glo) : Ex → St → Option (Ex × St) :=
  kSeq (fun st => jacquardref2_Locs_p3.exec C L G st (kLoop [1, 3, 5] [0, 1] [(3, [1, 3], [0, 1])])) (kLoop [1, 3, 5] [0, 1] [(3, [1, 3], [0, 1])])
def jacquardref2_Locs_k7 (C : CallF) (L : LoopF) (G : Glo) : Ex → St → Option (Ex × St) :=
  kBlk 3 (jacquardref2_Locs_k6 C L G)
def jacquardref2_Locs_k8 (C : CallF) (L : LoopF) (G : Glo) : Ex → St → Option (Ex × St) :=
  kBlk 4 (jacquardref2_Locs_k7 C L G)
def jacquardref2_Locs_s2 (a5 : Int) (a6 : Int) (s0 : List Cell) (s1 : List Cell) (h : AHeap) : St := ⟨[.top, .loc 0 0, .top, .loc 1 0, .top, .v (.c (.int .i64 a5)), .v (.c (.int .i64 a6)), .top, .top, .top, .top, .top, .top, .top, .top, .top, .top, .top, .top, .top, .top, .top, .top, .top, .top, .top, .top, .top, .top, .top, .top, .top, .top, .top, .top, .top, .top, .top, .top, .top, .top, .top, .top, .top, .top, .top, .top, .top, .top, .top, .top, .top, .top, .top, .top, .top, .top, .top, .top, .top, .top, .top, .top, .top, .top, .top, .top, .top, .top, .top, .top, .top, .top, .top, .top, .top, .top, .top, .top, .top, .top, .top, .top, .top, .top, .top, .top, .top, .top, .top, .top, .top, .top, .top, .top, .top, .top, .top], [some s0, some s1], h⟩
def jacquardref2_Locs_F2 (C : CallF) (L : LoopF) (G : Glo) : St → Option (Ex × St) :=
  roundF (fun st f => jacquardref2_Locs_b2.exec C L G st f) [1, 3, 5, 6] [0, 1] [(5, [1, 3, 5], [0, 1])]
def jacquardref2_Locs_x2_5 (a5 : Int) (s0 : List Cell) (s1 : List Cell) (h : AHeap) : St := ⟨[.top, .loc 0 0, .top, .loc 1 0, .top, .v (.c (.int .i64 a5)), .top, .top, .top, .top, .top, .top, .top, .top, .top, .top, .top, .top, .top, .top, .top, .top, .top, .top, .top, .top, .top, .top, .top, .top, .top, .top, .top, .top, .top, .top, .top, .top, .top, .top, .top, .top, .top, .top, .top, .top, .top, .top, .top, .top, .top, .top, .top, .top, .top, .top, .top, .top, .top, .top, .top, .top, .top, .top, .top, .top, .top, .top, .top, .top, .top, .top, .top, .top, .top, .top, .top, .top, .top, .top, .top, .top, .top, .top, .top, .top, .top, .top, .top, .top, .top, .top, .top, .top, .top, .top, .top, .top], [some s0, some s1], h⟩
def jacquardref2_Locs_x3_3 (s0 : List Cell) (s1 : List Cell) (h : AHeap) : St := ⟨[.top, .loc 0 0, .top, .loc 1 0, .top, .top, .top, .top, .top, .top, .top, .top, .top, .top, .top, .top, .top, .top, .top, .top, .top, .top, .top, .top, .top, .top, .top, .top, .top, .top, .top, .top, .top, .top, .top, .top, .top, .top, .top, .top, .top, .top, .top, .top, .top, .top, .top, .top, .top, .top, .top, .top, .top, .top, .top, .top, .top, .top, .top, .top, .top, .top, .top, .top, .top, .top, .top, .top, .top, .top, .top, .top, .top, .top, .top, .top, .top, .top, .top, .top, .top, .top, .top, .top, .top, .top, .top, .top, .top, .top, .top, .top, .top, .top, .top, .top, .top, .top], [some s0, some s1], h⟩
def jacquardref2_Locs_k9 (C : CallF) (L : LoopF) (G : Glo) (h0 : AHeap) : Ex → St → Option (List AV × AHeap) :=
  kSeq (fun st => jacquardref2_Locs_p4.exec C L G st (jacquardref2_Locs.fin G h0)) (jacquardref2_Locs.fin G h0)
def jacquardref2_Locs_k10 (C : CallF) (L : LoopF) (G : Glo) (h0 : AHeap) : Ex → St → Option (List AV × AHeap) :=
  kBlk 6 (jacquardref2_Locs_k9 C L G h0)
def jacquardref2_Locs_s5 (a7 : Int) (s0 : List Cell) (s1 : List Cell) (h : AHeap) : St := ⟨[.top, .loc 0 0, .top, .loc 1 0, .top, .top, .top, .v (.c (.int .i64 a7)), .top, .top, .top, .top, .top, .top, .top, .top, .top, .top, .top, .top, .top, .top, .top, .top, .top, .top, .top, .top, .top, .top, .top, .top, .top, .top, .top, .top, .top, .top, .top, .top, .top, .top, .top, .top, .top, .top, .top, .top, .top, .top, .top, .top, .top, .top, .top, .top, .top, .top, .top, .top, .top, .top, .top, .top, .top, .top, .top, .top, .top, .top, .top, .top, .top, .top, .top, .top, .top, .top, .top, .top, .top, .top, .top, .top, .top, .top, .top, .top, .top, .top, .top, .top, .top, .top, .top, .top, .top, .top], [some s0, some s1], h⟩
def jacquardref2_Locs_F5 (C : CallF) (L : LoopF) (G : Glo) : St → Option (Ex × St) :=
  roundF (fun st f => jacquardref2_Locs_b5.exec C L G st f) [1, 3, 7] [0, 1] [(7, [3], [1])]
def jacquardref2_Locs_k11 (C : CallF) (L : LoopF) (G : Glo) : Ex → St → Option (Ex × St) :=
  kSeq (fun st => jacquardref2_Locs_p5.exec C L G st (kLoop [1, 3, 7] [0, 1] [(7, [3], [1])])) (kLoop [1, 3, 7] [0, 1] [(7, [3], [1])])
def jacquardref2_Locs_k12 (C : CallF) (L : LoopF) (G : Glo) : Ex → St → Option (Ex × St) :=
  kBlk 7 (jacquardref2_Locs_k11 C L G)
def jacquardref2_Locs_k13 (C : CallF) (L : LoopF) (G : Glo) : Ex → St → Option (Ex × St) :=
  kBlk 8 (jacquardref2_Locs_k12 C L G)
def jacquardref2_Locs_s4 (a7 : Int) (a8 : Int) (s0 : List Cell) (s1 : List Cell) (h : AHeap) : St := ⟨[.top, .loc 0 0, .top, .loc 1 0, .top, .top, .top, .v (.c (.int .i64 a7)), .v (.c (.int .i64 a8)), .top, .top, .top, .top, .top, .top, .top, .top, .top, .top, .top, .top, .top, .top, .top, .top, .top, .top, .top, .top, .top, .top, .top, .top, .top, .top, .top, .top, .top, .top, .top, .top, .top, .top, .top, .top, .top, .top, .top, .top, .top, .top, .top, .top, .top, .top, .top, .top, .top, .top, .top, .top, .top, .top, .top, .top, .top, .top, .top, .top, .top, .top, .top, .top, .top, .top, .top, .top, .top, .top, .top, .top, .top, .top, .top, .top, .top, .top, .top, .top, .top, .top, .top, .top, .top, .top, .top, .top, .top], [some s0, some s1], h⟩
def jacquardref2_Locs_F4 (C : CallF) (L : LoopF) (G : Glo) : St → Option (Ex × St) :=
  roundF (fun st f => jacquardref2_Locs_b4.exec C L G st f) [1, 3, 7, 8] [0, 1] [(9, [1, 3, 7], [0, 1])]
def jacquardref2_Locs_x4_9 (a7 : Int) (s0 : List Cell) (s1 : List Cell) (h : AHeap) : St := ⟨[.top, .loc 0 0, .top, .loc 1 0, .top, .top, .top, .v (.c (.int .i64 a7)), .top, .top, .top, .top, .top, .top, .top, .top, .top, .top, .top, .top, .top, .top, .top, .top, .top, .top, .top, .top, .top, .top, .top, .top, .top, .top, .top, .top, .top, .top, .top, .top, .top, .top, .top, .top, .top, .top, .top, .top, .top, .top, .top, .top, .top, .top, .top, .top, .top, .top, .top, .top, .top, .top, .top, .top, .top, .top, .top, .top, .top, .top, .top, .top, .top, .top, .top, .top, .top, .top, .top, .top, .top, .top, .top, .top, .top, .top, .top, .top, .top, .top, .top, .top, .top, .top, .top, .top, .top, .top], [some s0, some s1], h⟩
def jacquardref2_Locs_x5_7 (s1 : List Cell) (h : AHeap) : St := ⟨[.top, .top, .top, .loc 1 0, .top, .top, .top, .top, .top, .top, .top, .top, .top, .top, .top, .top, .top, .top, .top, .top, .top, .top, .top, .top, .top, .top, .top, .top, .top, .top, .top, .top, .top, .top, .top, .top, .top, .top, .top, .top, .top, .top, .top, .top, .top, .top, .top, .top, .top, .top, .top, .top, .top, .top, .top, .top, .top, .top, .top, .top, .top, .top, .top, .top, .top, .top, .top, .top, .top, .top, .top, .top, .top, .top, .top, .top, .top, .top, .top, .top, .top, .top, .top, .top, .top, .top, .top, .top, .top, .top, .top, .top, .top, .top, .top, .top, .top, .top], [none, some s1], h⟩
def jacquardref2_Locs_k14 (C : CallF) (L : LoopF) (G : Glo) (h0 : AHeap) : Ex → St → Option (List AV × AHeap) :=
  kSeq (fun st => jacquardref2_Locs_p6.exec C L G st (jacquardref2_Locs.fin G h0)) (jacquardref2_Locs.fin G h0)
def jacquardref2_Locs_k15 (C : CallF) (L : LoopF) (G : Glo) (h0 : AHeap) : Ex → St → Option (List AV × AHeap) :=
  kBlk 10 (jacquardref2_Locs_k14 C L G h0)
def jacquardref2_Locs_s6 (x9 : Cell) (a10 : Int) (s1 : List Cell) (h : AHeap) : St := ⟨[.top, .top, .top, .loc 1 0, .top, .top, .top, .top, .top, .v (.c x9), .v (.c (.int .i32 a10)), .top, .top, .top, .top, .top, .top, .top, .top, .top, .top, .top, .top, .top, .top, .top, .top, .top, .top, .top, .top, .top, .top, .top, .top, .top, .top, .top, .top, .top, .top, .top, .top, .top, .top, .top, .top, .top, .top, .top, .top, .top, .top, .top, .top, .top, .top, .top, .top, .top, .top, .top, .top, .top, .top, .top, .top, .top, .top, .top, .top, .top, .top, .top, .top, .top, .top, .top, .top, .top, .top, .top, .top, .top, .top, .top, .top, .top, .top, .top, .top, .top, .top, .top, .top, .top, .top, .top], [none, some s1], h⟩
def jacquardref2_Locs_F6 (C : CallF) (L : LoopF) (G : Glo) : St → Option (Ex × St) :=
  roundF (fun st f => jacquardref2_Locs_b6.exec C L G st f) [3, 9, 10] [1] [(11, [9], [])]
def jacquardref2_Locs_x6_11 (x9 : Cell) (h : AHeap) : St := ⟨[.top, .top, .top, .top, .top, .top, .top, .top, .top, .v (.c x9), .top, .top, .top, .top, .top, .top, .top, .top, .top, .top, .top, .top, .top, .top, .top, .top, .top, .top, .top, .top, .top, .top, .top, .top, .top, .top, .top, .top, .top, .top, .top, .top, .top, .top, .top, .top, .top, .top, .top, .top, .top, .top, .top, .top, .top, .top, .top, .top, .top, .top, .top, .top, .top, .top, .top, .top, .top, .top, .top, .top, .top, .top, .top, .top, .top, .top, .top, .top, .top, .top, .top, .top, .top, .top, .top, .top, .top, .top, .top, .top, .top, .top, .top, .top, .top, .top, .top, .top], [none, none], h⟩
theorem jacquardref2_Locs_r1 (C : CallF) (L : LoopF) (G : Glo) (a4 : Int) (s0 : List Cell) (s1 : List Cell) (h : AHeap) :
    jacquardref2_Locs_F1 C L G (jacquardref2_Locs_s1 a4 s0 s1 h) =
    atK s0 1 fun q_1 => lenK q_1 fun n_2 => if (decide (a4 < n_2)) = true then atK s0 1 fun q_3 => idxSK 2 q_3 a4 fun k_4 N_5 o_6 => rdH h k_4 N_5 fun l_7 => atK l_7 (o_6 + 0) fun q_8 => asI .i64 (.c q_8) fun n_9 => if 0 ≤ (G.band .i64 n_9 255) ∧ (G.band .i64 n_9 255) < ((256 : Nat) : Int) then if (0 + ((Int.toNat (G.band .i64 n_9 255)) * 1)) < s1.length then some (.normal, (jacquardref2_Locs_s1 (G.wrap .i64 (a4 + 1)) s0 (s1.set (0 + ((Int.toNat (G.band .i64 n_9 255)) * 1)) (.bool true)) h)) else none else none else some ((.exit 0), (jacquardref2_Locs_x1_1 s0 s1 h)) := by kernel_rfl
theorem jacquardref2_Locs_r2 (C : CallF) (L : LoopF) (G : Glo) (a5 : Int) (a6 : Int) (s0 : List Cell) (s1 : List Cell) (h : AHeap) :
    jacquardref2_Locs_F2 C L G (jacquardref2_Locs_s2 a5 a6 s0 s1 h) =
    atK s0 2 fun q_12 => idxSK 1 q_12 a5 fun k_13 N_14 o_15 => rdH h k_13 N_14 fun l_16 => atK l_16 o_15 fun q_17 => lenK q_17 fun n_18 => if (decide (a6 < n_18)) = true then atK s0 2 fun q_19 => idxSK 1 q_19 a5 fun k_20 N_21 o_22 => rdH h k_20 N_21 fun l_23 => atK l_23 o_22 fun q_24 => idxSK 9 q_24 a6 fun k_25 N_26 o_27 => rdH h k_25 N_26 fun l_28 => atK l_28 (o_27 + 2) fun q_29 => asI .i64 (.c q_29) fun n_30 => if 0 ≤ (G.band .i64 n_30 255) ∧ (G.band .i64 n_30 255) < ((256 : Nat) : Int) then if (0 + ((Int.toNat (G.band .i64 n_30 255)) * 1)) < s1.length then some (.normal, (jacquardref2_Locs_s2 a5 (G.wrap .i64 (a6 + 1)) s0 (s1.set (0 + ((Int.toNat (G.band .i64 n_30 255)) * 1)) (.bool true)) h)) else none else none else some ((.exit 4), (jacquardref2_Locs_x2_5 a5 s0 s1 h)) := by kernel_rfl
theorem jacquardref2_Locs_e2_5 (C : CallF) (L : LoopF) (G : Glo) (a5 : Int) (s0 : List Cell) (s1 : List Cell) (h : AHeap) :
    (jacquardref2_Locs_k8 C L G) (.exit 4) (jacquardref2_Locs_x2_5 a5 s0 s1 h) =
    some (.normal, (jacquardref2_Locs_s3 (G.wrap .i64 (a5 + 1)) s0 s1 h)) := by kernel_rfl
theorem jacquardref2_Locs_r3 (C : CallF) (L : LoopF) (G : Glo) (a5 : Int) (s0 : List Cell) (s1 : List Cell) (h : AHeap) :
    jacquardref2_Locs_F3 C L G (jacquardref2_Locs_s3 a5 s0 s1 h) =
    atK s0 2 fun q_10 => lenK q_10 fun n_11 => if (decide (a5 < n_11)) = true then (L (jacquardref2_Locs_F2 C L G) (jacquardref2_Locs_s2 a5 0 s0 s1 h)).bind fun p_31 => (jacquardref2_Locs_k8 C L G) p_31.1 p_31.2 else some ((.exit 2), (jacquardref2_Locs_x3_3 s0 s1 h)) := by kernel_rfl
theorem jacquardref2_Locs_r4 (C : CallF) (L : LoopF) (G : Glo) (a7 : Int) (a8 : Int) (s0 : List Cell) (s1 : List Cell) (h : AHeap) :
    jacquardref2_Locs_F4 C L G (jacquardref2_Locs_s4 a7 a8 s0 s1 h) =
    atK s0 4 fun q_34 => idxSK 1 q_34 a7 fun k_35 N_36 o_37 => rdH h k_35 N_36 fun l_38 => atK l_38 o_37 fun q_39 => lenK q_39 fun n_40 => if (decide (a8 < n_40)) = true then atK s0 4 fun q_41 => idxSK 1 q_41 a7 fun k_42 N_43 o_44 => rdH h k_42 N_43 fun l_45 => atK l_45 o_44 fun q_46 => idxSK 4 q_46 a8 fun k_47 N_48 o_49 => rdH h k_47 N_48 fun l_50 => atK l_50 (o_49 + 2) fun q_51 => asI .i64 (.c q_51) fun n_52 => if 0 ≤ (G.band .i64 n_52 255) ∧ (G.band .i64 n_52 255) < ((256 : Nat) : Int) then if (0 + ((Int.toNat (G.band .i64 n_52 255)) * 1)) < s1.length then some (.normal, (jacquardref2_Locs_s4 a7 (G.wrap .i64 (a8 + 1)) s0 (s1.set (0 + ((Int.toNat (G.band .i64 n_52 255)) * 1)) (.bool true)) h)) else none else none else some ((.exit 8), (jacquardref2_Locs_x4_9 a7 s0 s1 h)) := by kernel_rfl
theorem jacquardref2_Locs_e4_9 (C : CallF) (L : LoopF) (G : Glo) (a7 : Int) (s0 : List Cell) (s1 : List Cell) (h : AHeap) :
    (jacquardref2_Locs_k13 C L G) (.exit 8) (jacquardref2_Locs_x4_9 a7 s0 s1 h) =
    some (.normal, (jacquardref2_Locs_s5 (G.wrap .i64 (a7 + 1)) s0 s1 h)) := by kernel_rfl
theorem jacquardref2_Locs_r5 (C : CallF) (L : LoopF) (G : Glo) (a7 : Int) (s0 : List Cell) (s1 : List Cell) (h : AHeap) :
    jacquardref2_Locs_F5 C L G (jacquardref2_Locs_s5 a7 s0 s1 h) =
    atK s0 4 fun q_32 => lenK q_32 fun n_33 => if (decide (a7 < n_33)) = true then (L (jacquardref2_Locs_F4 C L G) (jacquardref2_Locs_s4 a7 0 s0 s1 h)).bind fun p_53 => (jacquardref2_Locs_k13 C L G) p_53.1 p_53.2 else some ((.exit 6), (jacquardref2_Locs_x5_7 s1 h)) := by kernel_rfl
theorem jacquardref2_Locs_r6 (C : CallF) (L : LoopF) (G : Glo) (x9 : Cell) (a10 : Int) (s1 : List Cell) (h : AHeap) :
    jacquardref2_Locs_F6 C L G (jacquardref2_Locs_s6 x9 a10 s1 h) =
    if (decide (a10 ≤ 122)) = true then if 0 ≤ a10 ∧ a10 < ((256 : Nat) : Int) then atK s1 (0 + ((Int.toNat a10) * 1)) fun q_54 => asB (.c q_54) fun b_55 => if b_55 = true then if (splice [Cell.int .u8 0] 0 ([(.int .u8 (G.wrap .u8 a10))] : List Cell)).length = 1 * 1 then appK 1 1 x9 (splice [Cell.int .u8 0] 0 ([(.int .u8 (G.wrap .u8 a10))] : List Cell)) h fun x_56 h_57 => some (.normal, (jacquardref2_Locs_s6 x_56 (G.wrap .i32 (a10 + 1)) s1 h_57)) else none else some (.normal, (jacquardref2_Locs_s6 x9 (G.wrap .i32 (a10 + 1)) s1 h)) else none else some ((.exit 10), (jacquardref2_Locs_x6_11 x9 h)) := by kernel_rfl
theorem jacquardref2_Locs_e6_11 (C : CallF) (L : LoopF) (G : Glo) (h0 : AHeap) (x9 : Cell) (h : AHeap) :
    (jacquardref2_Locs_k15 C L G h0) (.exit 10) (jacquardref2_Locs_x6_11 x9 h) =
    some ([(.c x9)], h) := by kernel_rfl
theorem jacquardref2_Locs_e5_7 (C : CallF) (L : LoopF) (G : Glo) (h0 : AHeap) (s1 : List Cell) (h : AHeap) :
    (jacquardref2_Locs_k10 C L G h0) (.exit 6) (jacquardref2_Locs_x5_7 s1 h) =
    (L (jacquardref2_Locs_F6 C L G) (jacquardref2_Locs_s6 .nils 97 s1 h)).bind fun p_58 => (jacquardref2_Locs_k15 C L G h0) p_58.1 p_58.2 := by kernel_rfl
theorem jacquardref2_Locs_e3_3 (C : CallF) (L : LoopF) (G : Glo) (h0 : AHeap) (s0 : List Cell) (s1 : List Cell) (h : AHeap) :
    (jacquardref2_Locs_k5 C L G h0) (.exit 2) (jacquardref2_Locs_x3_3 s0 s1 h) =
    (L (jacquardref2_Locs_F5 C L G) (jacquardref2_Locs_s5 0 s0 s1 h)).bind fun p_59 => (jacquardref2_Locs_k10 C L G h0) p_59.1 p_59.2 := by kernel_rfl
theorem jacquardref2_Locs_e1_1 (C : CallF) (L : LoopF) (G : Glo) (h0 : AHeap) (s0 : List Cell) (s1 : List Cell) (h : AHeap) :
    (jacquardref2_Locs_k3 C L G h0) (.exit 0) (jacquardref2_Locs_x1_1 s0 s1 h) =
    (L (jacquardref2_Locs_F3 C L G) (jacquardref2_Locs_s3 0 s0 s1 h)).bind fun p_60 => (jacquardref2_Locs_k5 C L G h0) p_60.1 p_60.2 := by kernel_rfl
set_option maxRecDepth 100000 in
theorem jacquardref2_Locs_eq (C : CallF) (L : LoopF) (G : Glo) (l0 : List Cell) (h0 : AHeap) :
    jacquardref2_Locs.body C L G [(.agg l0)] h0 =
    (L (jacquardref2_Locs_F1 C L G) (jacquardref2_Locs_s1 0 l0 (List.replicate 256 (Cell.bool false)) h0)).bind fun p_61 => (jacquardref2_Locs_k3 C L G h0) p_61.1 p_61.2 := by kernel_rfl


end Jq

/- Programs as the document says: what is done at once, what comes next. -/
namespace Jq
open Go

/-- An instruction that may be, in a thread of so many. -/
structure GoodI (len : Nat) (i : Ins) : Prop where
  kind : 1 ≤ i.kind ∧ i.kind ≤ 6
  reg : i.kind = 2 ∨ i.kind = 4 ∨ i.kind = 5 → 0 ≤ i.reg ∧ i.reg < 4
  op : i.kind = 5 → 0 ≤ i.op ∧ i.op ≤ 11
  n : i.kind = 6 → 0 ≤ i.n ∧ i.n ≤ len

def GoodC (code : List Ins) : Prop := ∀ i ∈ code, GoodI code.length i

section
variable {E : Env}

/-- One thread of a program that lies there. -/
theorem ProgAt.thr {h : AHeap} {cs : List Cell} {P : PProg} (p : ProgAt h cs P) {t : Nat} {code : List Ins} (ht : P.thr[t]? = some code) :
    ∃ x, SlAt h x 9 (codeC code) code.length ∧ Low h.length x ∧ ∀ {α : Type} (f : Cell → Option α), (atK cs 2 fun q => idxSK 1 q (t : Int) fun k N o => rdH h k N fun l => atK l o f) = f x := by
  obtain ⟨a, b, c, ts, rfl, _, _, ⟨hc, hcl⟩, hts⟩ := p
  obtain ⟨x, x1, x2, x3⟩ := hts _ _ ht
  refine ⟨x, x2, x3, fun f => ?_⟩
  show (idxSK 1 c (t : Int) fun k N o => rdH h k N fun l => atK l o f) = f x
  exact hc.get1 (getI_lt ht) x1

/-- Each thread may be. -/
def PProg.good (P : PProg) : Prop := P.fits ∧ ∀ code ∈ P.thr, GoodC code

end
end Jq

namespace Jq
open Go


end Jq

/- Events: what an instruction does; a thread unfolded. -/
namespace Jq
open Go

structure Evt where
  t : Int
  i : Int
  kind : Int
  loc : Int
  r : Int
  w : Int
  deriving DecidableEq

def Evt.cs (e : Evt) : List Cell := [.int .i64 e.t, .int .i64 e.i, .int .i64 e.kind, .int .i64 e.loc, .int .i64 e.r, .int .i64 e.w]
def evsC (l : List Evt) : List Cell := l.flatMap Evt.cs
theorem Evt.len (e : Evt) : e.cs.length = 6 := rfl
/-- The event of an instruction that reads v. -/
def evOf (i : Ins) (l : Lcl) (v : Int) : Evt :=
  if i.kind = 1 then ⟨0, 0, 2, i.loc, 0, opV i.a l⟩
  else if i.kind = 2 then ⟨0, 0, 1, i.loc, v, 0⟩
  else if i.kind = 4 then (if opV i.a l = v then ⟨0, 0, 4, i.loc, v, opV i.b l⟩ else ⟨0, 0, 5, i.loc, v, 0⟩)
  else ⟨0, 0, 3, 0, 0, 0⟩

def rdI (i : Ins) : Bool := decide (i.kind = 2 ∨ i.kind = 4)

/-- A thread unfolded: its events, where it is, and whether it would read more. -/
def unf (code : List Ins) (t : Int) : Nat → Lcl → List Int → List Evt → List Evt × Lcl × Bool
  | 0, l, _, out => (out, l, false)
  | k + 1, l, rs, out => match nextI code l with
    | none => (out, l, false)
    | some i =>
      if rdI i = true then match rs with
        | [] => (out, l, true)
        | v :: rs => unf code t k (afterL code l v) rs (out ++ [{ evOf i l v with t := t, i := out.length }])
      else unf code t k (afterL code l 0) rs (out ++ [{ evOf i l 0 with t := t, i := out.length }])

theorem nrm_pc {code : List Ins} : ∀ (k : Nat) (l : Lcl), l.pc ≤ (nrm code k l).pc
  | 0, l => by rw [nrm]; omega
  | k + 1, l => by
    rw [nrm]
    cases hs : stepI code l with
    | none => show l.pc ≤ l.pc; omega
    | some l' =>
      have h1 := stepI_pc hs
      have h2 := nrm_pc (code := code) k l'
      show l.pc ≤ (nrm code k l').pc
      omega

theorem afterL_pc {code : List Ins} {l : Lcl} {i : Ins} (h : nextI code l = some i) (v : Int) : l.pc + 1 ≤ (afterL code l v).pc := by
  unfold afterL
  rw [h]
  exact nrm_pc _ _

theorem normL_pc (code : List Ins) (l : Lcl) : l.pc ≤ (normL code l).pc := nrm_pc _ _

section
variable {E : Env}

/-- A row that can be cut, whatever is made behind it. -/
def SlOkE (h : AHeap) (esz : Nat) (x : Cell) : Prop := ∀ k N off len, x = .sl k N off len → ∀ h', Kp h.length h h' → okSl h' esz k N = true

theorem SlOk.e {h : AHeap} {x : Cell} (s : SlOk h x) (esz : Nat) : SlOkE h esz x := fun k N off len e h' hk => s k N off len e h' hk esz

theorem SlOkE.mono {h h' : AHeap} {esz : Nat} {x : Cell} (s : SlOkE h esz x) (hk : Kp h.length h h') : SlOkE h' esz x :=
  fun k N off len e h2 hk2 => s k N off len e h2 (hk.trans (hk2.mono hk.1))

/-- No thread is long. -/
def PProg.small (P : PProg) : Prop := P.thr.length ≤ 1000 ∧ ∀ code ∈ P.thr, code.length ≤ 1000
theorem PProg.small.fits {P : PProg} (h : P.small) : P.fits := ⟨by have := h.1; omega, fun c hc => by have := h.2 c hc; omega⟩
theorem PProg.small.code {P : PProg} (h : P.small) (t : Int) : (P.code t).length ≤ 1000 := by
  unfold PProg.code
  split
  · rw [List.getD_eq_getElem?_getD]
    cases hq : P.thr[t.toNat]? with
    | none => show (0 : Nat) ≤ _; omega
    | some c => exact h.2 c (List.mem_of_getElem? hq)
  · show (0 : Nat) ≤ _; omega

end
end Jq

namespace Jq
open Go


end Jq

/- What a function needs of an environment. -/
namespace Jq
open Go


end Jq

namespace Jq
open Go


end Jq

namespace Jq
open Go

/- slices.Clone(()jacquard/api.Ins,jacquard/api.Ins): 119 -/
set_option maxRecDepth 100000 in
theorem slices_Clone_sIns_Ins_eq (C : CallF) (L : LoopF) (G : Glo) (x0 : Cell) (h0 : AHeap) :
    slices_Clone_sIns_Ins.body C L G [(.c x0)] h0 =
    eqNilK false x0 .nils fun b_1 => if b_1 = true then some ([(.c .nils)], h0) else if ([] : List Cell).length = 0 * 9 then (slCells (h0 ++ [some (Blk.mk true 9 ([] : List Cell))]) 9 x0).bind fun l_4 => appK 9 72 (.sl h0.length (([] : List Cell).length) 0 0) l_4 (h0 ++ [some (Blk.mk true 9 ([] : List Cell))]) fun x_2 h_3 => some ([(.c x_2)], h_3) else none := by kernel_rfl

/- slices.ContainsFunc(()()jacquard/api.Ins,()jacquard/api.Ins): 130 -/
set_option maxRecDepth 100000 in
theorem slices_ContainsFunc_ssIns_sIns_eq (C : CallF) (L : LoopF) (G : Glo) (x0 : Cell) (x1 : Cell) (h0 : AHeap) :
    slices_ContainsFunc_ssIns_sIns.body C L G [(.c x0), (.c x1)] h0 =
    c1 (C 147 [(.c x0), (.c x1)] h0) fun y_2 h_1 => asI .i64 y_2 fun n_3 => some ([(.c (.bool (decide (n_3 ≥ 0))))], h_1) := by kernel_rfl

/- slices.ContainsFunc(()jacquard/api.Atom,jacquard/api.Atom): 132 -/
set_option maxRecDepth 100000 in
theorem slices_ContainsFunc_sAtom_Atom_eq (C : CallF) (L : LoopF) (G : Glo) (x0 : Cell) (x1 : Cell) (h0 : AHeap) :
    slices_ContainsFunc_sAtom_Atom.body C L G [(.c x0), (.c x1)] h0 =
    c1 (C 149 [(.c x0), (.c x1)] h0) fun y_2 h_1 => asI .i64 y_2 fun n_3 => some ([(.c (.bool (decide (n_3 ≥ 0))))], h_1) := by kernel_rfl

/- slices.Index(()byte,byte): 134 -/
def slices_Index_sbyte_byte_k2 (C : CallF) (L : LoopF) (G : Glo) (h0 : AHeap) : Ex → St → Option (List AV × AHeap) :=
  kSeq (fun st => slices_Index_sbyte_byte_p1.exec C L G st (slices_Index_sbyte_byte.fin G h0)) (slices_Index_sbyte_byte.fin G h0)
def slices_Index_sbyte_byte_k3 (C : CallF) (L : LoopF) (G : Glo) (h0 : AHeap) : Ex → St → Option (List AV × AHeap) :=
  kBlk 0 (slices_Index_sbyte_byte_k2 C L G h0)
def slices_Index_sbyte_byte_s1 (x0 : Cell) (a1 : Int) (a7 : Int) (a8 : Int) (h : AHeap) : St := ⟨[.v (.c x0), .v (.c (.int .u8 a1)), .top, .top, .top, .top, .top, .v (.c (.int .i64 a7)), .v (.c (.int .i64 a8)), .top, .top, .top, .top, .top, .top, .top, .top, .top, .top], [], h⟩
def slices_Index_sbyte_byte_F1 (C : CallF) (L : LoopF) (G : Glo) : St → Option (Ex × St) :=
  roundF (fun st f => slices_Index_sbyte_byte_b1.exec C L G st f) [0, 1, 7, 8] [] [(0, [4], []), (1, [], [])]
def slices_Index_sbyte_byte_x1_0 (a4 : Int) (h : AHeap) : St := ⟨[.top, .top, .top, .top, .v (.c (.int .i64 a4)), .top, .top, .top, .top, .top, .top, .top, .top, .top, .top, .top, .top, .top, .top], [], h⟩
def slices_Index_sbyte_byte_x1_1 (h : AHeap) : St := ⟨[.top, .top, .top, .top, .top, .top, .top, .top, .top, .top, .top, .top, .top, .top, .top, .top, .top, .top, .top], [], h⟩
theorem slices_Index_sbyte_byte_r1 (C : CallF) (L : LoopF) (G : Glo) (x0 : Cell) (a1 : Int) (a7 : Int) (a8 : Int) (h : AHeap) :
    slices_Index_sbyte_byte_F1 C L G (slices_Index_sbyte_byte_s1 x0 a1 a7 a8 h) =
    if (decide (a8 < a7)) = true then idxSK 1 x0 a8 fun k_2 N_3 o_4 => rdH h k_2 N_3 fun l_5 => atK l_5 o_4 fun q_6 => asI .u8 (.c q_6) fun n_7 => if (a1 == n_7) = true then some (.ret, (slices_Index_sbyte_byte_x1_0 a8 h)) else some (.normal, (slices_Index_sbyte_byte_s1 x0 a1 a7 (G.wrap .i64 (a8 + 1)) h)) else some ((.exit 0), (slices_Index_sbyte_byte_x1_1 h)) := by kernel_rfl
theorem slices_Index_sbyte_byte_e1_0 (C : CallF) (L : LoopF) (G : Glo) (h0 : AHeap) (a4 : Int) (h : AHeap) :
    (slices_Index_sbyte_byte_k3 C L G h0) .ret (slices_Index_sbyte_byte_x1_0 a4 h) =
    some ([(.c (.int .i64 a4))], h) := by kernel_rfl
theorem slices_Index_sbyte_byte_e1_1 (C : CallF) (L : LoopF) (G : Glo) (h0 : AHeap) (h : AHeap) :
    (slices_Index_sbyte_byte_k3 C L G h0) (.exit 0) (slices_Index_sbyte_byte_x1_1 h) =
    some ([(.c (.int .i64 (-1)))], h) := by kernel_rfl
set_option maxRecDepth 100000 in
theorem slices_Index_sbyte_byte_eq (C : CallF) (L : LoopF) (G : Glo) (x0 : Cell) (a1 : Int) (h0 : AHeap) :
    slices_Index_sbyte_byte.body C L G [(.c x0), (.c (.int .u8 a1))] h0 =
    lenK x0 fun n_1 => (L (slices_Index_sbyte_byte_F1 C L G) (slices_Index_sbyte_byte_s1 x0 a1 n_1 0 h0)).bind fun p_8 => (slices_Index_sbyte_byte_k3 C L G h0) p_8.1 p_8.2 := by kernel_rfl

/- slices.ContainsFunc(()jacquard/api.Init,jacquard/api.Init): 143 -/
set_option maxRecDepth 100000 in
theorem slices_ContainsFunc_sInit_Init_eq (C : CallF) (L : LoopF) (G : Glo) (x0 : Cell) (x1 : Cell) (h0 : AHeap) :
    slices_ContainsFunc_sInit_Init.body C L G [(.c x0), (.c x1)] h0 =
    c1 (C 160 [(.c x0), (.c x1)] h0) fun y_2 h_1 => asI .i64 y_2 fun n_3 => some ([(.c (.bool (decide (n_3 ≥ 0))))], h_1) := by kernel_rfl

/- slices.ContainsFunc(()()jacquard/api.Atom,()jacquard/api.Atom): 146 -/
set_option maxRecDepth 100000 in
theorem slices_ContainsFunc_ssAtom_sAtom_eq (C : CallF) (L : LoopF) (G : Glo) (x0 : Cell) (x1 : Cell) (h0 : AHeap) :
    slices_ContainsFunc_ssAtom_sAtom.body C L G [(.c x0), (.c x1)] h0 =
    c1 (C 162 [(.c x0), (.c x1)] h0) fun y_2 h_1 => asI .i64 y_2 fun n_3 => some ([(.c (.bool (decide (n_3 ≥ 0))))], h_1) := by kernel_rfl

/- slices.IndexFunc(()()jacquard/api.Ins,()jacquard/api.Ins): 147 -/
def slices_IndexFunc_ssIns_sIns_k2 (C : CallF) (L : LoopF) (G : Glo) (h0 : AHeap) : Ex → St → Option (List AV × AHeap) :=
  kSeq (fun st => slices_IndexFunc_ssIns_sIns_p1.exec C L G st (slices_IndexFunc_ssIns_sIns.fin G h0)) (slices_IndexFunc_ssIns_sIns.fin G h0)
def slices_IndexFunc_ssIns_sIns_k3 (C : CallF) (L : LoopF) (G : Glo) (h0 : AHeap) : Ex → St → Option (List AV × AHeap) :=
  kBlk 0 (slices_IndexFunc_ssIns_sIns_k2 C L G h0)
def slices_IndexFunc_ssIns_sIns_s1 (x0 : Cell) (x1 : Cell) (a7 : Int) (a8 : Int) (h : AHeap) : St := ⟨[.v (.c x0), .v (.c x1), .top, .top, .top, .top, .top, .v (.c (.int .i64 a7)), .v (.c (.int .i64 a8)), .top, .top, .top, .top, .top, .top, .top, .top, .top, .top], [], h⟩
def slices_IndexFunc_ssIns_sIns_F1 (C : CallF) (L : LoopF) (G : Glo) : St → Option (Ex × St) :=
  roundF (fun st f => slices_IndexFunc_ssIns_sIns_b1.exec C L G st f) [0, 1, 7, 8] [] [(0, [4], []), (1, [], [])]
def slices_IndexFunc_ssIns_sIns_x1_0 (a4 : Int) (h : AHeap) : St := ⟨[.top, .top, .top, .top, .v (.c (.int .i64 a4)), .top, .top, .top, .top, .top, .top, .top, .top, .top, .top, .top, .top, .top, .top], [], h⟩
def slices_IndexFunc_ssIns_sIns_x1_1 (h : AHeap) : St := ⟨[.top, .top, .top, .top, .top, .top, .top, .top, .top, .top, .top, .top, .top, .top, .top, .top, .top, .top, .top], [], h⟩
theorem slices_IndexFunc_ssIns_sIns_r1 (C : CallF) (L : LoopF) (G : Glo) (x0 : Cell) (x1 : Cell) (a7 : Int) (a8 : Int) (h : AHeap) :
    slices_IndexFunc_ssIns_sIns_F1 C L G (slices_IndexFunc_ssIns_sIns_s1 x0 x1 a7 a8 h) =
    if (decide (a8 < a7)) = true then idxSK 1 x0 a8 fun k_2 N_3 o_4 => rdH h k_2 N_3 fun l_5 => atK l_5 o_4 fun q_6 => fnK x1 fun g_7 l_8 => c1 (C g_7 ([(.c q_6)] ++ l_8) h) fun y_10 h_9 => asB y_10 fun b_11 => if b_11 = true then some (.ret, (slices_IndexFunc_ssIns_sIns_x1_0 a8 h_9)) else some (.normal, (slices_IndexFunc_ssIns_sIns_s1 x0 x1 a7 (G.wrap .i64 (a8 + 1)) h_9)) else some ((.exit 0), (slices_IndexFunc_ssIns_sIns_x1_1 h)) := by kernel_rfl
theorem slices_IndexFunc_ssIns_sIns_e1_0 (C : CallF) (L : LoopF) (G : Glo) (h0 : AHeap) (a4 : Int) (h : AHeap) :
    (slices_IndexFunc_ssIns_sIns_k3 C L G h0) .ret (slices_IndexFunc_ssIns_sIns_x1_0 a4 h) =
    some ([(.c (.int .i64 a4))], h) := by kernel_rfl
theorem slices_IndexFunc_ssIns_sIns_e1_1 (C : CallF) (L : LoopF) (G : Glo) (h0 : AHeap) (h : AHeap) :
    (slices_IndexFunc_ssIns_sIns_k3 C L G h0) (.exit 0) (slices_IndexFunc_ssIns_sIns_x1_1 h) =
    some ([(.c (.int .i64 (-1)))], h) := by kernel_rfl
set_option maxRecDepth 100000 in
theorem slices_IndexFunc_ssIns_sIns_eq (C : CallF) (L : LoopF) (G : Glo) (x0 : Cell) (x1 : Cell) (h0 : AHeap) :
    slices_IndexFunc_ssIns_sIns.body C L G [(.c x0), (.c x1)] h0 =
    lenK x0 fun n_1 => (L (slices_IndexFunc_ssIns_sIns_F1 C L G) (slices_IndexFunc_ssIns_sIns_s1 x0 x1 n_1 0 h0)).bind fun p_12 => (slices_IndexFunc_ssIns_sIns_k3 C L G h0) p_12.1 p_12.2 := by kernel_rfl

/- slices.IndexFunc(()jacquard/api.Atom,jacquard/api.Atom): 149 -/
def slices_IndexFunc_sAtom_Atom_k2 (C : CallF) (L : LoopF) (G : Glo) (h0 : AHeap) : Ex → St → Option (List AV × AHeap) :=
  kSeq (fun st => slices_IndexFunc_sAtom_Atom_p1.exec C L G st (slices_IndexFunc_sAtom_Atom.fin G h0)) (slices_IndexFunc_sAtom_Atom.fin G h0)
def slices_IndexFunc_sAtom_Atom_k3 (C : CallF) (L : LoopF) (G : Glo) (h0 : AHeap) : Ex → St → Option (List AV × AHeap) :=
  kBlk 0 (slices_IndexFunc_sAtom_Atom_k2 C L G h0)
def slices_IndexFunc_sAtom_Atom_s1 (x0 : Cell) (x1 : Cell) (a7 : Int) (a8 : Int) (h : AHeap) : St := ⟨[.v (.c x0), .v (.c x1), .top, .top, .top, .top, .top, .v (.c (.int .i64 a7)), .v (.c (.int .i64 a8)), .top, .top, .top, .top, .top, .top, .top, .top, .top, .top], [], h⟩
def slices_IndexFunc_sAtom_Atom_F1 (C : CallF) (L : LoopF) (G : Glo) : St → Option (Ex × St) :=
  roundF (fun st f => slices_IndexFunc_sAtom_Atom_b1.exec C L G st f) [0, 1, 7, 8] [] [(0, [4], []), (1, [], [])]
def slices_IndexFunc_sAtom_Atom_x1_0 (a4 : Int) (h : AHeap) : St := ⟨[.top, .top, .top, .top, .v (.c (.int .i64 a4)), .top, .top, .top, .top, .top, .top, .top, .top, .top, .top, .top, .top, .top, .top], [], h⟩
def slices_IndexFunc_sAtom_Atom_x1_1 (h : AHeap) : St := ⟨[.top, .top, .top, .top, .top, .top, .top, .top, .top, .top, .top, .top, .top, .top, .top, .top, .top, .top, .top], [], h⟩
theorem slices_IndexFunc_sAtom_Atom_r1 (C : CallF) (L : LoopF) (G : Glo) (x0 : Cell) (x1 : Cell) (a7 : Int) (a8 : Int) (h : AHeap) :
    slices_IndexFunc_sAtom_Atom_F1 C L G (slices_IndexFunc_sAtom_Atom_s1 x0 x1 a7 a8 h) =
    if (decide (a8 < a7)) = true then idxSK 4 x0 a8 fun k_2 N_3 o_4 => rdH h k_2 N_3 fun l_5 => if o_4 + 4 ≤ l_5.length then fnK x1 fun g_6 l_7 => c1 (C g_6 ([(.agg ((l_5.drop o_4).take 4))] ++ l_7) h) fun y_9 h_8 => asB y_9 fun b_10 => if b_10 = true then some (.ret, (slices_IndexFunc_sAtom_Atom_x1_0 a8 h_8)) else some (.normal, (slices_IndexFunc_sAtom_Atom_s1 x0 x1 a7 (G.wrap .i64 (a8 + 1)) h_8)) else none else some ((.exit 0), (slices_IndexFunc_sAtom_Atom_x1_1 h)) := by kernel_rfl
theorem slices_IndexFunc_sAtom_Atom_e1_0 (C : CallF) (L : LoopF) (G : Glo) (h0 : AHeap) (a4 : Int) (h : AHeap) :
    (slices_IndexFunc_sAtom_Atom_k3 C L G h0) .ret (slices_IndexFunc_sAtom_Atom_x1_0 a4 h) =
    some ([(.c (.int .i64 a4))], h) := by kernel_rfl
theorem slices_IndexFunc_sAtom_Atom_e1_1 (C : CallF) (L : LoopF) (G : Glo) (h0 : AHeap) (h : AHeap) :
    (slices_IndexFunc_sAtom_Atom_k3 C L G h0) (.exit 0) (slices_IndexFunc_sAtom_Atom_x1_1 h) =
    some ([(.c (.int .i64 (-1)))], h) := by kernel_rfl
set_option maxRecDepth 100000 in
theorem slices_IndexFunc_sAtom_Atom_eq (C : CallF) (L : LoopF) (G : Glo) (x0 : Cell) (x1 : Cell) (h0 : AHeap) :
    slices_IndexFunc_sAtom_Atom.body C L G [(.c x0), (.c x1)] h0 =
    lenK x0 fun n_1 => (L (slices_IndexFunc_sAtom_Atom_F1 C L G) (slices_IndexFunc_sAtom_Atom_s1 x0 x1 n_1 0 h0)).bind fun p_11 => (slices_IndexFunc_sAtom_Atom_k3 C L G h0) p_11.1 p_11.2 := by kernel_rfl

/- slices.ContainsFunc(()jacquard/api.Ins,jacquard/api.Ins): 155 -/
set_option maxRecDepth 100000 in
theorem slices_ContainsFunc_sIns_Ins_eq (C : CallF) (L : LoopF) (G : Glo) (x0 : Cell) (x1 : Cell) (h0 : AHeap) :
    slices_ContainsFunc_sIns_Ins.body C L G [(.c x0), (.c x1)] h0 =
    c1 (C 156 [(.c x0), (.c x1)] h0) fun y_2 h_1 => asI .i64 y_2 fun n_3 => some ([(.c (.bool (decide (n_3 ≥ 0))))], h_1) := by kernel_rfl

/- slices.IndexFunc(()jacquard/api.Ins,jacquard/api.Ins): 156 -/
def slices_IndexFunc_sIns_Ins_k2 (C : CallF) (L : LoopF) (G : Glo) (h0 : AHeap) : Ex → St → Option (List AV × AHeap) :=
  kSeq (fun st => slices_IndexFunc_sIns_Ins_p1.exec C L G st (slices_IndexFunc_sIns_Ins.fin G h0)) (slices_IndexFunc_sIns_Ins.fin G h0)
def slices_IndexFunc_sIns_Ins_k3 (C : CallF) (L : LoopF) (G : Glo) (h0 : AHeap) : Ex → St → Option (List AV × AHeap) :=
  kBlk 0 (slices_IndexFunc_sIns_Ins_k2 C L G h0)
def slices_IndexFunc_sIns_Ins_s1 (x0 : Cell) (x1 : Cell) (a7 : Int) (a8 : Int) (h : AHeap) : St := ⟨[.v (.c x0), .v (.c x1), .top, .top, .top, .top, .top, .v (.c (.int .i64 a7)), .v (.c (.int .i64 a8)), .top, .top, .top, .top, .top, .top, .top, .top, .top, .top], [], h⟩
def slices_IndexFunc_sIns_Ins_F1 (C : CallF) (L : LoopF) (G : Glo) : St → Option (Ex × St) :=
  roundF (fun st f => slices_IndexFunc_sIns_Ins_b1.exec C L G st f) [0, 1, 7, 8] [] [(0, [4], []), (1, [], [])]
def slices_IndexFunc_sIns_Ins_x1_0 (a4 : Int) (h : AHeap) : St := ⟨[.top, .top, .top, .top, .v (.c (.int .i64 a4)), .top, .top, .top, .top, .top, .top, .top, .top, .top, .top, .top, .top, .top, .top], [], h⟩
def slices_IndexFunc_sIns_Ins_x1_1 (h : AHeap) : St := ⟨[.top, .top, .top, .top, .top, .top, .top, .top, .top, .top, .top, .top, .top, .top, .top, .top, .top, .top, .top], [], h⟩
theorem slices_IndexFunc_sIns_Ins_r1 (C : CallF) (L : LoopF) (G : Glo) (x0 : Cell) (x1 : Cell) (a7 : Int) (a8 : Int) (h : AHeap) :
    slices_IndexFunc_sIns_Ins_F1 C L G (slices_IndexFunc_sIns_Ins_s1 x0 x1 a7 a8 h) =
    if (decide (a8 < a7)) = true then idxSK 9 x0 a8 fun k_2 N_3 o_4 => rdH h k_2 N_3 fun l_5 => if o_4 + 9 ≤ l_5.length then fnK x1 fun g_6 l_7 => c1 (C g_6 ([(.agg ((l_5.drop o_4).take 9))] ++ l_7) h) fun y_9 h_8 => asB y_9 fun b_10 => if b_10 = true then some (.ret, (slices_IndexFunc_sIns_Ins_x1_0 a8 h_8)) else some (.normal, (slices_IndexFunc_sIns_Ins_s1 x0 x1 a7 (G.wrap .i64 (a8 + 1)) h_8)) else none else some ((.exit 0), (slices_IndexFunc_sIns_Ins_x1_1 h)) := by kernel_rfl
theorem slices_IndexFunc_sIns_Ins_e1_0 (C : CallF) (L : LoopF) (G : Glo) (h0 : AHeap) (a4 : Int) (h : AHeap) :
    (slices_IndexFunc_sIns_Ins_k3 C L G h0) .ret (slices_IndexFunc_sIns_Ins_x1_0 a4 h) =
    some ([(.c (.int .i64 a4))], h) := by kernel_rfl
theorem slices_IndexFunc_sIns_Ins_e1_1 (C : CallF) (L : LoopF) (G : Glo) (h0 : AHeap) (h : AHeap) :
    (slices_IndexFunc_sIns_Ins_k3 C L G h0) (.exit 0) (slices_IndexFunc_sIns_Ins_x1_1 h) =
    some ([(.c (.int .i64 (-1)))], h) := by kernel_rfl
set_option maxRecDepth 100000 in
theorem slices_IndexFunc_sIns_Ins_eq (C : CallF) (L : LoopF) (G : Glo) (x0 : Cell) (x1 : Cell) (h0 : AHeap) :
    slices_IndexFunc_sIns_Ins.body C L G [(.c x0), (.c x1)] h0 =
    lenK x0 fun n_1 => (L (slices_IndexFunc_sIns_Ins_F1 C L G) (slices_IndexFunc_sIns_Ins_s1 x0 x1 n_1 0 h0)).bind fun p_11 => (slices_IndexFunc_sIns_Ins_k3 C L G h0) p_11.1 p_11.2 := by kernel_rfl

/- slices.IndexFunc(()jacquard/api.Init,jacquard/api.Init): 160 -/
def slices_IndexFunc_sInit_Init_k2 (C : CallF) (L : LoopF) (G : Glo) (h0 : AHeap) : Ex → St → Option (List AV × AHeap) :=
  kSeq (fun st => slices_IndexFunc_sInit_Init_p1.exec C L G st (slices_IndexFunc_sInit_Init.fin G h0)) (slices_IndexFunc_sInit_Init.fin G h0)
def slices_IndexFunc_sInit_Init_k3 (C : CallF) (L : LoopF) (G : Glo) (h0 : AHeap) : Ex → St → Option (List AV × AHeap) :=
  kBlk 0 (slices_IndexFunc_sInit_Init_k2 C L G h0)
def slices_IndexFunc_sInit_Init_s1 (x0 : Cell) (x1 : Cell) (a7 : Int) (a8 : Int) (h : AHeap) : St := ⟨[.v (.c x0), .v (.c x1), .top, .top, .top, .top, .top, .v (.c (.int .i64 a7)), .v (.c (.int .i64 a8)), .top, .top, .top, .top, .top, .top, .top, .top, .top, .top], [], h⟩
def slices_IndexFunc_sInit_Init_F1 (C : CallF) (L : LoopF) (G : Glo) : St → Option (Ex × St) :=
  roundF (fun st f => slices_IndexFunc_sInit_Init_b1.exec C L G st f) [0, 1, 7, 8] [] [(0, [4], []), (1, [], [])]
def slices_IndexFunc_sInit_Init_x1_0 (a4 : Int) (h : AHeap) : St := ⟨[.top, .top, .top, .top, .v (.c (.int .i64 a4)), .top, .top, .top, .top, .top, .top, .top, .top, .top, .top, .top, .top, .top, .top], [], h⟩
def slices_IndexFunc_sInit_Init_x1_1 (h : AHeap) : St := ⟨[.top, .top, .top, .top, .top, .top, .top, .top, .top, .top, .top, .top, .top, .top, .top, .top, .top, .top, .top], [], h⟩
theorem slices_IndexFunc_sInit_Init_r1 (C : CallF) (L : LoopF) (G : Glo) (x0 : Cell) (x1 : Cell) (a7 : Int) (a8 : Int) (h : AHeap) :
    slices_IndexFunc_sInit_Init_F1 C L G (slices_IndexFunc_sInit_Init_s1 x0 x1 a7 a8 h) =
    if (decide (a8 < a7)) = true then idxSK 2 x0 a8 fun k_2 N_3 o_4 => rdH h k_2 N_3 fun l_5 => if o_4 + 2 ≤ l_5.length then fnK x1 fun g_6 l_7 => c1 (C g_6 ([(.agg ((l_5.drop o_4).take 2))] ++ l_7) h) fun y_9 h_8 => asB y_9 fun b_10 => if b_10 = true then some (.ret, (slices_IndexFunc_sInit_Init_x1_0 a8 h_8)) else some (.normal, (slices_IndexFunc_sInit_Init_s1 x0 x1 a7 (G.wrap .i64 (a8 + 1)) h_8)) else none else some ((.exit 0), (slices_IndexFunc_sInit_Init_x1_1 h)) := by kernel_rfl
theorem slices_IndexFunc_sInit_Init_e1_0 (C : CallF) (L : LoopF) (G : Glo) (h0 : AHeap) (a4 : Int) (h : AHeap) :
    (slices_IndexFunc_sInit_Init_k3 C L G h0) .ret (slices_IndexFunc_sInit_Init_x1_0 a4 h) =
    some ([(.c (.int .i64 a4))], h) := by kernel_rfl
theorem slices_IndexFunc_sInit_Init_e1_1 (C : CallF) (L : LoopF) (G : Glo) (h0 : AHeap) (h : AHeap) :
    (slices_IndexFunc_sInit_Init_k3 C L G h0) (.exit 0) (slices_IndexFunc_sInit_Init_x1_1 h) =
    some ([(.c (.int .i64 (-1)))], h) := by kernel_rfl
set_option maxRecDepth 100000 in
theorem slices_IndexFunc_sInit_Init_eq (C : CallF) (L : LoopF) (G : Glo) (x0 : Cell) (x1 : Cell) (h0 : AHeap) :
    slices_IndexFunc_sInit_Init.body C L G [(.c x0), (.c x1)] h0 =
    lenK x0 fun n_1 => (L (slices_IndexFunc_sInit_Init_F1 C L G) (slices_IndexFunc_sInit_Init_s1 x0 x1 n_1 0 h0)).bind fun p_11 => (slices_IndexFunc_sInit_Init_k3 C L G h0) p_11.1 p_11.2 := by kernel_rfl

/- slices.IndexFunc(()()jacquard/api.Atom,()jacquard/api.Atom): 162 -/
def slices_IndexFunc_ssAtom_sAtom_k2 (C : CallF) (L : LoopF) (G : Glo) (h0 : AHeap) : Ex → St → Option (List AV × AHeap) :=
  kSeq (fun st => slices_IndexFunc_ssAtom_sAtom_p1.exec C L G st (slices_IndexFunc_ssAtom_sAtom.fin G h0)) (slices_IndexFunc_ssAtom_sAtom.fin G h0)
def slices_IndexFunc_ssAtom_sAtom_k3 (C : CallF) (L : LoopF) (G : Glo) (h0 : AHeap) : Ex → St → Option (List AV × AHeap) :=
  kBlk 0 (slices_IndexFunc_ssAtom_sAtom_k2 C L G h0)
def slices_IndexFunc_ssAtom_sAtom_s1 (x0 : Cell) (x1 : Cell) (a7 : Int) (a8 : Int) (h : AHeap) : St := ⟨[.v (.c x0), .v (.c x1), .top, .top, .top, .top, .top, .v (.c (.int .i64 a7)), .v (.c (.int .i64 a8)), .top, .top, .top, .top, .top, .top, .top, .top, .top, .top], [], h⟩
def slices_IndexFunc_ssAtom_sAtom_F1 (C : CallF) (L : LoopF) (G : Glo) : St → Option (Ex × St) :=
  roundF (fun st f => slices_IndexFunc_ssAtom_sAtom_b1.exec C L G st f) [0, 1, 7, 8] [] [(0, [4], []), (1, [], [])]
def slices_IndexFunc_ssAtom_sAtom_x1_0 (a4 : Int) (h : AHeap) : St := ⟨[.top, .top, .top, .top, .v (.c (.int .i64 a4)), .top, .top, .top, .top, .top, .top, .top, .top, .top, .top, .top, .top, .top, .top], [], h⟩
def slices_IndexFunc_ssAtom_sAtom_x1_1 (h : AHeap) : St := ⟨[.top, .top, .top, .top, .top, .top, .top, .top, .top, .top, .top, .top, .top, .top, .top, .top, .top, .top, .top], [], h⟩
theorem slices_IndexFunc_ssAtom_sAtom_r1 (C : CallF) (L : LoopF) (G : Glo) (x0 : Cell) (x1 : Cell) (a7 : Int) (a8 : Int) (h : AHeap) :
    slices_IndexFunc_ssAtom_sAtom_F1 C L G (slices_IndexFunc_ssAtom_sAtom_s1 x0 x1 a7 a8 h) =
    if (decide (a8 < a7)) = true then idxSK 1 x0 a8 fun k_2 N_3 o_4 => rdH h k_2 N_3 fun l_5 => atK l_5 o_4 fun q_6 => fnK x1 fun g_7 l_8 => c1 (C g_7 ([(.c q_6)] ++ l_8) h) fun y_10 h_9 => asB y_10 fun b_11 => if b_11 = true then some (.ret, (slices_IndexFunc_ssAtom_sAtom_x1_0 a8 h_9)) else some (.normal, (slices_IndexFunc_ssAtom_sAtom_s1 x0 x1 a7 (G.wrap .i64 (a8 + 1)) h_9)) else some ((.exit 0), (slices_IndexFunc_ssAtom_sAtom_x1_1 h)) := by kernel_rfl
theorem slices_IndexFunc_ssAtom_sAtom_e1_0 (C : CallF) (L : LoopF) (G : Glo) (h0 : AHeap) (a4 : Int) (h : AHeap) :
    (slices_IndexFunc_ssAtom_sAtom_k3 C L G h0) .ret (slices_IndexFunc_ssAtom_sAtom_x1_0 a4 h) =
    some ([(.c (.int .i64 a4))], h) := by kernel_rfl
theorem slices_IndexFunc_ssAtom_sAtom_e1_1 (C : CallF) (L : LoopF) (G : Glo) (h0 : AHeap) (h : AHeap) :
    (slices_IndexFunc_ssAtom_sAtom_k3 C L G h0) (.exit 0) (slices_IndexFunc_ssAtom_sAtom_x1_1 h) =
    some ([(.c (.int .i64 (-1)))], h) := by kernel_rfl
set_option maxRecDepth 100000 in
theorem slices_IndexFunc_ssAtom_sAtom_eq (C : CallF) (L : LoopF) (G : Glo) (x0 : Cell) (x1 : Cell) (h0 : AHeap) :
    slices_IndexFunc_ssAtom_sAtom.body C L G [(.c x0), (.c x1)] h0 =
    lenK x0 fun n_1 => (L (slices_IndexFunc_ssAtom_sAtom_F1 C L G) (slices_IndexFunc_ssAtom_sAtom_s1 x0 x1 n_1 0 h0)).bind fun p_12 => (slices_IndexFunc_ssAtom_sAtom_k3 C L G h0) p_12.1 p_12.2 := by kernel_rfl


end Jq

/- Events: those at the beginning; their order; whether two rows are the same; laws of them. -/
namespace Jq
open Go

def initsE (l : List Int) : List Evt := (List.range l.length).map fun (i : Nat) => ⟨-1, i, 2, i, 0, l.getD i 0⟩

theorem getDI {l : List Int} {i : Nat} (hi : i < l.length) : l[i]? = some (l.getD i 0) := by
  rw [List.getD_eq_getElem?_getD, List.getElem?_eq_getElem hi]; rfl

theorem takeI_succ {α : Type} {l : List α} {i : Nat} {p : α} (h : l[i]? = some p) : l.take (i + 1) = l.take i ++ [p] := by
  rw [List.take_add_one, h]; rfl

def shEv : Sh := .agg (Sh.rep (.i .i64) 6)
section
variable {E : Env}

def evRd (e : Evt) : Bool := e.kind == 1 || e.kind == 4 || e.kind == 5
def evWr (e : Evt) : Bool := e.kind == 2 || e.kind == 4
def evFn (e : Evt) : Bool := e.kind == 3 || e.kind == 4 || e.kind == 5

/-- Is one ahead of another by their threads? -/
def poB (a b : Evt) : Bool := (decide (a.t < 0) && decide (b.t ≥ 0)) || (decide (a.t ≥ 0) && a.t == b.t && decide (a.i < b.i))
def poL (l : List Evt) (a b : Nat) : Bool := poB (l.getD a ⟨0, 0, 0, 0, 0, 0⟩) (l.getD b ⟨0, 0, 0, 0, 0, 0⟩)

end
end Jq

/- Tests in memory; their locations; made ready as the document says. -/
namespace Jq
open Go

structure Atm where
  thread : Int
  reg : Int
  loc : Int
  value : Int
def Atm.cs (a : Atm) : List Cell := [.int .i64 a.thread, .int .i64 a.reg, .int .i64 a.loc, .int .i64 a.value]
def atmC (l : List Atm) : List Cell := l.flatMap Atm.cs
theorem Atm.len (a : Atm) : a.cs.length = 4 := rfl
theorem atmC_at : ∀ (l : List Atm) (i : Nat) (s : Atm), l[i]? = some s → ((atmC l).drop (i * 4)).take 4 = s.cs
  | [], _, _, h => by simp at h
  | q :: l, 0, s, h => by simp at h; subst h; rfl
  | q :: l, i + 1, s, h => by
    have := atmC_at l i s (by simpa using h)
    have e : atmC (q :: l) = q.cs ++ atmC l := rfl
    rw [e, List.drop_append, List.drop_of_length_le (by rw [Atm.len]; omega), List.nil_append, show (i + 1) * 4 - q.cs.length = i * 4 by rw [Atm.len]; omega]
    exact this
theorem atmC_cell {l : List Atm} {i j : Nat} {s : Atm} {c : Cell} (h : l[i]? = some s) (hj : j < 4) (hc : s.cs[j]? = some c) : (atmC l)[i * 4 + j]? = some c := by
  rw [← hc, ← atmC_at l i s h, List.getElem?_take, if_pos hj, List.getElem?_drop]
theorem codeC_cell {l : List Ins} {i j : Nat} {s : Ins} {c : Cell} (h : l[i]? = some s) (hj : j < 9) (hc : s.cs[j]? = some c) : (codeC l)[i * 9 + j]? = some c := by
  rw [← hc, ← codeC_at l i s h, List.getElem?_take, if_pos hj, List.getElem?_drop]

structure PTest where
  name : ByteArray
  inits : List (Int × Int)
  thr : List (List Ins)
  ck : Int
  any : List (List Atm)

/-- Rows that lie there. -/
def RowsOf {α : Type} (esz : Nat) (C : List α → List Cell) (h : AHeap) (x : Cell) (rows : List (List α)) : Prop :=
  ∃ ts, SlAt h x 1 ts rows.length ∧ Low h.length x ∧ ∀ (t : Nat) (r : List α), rows[t]? = some r → ∃ y : Cell, ts[t]? = some y ∧ SlAt h y esz (C r) r.length ∧ Low h.length y

theorem RowsOf.keep {α : Type} {esz : Nat} {C : List α → List Cell} {h h' : AHeap} {x : Cell} {rows : List (List α)} (r : RowsOf esz C h x rows) (hk : Kp h.length h h') : RowsOf esz C h' x rows := by
  obtain ⟨ts, h1, h2, h3⟩ := r
  exact ⟨ts, h1.keep h2 hk, Low_mono hk.1 h2, fun t r hr => by
    obtain ⟨y, y1, y2, y3⟩ := h3 t r hr
    exact ⟨y, y1, y2.keep y3 hk, Low_mono hk.1 y3⟩⟩

theorem RowsOf.get {α β : Type} {esz : Nat} {C : List α → List Cell} {h : AHeap} {x : Cell} {rows : List (List α)} (r : RowsOf esz C h x rows) {t : Nat} {row : List α} (ht : rows[t]? = some row) :
    ∃ y, SlAt h y esz (C row) row.length ∧ Low h.length y ∧ ∀ (f : Cell → Option β), (idxSK 1 x (t : Int) fun k N o => rdH h k N fun l => atK l o f) = f y := by
  obtain ⟨ts, h1, h2, h3⟩ := r
  obtain ⟨y, y1, y2, y3⟩ := h3 t row ht
  exact ⟨y, y2, y3, fun f => h1.get1 (getI_lt ht) y1⟩

theorem RowsOf.len {α β : Type} {esz : Nat} {C : List α → List Cell} {h : AHeap} {x : Cell} {rows : List (List α)} (r : RowsOf esz C h x rows) {f : Int → Option β} : lenK x f = f rows.length := by
  obtain ⟨ts, h1, _⟩ := r; exact h1.len

/-- A test lies there. -/
def TestAt (h : AHeap) (cs : List Cell) (T : PTest) : Prop :=
  ∃ a b c, cs = [.str T.name, a, b, .int .i64 T.ck, c] ∧ (SlAt h a 2 (pairC T.inits) T.inits.length ∧ Low h.length a) ∧ RowsOf 9 codeC h b T.thr ∧ RowsOf 4 atmC h c T.any

theorem TestAt.keep {h h' : AHeap} {cs : List Cell} {T : PTest} (p : TestAt h cs T) (hk : Kp h.length h h') : TestAt h' cs T := by
  obtain ⟨a, b, c, e, ⟨a1, a2⟩, hb, hc⟩ := p
  exact ⟨a, b, c, e, ⟨a1.keep a2 hk, Low_mono hk.1 a2⟩, hb.keep hk, hc.keep hk⟩

theorem TestAt.len {h : AHeap} {cs : List Cell} {T : PTest} (p : TestAt h cs T) : cs.length = 5 := by
  obtain ⟨a, b, c, rfl, _⟩ := p; rfl

/-- Nothing of a test is long. -/
structure PTest.small (T : PTest) : Prop where
  inits : T.inits.length ≤ 1000
  thr : T.thr.length ≤ 1000
  code : ∀ c ∈ T.thr, c.length ≤ 1000
  any : T.any.length ≤ 1000
  row : ∀ c ∈ T.any, c.length ≤ 1000

/-- Is a letter named? -/
def thereT (T : PTest) (b : Nat) : Bool := (T.inits.any fun p => p.1 % 256 == (b : Int)) || (T.thr.any fun c => c.any fun i => i.loc % 256 == (b : Int)) || (T.any.any fun c => c.any fun a => a.loc % 256 == (b : Int))

/-- The locations, in order. -/
def locsF (S : Nat → Bool) (n : Nat) : List Int := ((List.range n).filter fun c => S (97 + c)).map fun (c : Nat) => ((97 + c : Nat) : Int)
def locsT (T : PTest) : List Int := locsF (thereT T) 26

theorem locsF_succ (S : Nat → Bool) (n : Nat) : locsF S (n + 1) = if S (97 + n) = true then locsF S n ++ [((97 + n : Nat) : Int)] else locsF S n := by
  unfold locsF
  rw [List.range_succ, List.filter_append, List.filter_cons, List.filter_nil]
  split <;> simp

theorem locsF_len (S : Nat → Bool) : ∀ n, (locsF S n).length ≤ n
  | 0 => by simp [locsF]
  | n + 1 => by
    have := locsF_len S n
    rw [locsF_succ]; split
    · rw [List.length_append, List.length_singleton]; omega
    · omega

theorem locsF_mem {S : Nat → Bool} {n : Nat} {x : Int} : x ∈ locsF S n ↔ ∃ c, c < n ∧ S (97 + c) = true ∧ x = ((97 + c : Nat) : Int) := by
  unfold locsF
  rw [List.mem_map]
  constructor
  · rintro ⟨c, hc, rfl⟩
    rw [List.mem_filter] at hc
    exact ⟨c, by simpa using hc.1, hc.2, rfl⟩
  · rintro ⟨c, h1, h2, rfl⟩
    exact ⟨c, by rw [List.mem_filter]; exact ⟨by simpa using h1, h2⟩, rfl⟩

theorem boolL_congr {s t : Nat → Bool} {n : Nat} (h : ∀ i, i < n → s i = t i) : boolL s n = boolL t n := List.map_congr_left fun i hi => by rw [h i (by simpa using hi)]

theorem mark_next {S S' : Nat → Bool} {v : Int} (h : ∀ b : Nat, b < 256 → S' b = (S b || (v % 256 == (b : Int)))) :
    (boolL S 256).set (0 + (v % 256).toNat * 1) (.bool true) = boolL S' 256 := by
  rw [show 0 + (v % 256).toNat * 1 = (v % 256).toNat by omega, boolL_set]
  refine boolL_congr fun i hi => ?_
  rw [h i hi]
  by_cases e : i = (v % 256).toNat
  · rw [if_pos e, show (v % 256 == (i : Int)) = true by rw [beq_iff_eq]; omega, Bool.or_true]
  · rw [if_neg e, show (v % 256 == (i : Int)) = false by rw [beq_eq_false_iff_ne]; omega, Bool.or_false]

theorem any_take_succ {α : Type} {l : List α} {i : Nat} {p : α} (h : l[i]? = some p) (f : α → Bool) : (l.take (i + 1)).any f = ((l.take i).any f || f p) := by
  rw [takeI_succ h, List.any_append]; simp

section
variable {E : Env}

theorem refLocs_R (hE : jacquardref2_Locs_In E) {cs : List Cell} {T : PTest} {h : AHeap} (p : TestAt h cs T) (hs : T.small) :
    ∃ y h', R E 121 [.agg cs] h = some ([.c y], h') ∧ Own h.length h' y 1 (intC .u8 (locsT T)) (locsT T).length ∧ Kp h.length h h' := by
  obtain ⟨a, b, c, rfl, ⟨ha, hal⟩, hb, hc⟩ := p
  have a1 : ∀ {α : Type} (f : Cell → Option α), atK [.str T.name, a, b, .int .i64 T.ck, c] 1 f = f a := fun _ => rfl
  have a2 : ∀ {α : Type} (f : Cell → Option α), atK [.str T.name, a, b, .int .i64 T.ck, c] 2 f = f b := fun _ => rfl
  have a4 : ∀ {α : Type} (f : Cell → Option α), atK [.str T.name, a, b, .int .i64 T.ck, c] 4 f = f c := fun _ => rfl
  have w : ∀ v : Int, 0 ≤ v % 256 ∧ v % 256 < ((256 : Nat) : Int) := fun v => by omega
  have w2 : ∀ (v : Int) (S : Nat → Bool), 0 + Int.toNat (v % 256) * 1 < (boolL S 256).length := fun v S => by rw [boolL_len]; omega
  have loop1 : Lim (jacquardref2_Locs_F1 (R E) Lim E.glob) (jacquardref2_Locs_s1 ((0 : Nat) : Int) [.str T.name, a, b, .int .i64 T.ck, c] (boolL (fun q => (T.inits.take 0).any fun p => p.1 % 256 == (q : Int)) 256) h) = some (.exit 0, jacquardref2_Locs_x1_1 [.str T.name, a, b, .int .i64 T.ck, c] (boolL (fun q => (T.inits.take T.inits.length).any fun p => p.1 % 256 == (q : Int)) 256) h) := by
    refine Lim_count (fun i => jacquardref2_Locs_s1 (i : Int) [.str T.name, a, b, .int .i64 T.ck, c] (boolL (fun q => (T.inits.take i).any fun p => p.1 % 256 == (q : Int)) 256) h) 0 T.inits.length (by omega) (fun i _ hi => ?_) (Lim_exit ?_)
    · have hq : T.inits[i]? = some T.inits[i] := List.getElem?_eq_getElem hi
      generalize T.inits[i] = q at hq
      have := hs.inits
      rw [jacquardref2_Locs_r1, a1, ha.len, if_pos (by simp; omega), a1, ha.get hi (by omega) (pairC_get _ _ _ hq).1, asI_ok, g_band255, if_pos (w _), if_pos (w2 _ _), g_succ (by omega), mark_next (S' := fun r => (T.inits.take (i + 1)).any fun p => p.1 % 256 == (r : Int)) (fun r _ => any_take_succ hq _)]
    · rw [jacquardref2_Locs_r1, a1, ha.len, if_neg (by simp)]
  rw [List.take_length] at loop1
  generalize hS1 : (fun q : Nat => T.inits.any fun p => p.1 % 256 == (q : Int)) = S1 at loop1
  have loop2 : ∀ (t : Nat) (code : List Ins) (S : Nat → Bool), T.thr[t]? = some code → Lim (jacquardref2_Locs_F2 (R E) Lim E.glob) (jacquardref2_Locs_s2 (t : Int) ((0 : Nat) : Int) [.str T.name, a, b, .int .i64 T.ck, c] (boolL (fun q => S q || (code.take 0).any fun i => i.loc % 256 == (q : Int)) 256) h) = some (.exit 4, jacquardref2_Locs_x2_5 (t : Int) [.str T.name, a, b, .int .i64 T.ck, c] (boolL (fun q => S q || (code.take code.length).any fun i => i.loc % 256 == (q : Int)) 256) h) := by
    intro t code S ht
    obtain ⟨y, y1, y2, y3⟩ := hb.get (β := Ex × St) ht
    refine Lim_count (fun i => jacquardref2_Locs_s2 (t : Int) (i : Int) [.str T.name, a, b, .int .i64 T.ck, c] (boolL (fun q => S q || (code.take i).any fun i => i.loc % 256 == (q : Int)) 256) h) 0 code.length (by omega) (fun i _ hi => ?_) (Lim_exit ?_)
    · have hq : code[i]? = some code[i] := List.getElem?_eq_getElem hi
      generalize code[i] = q at hq
      have := hs.code code (List.mem_of_getElem? ht)
      rw [jacquardref2_Locs_r2, a2, y3, y1.len, if_pos (by simp; omega), a2, y3, y1.get hi (by omega) (codeC_cell hq (by omega) (c := .int .i64 q.loc) rfl), asI_ok, g_band255, if_pos (w _), if_pos (w2 _ _), g_succ (by omega), mark_next (S' := fun r => S r || (code.take (i + 1)).any fun i => i.loc % 256 == (r : Int)) (fun r _ => by rw [any_take_succ hq, Bool.or_assoc])]
    · rw [jacquardref2_Locs_r2, a2, y3, y1.len, if_neg (by simp)]
  have loop3 : Lim (jacquardref2_Locs_F3 (R E) Lim E.glob) (jacquardref2_Locs_s3 ((0 : Nat) : Int) [.str T.name, a, b, .int .i64 T.ck, c] (boolL (fun q => S1 q || (T.thr.take 0).any fun c => c.any fun i => i.loc % 256 == (q : Int)) 256) h) = some (.exit 2, jacquardref2_Locs_x3_3 [.str T.name, a, b, .int .i64 T.ck, c] (boolL (fun q => S1 q || (T.thr.take T.thr.length).any fun c => c.any fun i => i.loc % 256 == (q : Int)) 256) h) := by
    refine Lim_count (fun t => jacquardref2_Locs_s3 (t : Int) [.str T.name, a, b, .int .i64 T.ck, c] (boolL (fun q => S1 q || (T.thr.take t).any fun c => c.any fun i => i.loc % 256 == (q : Int)) 256) h) 0 T.thr.length (by omega) (fun t _ ht => ?_) (Lim_exit ?_)
    · have hq : T.thr[t]? = some T.thr[t] := List.getElem?_eq_getElem ht
      generalize T.thr[t] = code at hq
      have := hs.thr
      have l2 := loop2 t code (fun q => S1 q || (T.thr.take t).any fun c => c.any fun i => i.loc % 256 == (q : Int)) hq
      rw [List.take_length, show ((0 : Nat) : Int) = 0 from rfl] at l2
      have e0 : boolL (fun q => (S1 q || (T.thr.take t).any fun c => c.any fun i => i.loc % 256 == (q : Int)) || (code.take 0).any fun i => i.loc % 256 == (q : Int)) 256 = boolL (fun q => S1 q || (T.thr.take t).any fun c => c.any fun i => i.loc % 256 == (q : Int)) 256 := boolL_congr fun q _ => by simp
      rw [e0] at l2
      rw [jacquardref2_Locs_r3, a2, hb.len, if_pos (by simp; omega), l2, bind_ok, jacquardref2_Locs_e2_5, g_succ (by omega)]
      congr 3
      exact boolL_congr fun q _ => by rw [any_take_succ hq, Bool.or_assoc]
    · rw [jacquardref2_Locs_r3, a2, hb.len, if_neg (by simp)]
  rw [List.take_length] at loop3
  have e3 : boolL (fun q => S1 q || (T.thr.take 0).any fun c => c.any fun i => i.loc % 256 == (q : Int)) 256 = boolL S1 256 := boolL_congr fun q _ => by simp
  rw [e3, show ((0 : Nat) : Int) = 0 from rfl] at loop3
  generalize hS2 : (fun q : Nat => S1 q || T.thr.any fun c => c.any fun i => i.loc % 256 == (q : Int)) = S2 at loop3
  have loop4 : ∀ (t : Nat) (row : List Atm) (S : Nat → Bool), T.any[t]? = some row → Lim (jacquardref2_Locs_F4 (R E) Lim E.glob) (jacquardref2_Locs_s4 (t : Int) ((0 : Nat) : Int) [.str T.name, a, b, .int .i64 T.ck, c] (boolL (fun q => S q || (row.take 0).any fun i => i.loc % 256 == (q : Int)) 256) h) = some (.exit 8, jacquardref2_Locs_x4_9 (t : Int) [.str T.name, a, b, .int .i64 T.ck, c] (boolL (fun q => S q || (row.take row.length).any fun i => i.loc % 256 == (q : Int)) 256) h) := by
    intro t row S ht
    obtain ⟨y, y1, y2, y3⟩ := hc.get (β := Ex × St) ht
    refine Lim_count (fun i => jacquardref2_Locs_s4 (t : Int) (i : Int) [.str T.name, a, b, .int .i64 T.ck, c] (boolL (fun q => S q || (row.take i).any fun i => i.loc % 256 == (q : Int)) 256) h) 0 row.length (by omega) (fun i _ hi => ?_) (Lim_exit ?_)
    · have hq : row[i]? = some row[i] := List.getElem?_eq_getElem hi
      generalize row[i] = q at hq
      have := hs.row row (List.mem_of_getElem? ht)
      rw [jacquardref2_Locs_r4, a4, y3, y1.len, if_pos (by simp; omega), a4, y3, y1.get hi (by omega) (atmC_cell hq (by omega) (c := .int .i64 q.loc) rfl), asI_ok, g_band255, if_pos (w _), if_pos (w2 _ _), g_succ (by omega), mark_next (S' := fun r => S r || (row.take (i + 1)).any fun i => i.loc % 256 == (r : Int)) (fun r _ => by rw [any_take_succ hq, Bool.or_assoc])]
    · rw [jacquardref2_Locs_r4, a4, y3, y1.len, if_neg (by simp)]
  have loop5 : Lim (jacquardref2_Locs_F5 (R E) Lim E.glob) (jacquardref2_Locs_s5 ((0 : Nat) : Int) [.str T.name, a, b, .int .i64 T.ck, c] (boolL (fun q => S2 q || (T.any.take 0).any fun c => c.any fun i => i.loc % 256 == (q : Int)) 256) h) = some (.exit 6, jacquardref2_Locs_x5_7 (boolL (fun q => S2 q || (T.any.take T.any.length).any fun c => c.any fun i => i.loc % 256 == (q : Int)) 256) h) := by
    refine Lim_count (fun t => jacquardref2_Locs_s5 (t : Int) [.str T.name, a, b, .int .i64 T.ck, c] (boolL (fun q => S2 q || (T.any.take t).any fun c => c.any fun i => i.loc % 256 == (q : Int)) 256) h) 0 T.any.length (by omega) (fun t _ ht => ?_) (Lim_exit ?_)
    · have hq : T.any[t]? = some T.any[t] := List.getElem?_eq_getElem ht
      generalize T.any[t] = row at hq
      have := hs.any
      have l2 := loop4 t row (fun q => S2 q || (T.any.take t).any fun c => c.any fun i => i.loc % 256 == (q : Int)) hq
      rw [List.take_length, show ((0 : Nat) : Int) = 0 from rfl] at l2
      have e0 : boolL (fun q => (S2 q || (T.any.take t).any fun c => c.any fun i => i.loc % 256 == (q : Int)) || (row.take 0).any fun i => i.loc % 256 == (q : Int)) 256 = boolL (fun q => S2 q || (T.any.take t).any fun c => c.any fun i => i.loc % 256 == (q : Int)) 256 := boolL_congr fun q _ => by simp
      rw [e0] at l2
      rw [jacquardref2_Locs_r5, a4, hc.len, if_pos (by simp; omega), l2, bind_ok, jacquardref2_Locs_e4_9, g_succ (by omega)]
      congr 3
      exact boolL_congr fun q _ => by rw [any_take_succ hq, Bool.or_assoc]
    · rw [jacquardref2_Locs_r5, a4, hc.len, if_neg (by simp)]
  rw [List.take_length] at loop5
  have e5 : boolL (fun q => S2 q || (T.any.take 0).any fun c => c.any fun i => i.loc % 256 == (q : Int)) 256 = boolL S2 256 := boolL_congr fun q _ => by simp
  rw [e5, show ((0 : Nat) : Int) = 0 from rfl] at loop5
  have hS3 : (fun q : Nat => S2 q || T.any.any fun c => c.any fun i => i.loc % 256 == (q : Int)) = thereT T := by
    funext q; rw [← hS2, ← hS1]; rfl
  rw [hS3] at loop5
  have hm : maxBytes ≥ 100 := by unfold maxBytes; omega
  obtain ⟨st, ⟨y, h1, rfl, hy, hk⟩, hL⟩ := Lim_inv (F := jacquardref2_Locs_F6 (R E) Lim E.glob) (fun i st => ∃ y h1, st = jacquardref2_Locs_s6 y ((97 + i : Nat) : Int) (boolL (thereT T) 256) h1 ∧ Own h.length h1 y 1 (intC .u8 (locsF (thereT T) i)) (locsF (thereT T) i).length ∧ Kp h.length h h1) 0 26 (by omega)
    (fun i st _ hi => by
      rintro ⟨y, h1, rfl, hy, hk⟩
      have hlen := locsF_len (thereT T) i
      have hw : E.glob.wrap .i32 (((97 + i : Nat) : Int) + 1) = ((97 + (i + 1) : Nat) : Int) := by
        show IntKind.wrap .i32 _ = _
        simp only [IntKind.wrap, IntKind.signed, IntKind.bits, Bool.true_and]
        split
        · rename_i hh; have hh := of_decide_eq_true hh; omega
        · omega
      have hw8 : E.glob.wrap .u8 ((97 + i : Nat) : Int) = ((97 + i : Nat) : Int) := by
        show IntKind.wrap .u8 _ = _
        simp only [IntKind.wrap, IntKind.signed, IntKind.bits, Bool.false_and, Bool.false_eq_true, if_false]; omega
      have hrd : jacquardref2_Locs_F6 (R E) Lim E.glob (jacquardref2_Locs_s6 y ((97 + i : Nat) : Int) (boolL (thereT T) 256) h1) = if thereT T (97 + i) = true then appK 1 1 y [.int .u8 ((97 + i : Nat) : Int)] h1 fun x h' => some (.normal, jacquardref2_Locs_s6 x ((97 + (i + 1) : Nat) : Int) (boolL (thereT T) 256) h') else some (.normal, jacquardref2_Locs_s6 y ((97 + (i + 1) : Nat) : Int) (boolL (thereT T) 256) h1) := by
        rw [jacquardref2_Locs_r6, if_pos (by simp; omega), if_pos ⟨by omega, by omega⟩, show 0 + Int.toNat ((97 + i : Nat) : Int) * 1 = 97 + i by omega, atK_ok (boolL_get (show 97 + i < 256 by omega)), asB_ok, hw, hw8]
        rfl
      rw [hrd]
      by_cases ht : thereT T (97 + i) = true
      · obtain ⟨y2, h2, hap, hy2, hk2, _⟩ := hy.app (bytes := 1) (xs := [.int .u8 ((97 + i : Nat) : Int)]) hk.1 rfl (by omega) (by omega) (by omega)
        refine ⟨_, by rw [if_pos ht, hap], y2, h2, rfl, ?_, hk.trans hk2⟩
        rw [locsF_succ, if_pos ht, intC_snoc, List.length_append, List.length_singleton]; exact hy2
      · refine ⟨_, by rw [if_neg ht], y, h1, rfl, ?_, hk⟩
        rw [locsF_succ, if_neg ht]; exact hy) (st := jacquardref2_Locs_s6 .nils ((97 + 0 : Nat) : Int) (boolL (thereT T) 256) h) ⟨.nils, h, rfl, Own.nil _ _ _, Kp.refl _ _⟩
  have hfin : jacquardref2_Locs_F6 (R E) Lim E.glob (jacquardref2_Locs_s6 y ((97 + 26 : Nat) : Int) (boolL (thereT T) 256) h1) = some (.exit 10, jacquardref2_Locs_x6_11 y h1) := by
    rw [jacquardref2_Locs_r6, if_neg (by simp)]
  have hr := hL _ (Lim_exit hfin)
  refine ⟨y, h1, R_intro hE.fn ?_, hy, hk⟩
  have e1 : boolL (fun q => (T.inits.take 0).any fun p => p.1 % 256 == (q : Int)) 256 = List.replicate 256 (Cell.bool false) := by rw [boolL_false]; exact boolL_congr fun q _ => by simp
  rw [e1, show ((0 : Nat) : Int) = 0 from rfl] at loop1
  rw [jacquardref2_Locs_eq, loop1, bind_ok, jacquardref2_Locs_e1_1, loop3, bind_ok, jacquardref2_Locs_e3_3, loop5, bind_ok, jacquardref2_Locs_e5_7, show (97 : Int) = ((97 + 0 : Nat) : Int) from rfl, hr, bind_ok, jacquardref2_Locs_e6_11]

end
end Jq

/- A test made ready as the document says. -/
namespace Jq
open Go

theorem Own.keepK {n : Nat} {h h' : AHeap} {x : Cell} {esz len : Nat} {cs : List Cell} (o : Own n h x esz cs len) (hk : Kp h.length h h') : Own n h' x esz cs len := by
  refine ⟨o.1, o.2.imp id ?_⟩
  rintro ⟨k, e, hn, hb⟩
  exact ⟨k, e, hn, by rw [hk.blk (blk_lt' hb)]; exact hb⟩
theorem Own.monoN {n m : Nat} (hm : m ≤ n) {h : AHeap} {x : Cell} {esz len : Nat} {cs : List Cell} (o : Own n h x esz cs len) : Own m h x esz cs len :=
  ⟨o.1, o.2.imp id fun ⟨k, e, hn, hb⟩ => ⟨k, e, by omega, hb⟩⟩
theorem Own.blkLt {n : Nat} {h : AHeap} {x : Cell} {esz len : Nat} {cs : List Cell} (o : Own n h x esz cs len) {k : Nat} (hk : isBlk x k) : k < h.length ∧ n ≤ k := by
  rcases o.2 with ⟨rfl, _⟩ | ⟨j, rfl, hn, hb⟩
  · cases hk
  · have : j = k := hk
    subst this; exact ⟨blk_lt' hb, hn⟩

/-- Rows of the call's own, each in a block of its own. -/
def RowsOwn {α : Type} (esz : Nat) (C : List α → List Cell) (n : Nat) (h : AHeap) (y : Cell) (rows : List (List α)) : Prop :=
  ∃ ts, Own n h y 1 ts rows.length ∧ ∀ (t : Nat) (r : List α), rows[t]? = some r → ∃ x : Cell, ts[t]? = some x ∧ Own n h x esz (C r) r.length ∧ ∀ k, isBlk x k → ¬ isBlk y k

section rows
variable {α : Type} {esz : Nat} {C : List α → List Cell} {n : Nat}

theorem RowsOwn.nil (h : AHeap) : RowsOwn esz C n h .nils ([] : List (List α)) := ⟨[], Own.nil _ _ _, fun t r hr => by simp at hr⟩

theorem RowsOwn.keep {h h' : AHeap} {y : Cell} {rows : List (List α)} (r : RowsOwn esz C n h y rows) (hk : Kp h.length h h') : RowsOwn esz C n h' y rows := by
  obtain ⟨ts, h1, h2⟩ := r
  exact ⟨ts, h1.keepK hk, fun t r hr => by obtain ⟨x, x1, x2, x3⟩ := h2 t r hr; exact ⟨x, x1, x2.keepK hk, x3⟩⟩

theorem RowsOwn.blkLt {h : AHeap} {y : Cell} {rows : List (List α)} (r : RowsOwn esz C n h y rows) {k : Nat} (hk : isBlk y k) : k < h.length ∧ n ≤ k := by
  obtain ⟨ts, h1, _⟩ := r; exact h1.blkLt hk

theorem RowsOwn.of {h : AHeap} {y : Cell} {rows : List (List α)} (r : RowsOwn esz C n h y rows) : RowsOf esz C h y rows := by
  obtain ⟨ts, h1, h2⟩ := r
  exact ⟨ts, h1.at, h1.low, fun t r hr => by obtain ⟨x, x1, x2, _⟩ := h2 t r hr; exact ⟨x, x1, x2.at, x2.low⟩⟩

theorem RowsOwn.push {h : AHeap} {y x : Cell} {rows : List (List α)} {r : List α} (w : RowsOwn esz C n h y rows) (hx : Own n h x esz (C r) r.length) (hd : ∀ k, isBlk x k → ¬ isBlk y k) (hn : n ≤ h.length) (hl : rows.length ≤ 2000) :
    ∃ y' h', (∀ {β : Type} (f : Cell → AHeap → Option β), appK 1 24 y [x] h f = f y' h') ∧ RowsOwn esz C n h' y' (rows ++ [r]) ∧ Kp n h h' ∧ ∀ j b, blk? h j = some b → ¬ isBlk y j → blk? h' j = some b ∧ ¬ isBlk y' j := by
  have hm : maxBytes ≥ 2001 * 24 := by unfold maxBytes; omega
  obtain ⟨ts, h1, h2⟩ := w
  obtain ⟨y', h', ha, ho, hk, hf⟩ := h1.app (bytes := 24) (xs := [x]) hn rfl (by omega) (by omega) (by omega)
  have mv : ∀ {z : Cell} {cs : List Cell} {len : Nat}, Own n h z esz cs len → (∀ k, isBlk z k → ¬ isBlk y k) → Own n h' z esz cs len ∧ ∀ k, isBlk z k → ¬ isBlk y' k := by
    intro z cs len oz dz
    rcases oz.2 with e | ⟨k, e, hnk, hb⟩
    · refine ⟨⟨oz.1, .inl e⟩, fun k hk => ?_⟩
      rw [e.1] at hk; cases hk
    · have hik : isBlk z k := by rw [e]; rfl
      obtain ⟨b1, b2⟩ := hf k _ hb (dz k hik)
      refine ⟨⟨oz.1, .inr ⟨k, e, hnk, b1⟩⟩, fun j hj => ?_⟩
      rw [e] at hj
      have : k = j := hj
      subst this; exact b2
  refine ⟨y', h', ha, ⟨ts ++ [x], by rw [List.length_append, List.length_singleton]; exact ho, fun t r' hr => ?_⟩, hk, hf⟩
  have hts : ts.length = rows.length := by have := h1.1; omega
  by_cases ht : t < rows.length
  · rw [List.getElem?_append_left ht] at hr
    obtain ⟨z, z1, z2, z3⟩ := h2 t r' hr
    obtain ⟨w1, w2⟩ := mv z2 z3
    exact ⟨z, by rw [List.getElem?_append_left (by omega)]; exact z1, w1, w2⟩
  · rw [List.getElem?_append_right (by omega)] at hr
    have h0 : t - rows.length = 0 := by
      rcases Nat.eq_zero_or_pos (t - rows.length) with e | e
      · exact e
      · rw [List.getElem?_eq_none (by simp; omega)] at hr; cases hr
    rw [h0] at hr
    obtain rfl : r = r' := by simpa using hr
    obtain ⟨w1, w2⟩ := mv hx hd
    exact ⟨x, by rw [List.getElem?_append_right (by omega), show t - ts.length = 0 by omega]; rfl, w1, w2⟩
end rows

/-- Where a letter stands. -/
def plc : List Int → Int → Nat → Int
  | [], _, _ => -1
  | c :: t, x, i => if c = x then i else plc t x (i + 1)

def initV (l : List (Int × Int)) (c : Int) : Int := l.foldl (fun v p => if p.1 = c then p.2 else v) 0
def compI (locs : List Int) (i : Ins) : Ins := if i.loc ≠ 0 then { i with loc := plc locs i.loc 0 } else i
def compT (T : PTest) : PProg := ⟨locsT T, (locsT T).map (initV T.inits), T.thr.map fun c => c.map (compI (locsT T))⟩

theorem locsT_u8 {T : PTest} {x : Int} (h : x ∈ locsT T) : 97 ≤ x ∧ x ≤ 122 := by
  obtain ⟨c, h1, _, rfl⟩ := locsF_mem.1 h
  omega

section
variable {E : Env}

theorem Place_R (hE : jacquardref6_Place_In E) {a b c : Cell} {locs : List Int} {h : AHeap} (ha : SlAt h a 1 (intC .u8 locs) locs.length) (hu : ∀ x ∈ locs, 97 ≤ x ∧ x ≤ 122) (hl : locs.length ≤ 100) (x : Int) :
    R E 122 [.agg [a, b, c], .c (.int .i64 x)] h = some ([.c (.int .i64 (plc locs x 0))], h) := by
  refine R_intro hE.fn ?_
  have a0 : ∀ {α : Type} (f : Cell → Option α), atK [a, b, c] 0 f = f a := fun _ => rfl
  have key : ∀ (t : List Int) (i : Nat), locs.drop i = t → (Lim (jacquardref6_Place_F1 (R E) Lim E.glob) (jacquardref6_Place_s1 x (i : Int) [a, b, c] h)).bind (fun p => jacquardref6_Place_k3 (R E) Lim E.glob h p.1 p.2) = some ([.c (.int .i64 (plc t x i))], h) := by
    intro t
    induction t with
    | nil =>
      intro i hd
      have hi : locs.length ≤ i := by
        have := congrArg List.length hd
        simp at this; omega
      have hr : jacquardref6_Place_F1 (R E) Lim E.glob (jacquardref6_Place_s1 x (i : Int) [a, b, c] h) = some (.exit 0, jacquardref6_Place_x1_1 h) := by
        rw [jacquardref6_Place_r1, a0, ha.len, if_neg (by simp; omega)]
      rw [Lim_exit hr, bind_ok, jacquardref6_Place_e1_1]; rfl
    | cons v t ih =>
      intro i hd
      have hi : i < locs.length := by
        have := congrArg List.length hd
        simp at this; omega
      have hv : locs[i]? = some v := by
        have := congrArg (fun z => z[0]?) hd
        simpa [List.getElem?_drop] using this
      have hd2 : locs.drop (i + 1) = t := by
        have := congrArg (List.drop 1) hd
        simpa [List.drop_drop] using this
      have huv := hu v (List.mem_of_getElem? hv)
      have hr : jacquardref6_Place_F1 (R E) Lim E.glob (jacquardref6_Place_s1 x (i : Int) [a, b, c] h) = if (v == x) = true then some (.ret, jacquardref6_Place_x1_0 i h) else some (.normal, jacquardref6_Place_s1 x ((i + 1 : Nat) : Int) [a, b, c] h) := by
        rw [jacquardref6_Place_r1, a0, ha.len, if_pos (by simp; omega), a0, ha.get1 hi (intC_get hv), asI_ok, g_wrap_i64 (by omega) (by omega), g_succ (by omega)]
      rw [plc]
      by_cases hvx : v = x
      · rw [if_pos (by rw [hvx]; exact beq_self_eq_true _)] at hr
        rw [Lim_ret hr, bind_ok, jacquardref6_Place_e1_0, if_pos hvx]
      · rw [if_neg (by rw [beq_iff_eq]; exact hvx)] at hr
        rw [if_neg hvx]
        have := ih (i + 1) hd2
        cases hL : Lim (jacquardref6_Place_F1 (R E) Lim E.glob) (jacquardref6_Place_s1 x ((i + 1 : Nat) : Int) [a, b, c] h) with
        | none => rw [hL] at this; cases this
        | some p => rw [Lim_next hr hL]; rw [hL] at this; exact this
  rw [jacquardref6_Place_eq]
  exact key locs 0 rfl

theorem ins_setloc {i : Ins} {v : Int} : i.cs.set 2 (.int .i64 v) = ({ i with loc := v } : Ins).cs := rfl
theorem ins_splice {i : Ins} : splice (List.replicate 9 (Cell.int .i64 0)) 0 i.cs = i.cs := rfl
theorem ins_len19 (i : Ins) : i.cs.length = 1 * 9 := rfl

theorem initV_snoc (l : List (Int × Int)) (p : Int × Int) (c : Int) : initV (l ++ [p]) c = if p.1 = c then p.2 else initV l c := by
  unfold initV; rw [List.foldl_append]; rfl

theorem refCompile_R (hE : jacquardref6_Compile_In E) {cs : List Cell} {T : PTest} {h : AHeap} (p : TestAt h cs T) (hs : T.small) :
    ∃ cs' h', R E 101 [.agg cs] h = some ([.agg cs'], h') ∧ ProgAt h' cs' (compT T) ∧ Kp h.length h h' := by
  obtain ⟨a, h1, hr1, ha, hk1⟩ := refLocs_R hE.c121 p hs
  have hll : (locsT T).length ≤ 26 := locsF_len _ _
  have hu := fun x (hx : x ∈ locsT T) => locsT_u8 hx
  have p1 := p.keep hk1
  have hlen := p.len
  obtain ⟨ta, tb, tc, hcs, ⟨hta, htal⟩, htb, htc⟩ := p1
  have t1 : ∀ {α : Type} (f : Cell → Option α), atK cs 1 f = f ta := fun f => by rw [hcs]; rfl
  have t2 : ∀ {α : Type} (f : Cell → Option α), atK cs 2 f = f tb := fun f => by rw [hcs]; rfl
  have hat := ha.at
  have hal := ha.low
  have hm : maxBytes ≥ 2000 * 72 := by unfold maxBytes; omega
  have pu : ∀ (x y z : Cell), ([x, y, z] : List Cell).length = 3 := fun _ _ _ => rfl
  -- what locations begin with
  have inner1 : ∀ (i : Nat) (b : Cell) (h2 : AHeap) (v : Int) (z : List Cell), (locsT T)[i]? = some v → Kp h1.length h1 h2 →
      Lim (jacquardref6_Compile_F1 (R E) Lim E.glob) (jacquardref6_Compile_s1 (i : Int) 0 ((0 : Nat) : Int) cs z [a, b, .nils] h2) = some (.exit 2, jacquardref6_Compile_x1_3 (i : Int) (initV T.inits v) cs z [a, b, .nils] h2) := by
    intro i b h2 v z hv hk
    have h0 : (0 : Int) = initV (T.inits.take 0) v := rfl
    have he : initV T.inits v = initV (T.inits.take T.inits.length) v := by rw [List.take_length]
    rw [he]
    rw [show jacquardref6_Compile_s1 (i : Int) 0 ((0 : Nat) : Int) cs z [a, b, .nils] h2 = jacquardref6_Compile_s1 (i : Int) (initV (T.inits.take 0) v) ((0 : Nat) : Int) cs z [a, b, .nils] h2 from rfl]
    have huv := hu v (List.mem_of_getElem? hv)
    refine Lim_count (fun k => jacquardref6_Compile_s1 (i : Int) (initV (T.inits.take k) v) (k : Int) cs z [a, b, .nils] h2) 0 T.inits.length (by omega) (fun k _ hkk => ?_) (Lim_exit ?_)
    · have hq : T.inits[k]? = some T.inits[k] := List.getElem?_eq_getElem hkk
      generalize T.inits[k] = q at hq
      have := hs.inits
      have hta2 := hta.keep htal hk
      rw [jacquardref6_Compile_r1, t1, hta2.len, if_pos (by simp; omega), t1, hta2.get hkk (by omega) (pairC_get _ _ _ hq).1, asI_ok, show ∀ {α : Type} (f : Cell → Option α), atK [a, b, Cell.nils] 0 f = f a from fun _ => rfl, (hat.keep hal hk).get1 (getI_lt hv) (intC_get hv), asI_ok, g_wrap_i64 (by omega) (by omega), takeI_succ hq, initV_snoc]
      by_cases hqv : q.1 = v
      · rw [if_pos (by rw [hqv]; exact beq_self_eq_true _), if_pos hqv, t1, hta2.get hkk (by omega) (pairC_get _ _ _ hq).2, asI_ok, g_succ (by omega)]
      · rw [if_neg (by rw [beq_iff_eq]; exact hqv), if_neg hqv, g_succ (by omega)]
    · have hta2 := hta.keep htal hk
      rw [jacquardref6_Compile_r1, t1, hta2.len, if_neg (by simp)]
  obtain ⟨st, ⟨b, h2, rfl, hb, hk2⟩, hL2⟩ := Lim_inv (F := jacquardref6_Compile_F2 (R E) Lim E.glob) (fun i st => ∃ b h2, st = jacquardref6_Compile_s2 (i : Int) cs [Cell.nils, Cell.nils, Cell.nils] [a, b, .nils] h2 ∧ Own h1.length h2 b 1 (intC .i64 (((locsT T).map (initV T.inits)).take i)) i ∧ Kp h1.length h1 h2) 0 (locsT T).length (by omega)
    (fun i st _ hi => by
      rintro ⟨b, h2, rfl, hb, hk⟩
      have hv : (locsT T)[i]? = some (locsT T)[i] := List.getElem?_eq_getElem hi
      generalize (locsT T)[i] = v at hv
      have hin := inner1 i b h2 v [Cell.nils, Cell.nils, Cell.nils] hv hk
      rw [show ((0 : Nat) : Int) = 0 from rfl] at hin
      obtain ⟨b2, h3, hap, hb2, hk3, _⟩ := hb.app (bytes := 8) (xs := [.int .i64 (initV T.inits v)]) hk.1 rfl (by omega) (by omega) (by omega)
      refine ⟨_, ?_, b2, h3, rfl, ?_, hk.trans hk3⟩
      · rw [jacquardref6_Compile_r2, show ∀ {α : Type} (f : Cell → Option α), atK [a, b, Cell.nils] 0 f = f a from fun _ => rfl, hat.len, if_pos (by simp; omega), hin, bind_ok, jacquardref6_Compile_e1_3, show ∀ {α : Type} (f : Cell → Option α), atK [a, b, Cell.nils] 1 f = f b from fun _ => rfl, if_pos (show (splice [Cell.int .i64 0] 0 ([(.int .i64 (initV T.inits v))] : List Cell)).length = 1 * 1 from rfl), show splice [Cell.int .i64 0] 0 ([(.int .i64 (initV T.inits v))] : List Cell) = [.int .i64 (initV T.inits v)] from rfl, hap, if_pos (show 1 < ([a, b, Cell.nils] : List Cell).length by simp), g_succ (by omega)]
        rfl
      · rw [takeI_succ (p := initV T.inits v) (by rw [List.getElem?_map, hv]; rfl), intC_snoc]; exact hb2) (st := jacquardref6_Compile_s2 ((0 : Nat) : Int) cs [Cell.nils, Cell.nils, Cell.nils] [a, .nils, .nils] h1) ⟨.nils, h1, rfl, Own.nil _ _ _, Kp.refl _ _⟩
  have hfin2 : jacquardref6_Compile_F2 (R E) Lim E.glob (jacquardref6_Compile_s2 ((locsT T).length : Int) cs [Cell.nils, Cell.nils, Cell.nils] [a, b, .nils] h2) = some (.exit 0, jacquardref6_Compile_x2_1 cs [Cell.nils, Cell.nils, Cell.nils] [a, b, .nils] h2) := by
    rw [jacquardref6_Compile_r2, show ∀ {α : Type} (f : Cell → Option α), atK [a, b, Cell.nils] 0 f = f a from fun _ => rfl, hat.len, if_neg (by simp)]
  have hr2 := hL2 _ (Lim_exit hfin2)
  rw [List.take_of_length_le (by rw [List.length_map]; exact Nat.le_refl _)] at hb
  have htb2 := htb.keep hk2
  have hat2 := hat.keep hal hk2
  have hal2 : Low h2.length a := Low_mono hk2.1 hal
  have hbt := hb.at
  have hbl := hb.low
  -- the threads
  have inner2 : ∀ (t : Nat) (code : List Ins) (y : Cell) (h3 : AHeap), T.thr[t]? = some code → Kp h2.length h2 h3 →
      ∃ x h4, Lim (jacquardref6_Compile_F3 (R E) Lim E.glob) (jacquardref6_Compile_s3 (t : Int) .nils ((0 : Nat) : Int) cs [Cell.nils, Cell.nils, Cell.nils] [a, b, y] h3) = some (.exit 6, jacquardref6_Compile_x3_7 (t : Int) x cs [Cell.nils, Cell.nils, Cell.nils] [a, b, y] h4) ∧ Own h3.length h4 x 9 (codeC (code.map (compI (locsT T)))) code.length ∧ Kp h3.length h3 h4 := by
    intro t code y h3 ht hk3
    obtain ⟨cx, c1x, c2x, c3x⟩ := (htb2.keep hk3).get (β := Ex × St) ht
    have hcl := hs.code code (List.mem_of_getElem? ht)
    obtain ⟨st, ⟨x, h4, rfl, hx, hk4⟩, hL⟩ := Lim_inv (F := jacquardref6_Compile_F3 (R E) Lim E.glob) (fun i st => ∃ x h4, st = jacquardref6_Compile_s3 (t : Int) x (i : Int) cs [Cell.nils, Cell.nils, Cell.nils] [a, b, y] h4 ∧ Own h3.length h4 x 9 (codeC ((code.map (compI (locsT T))).take i)) i ∧ Kp h3.length h3 h4) 0 code.length (by omega)
      (fun i st _ hi => by
        rintro ⟨x, h4, rfl, hx, hk4⟩
        obtain ⟨cx', c1x', c2x', c3x'⟩ := ((htb2.keep hk3).keep hk4).get (β := Ex × St) ht
        have hq : code[i]? = some code[i] := List.getElem?_eq_getElem hi
        generalize code[i] = q at hq
        obtain ⟨off, cs', hG, hle, hcc⟩ := c1x'.insG hq
        have hsn : (code.map (compI (locsT T)))[i]? = some (compI (locsT T) q) := by rw [List.getElem?_map, hq]; rfl
        obtain ⟨x2, h5, hap, hx2, hk5, _⟩ := hx.app (bytes := 72) (xs := (compI (locsT T) q).cs) hk4.1 rfl (by omega) (by omega) (by omega)
        refine ⟨_, ?_, x2, h5, rfl, ?_, hk4.trans hk5⟩
        · rw [jacquardref6_Compile_r3, t2, c3x', c1x'.len, if_pos (by simp; omega), t2, c3x', hG, if_pos hle, hcc, if_pos ⟨rfl, rfl, rfl⟩, ins_loc, asI_ok]
          unfold compI at hap
          by_cases hz : q.loc ≠ 0
          · have hpl := Place_R hE.c122 (b := b) (c := y) ((hat2.keep hal2 hk3).keep (Low_mono hk3.1 hal2) hk4) hu (by omega) q.loc
            rw [if_pos hz] at hap
            rw [if_pos (by rw [bne_iff_ne]; exact hz), if_pos ⟨rfl, pu _ _ _⟩, ins_loc, asI_ok, hpl, c1_ok, asI_ok, if_pos (by rw [Ins.len]; omega), ins_setloc, if_pos ⟨rfl, rfl⟩, if_pos ⟨rfl, by simp⟩, ins_splice, if_pos (ins_len19 _), hap, g_succ (by omega)]
          · rw [if_neg hz] at hap
            rw [if_neg (by rw [bne_iff_ne]; exact hz), if_pos ⟨rfl, rfl⟩, if_pos ⟨rfl, by simp⟩, ins_splice, if_pos (ins_len19 _), hap, g_succ (by omega)]
        · rw [takeI_succ hsn, codeC_snoc]; exact hx2) (st := jacquardref6_Compile_s3 (t : Int) .nils ((0 : Nat) : Int) cs [Cell.nils, Cell.nils, Cell.nils] [a, b, y] h3) ⟨.nils, h3, rfl, Own.nil _ _ _, Kp.refl _ _⟩
    have hfin : jacquardref6_Compile_F3 (R E) Lim E.glob (jacquardref6_Compile_s3 (t : Int) x (code.length : Int) cs [Cell.nils, Cell.nils, Cell.nils] [a, b, y] h4) = some (.exit 6, jacquardref6_Compile_x3_7 (t : Int) x cs [Cell.nils, Cell.nils, Cell.nils] [a, b, y] h4) := by
      obtain ⟨cx', c1x', c2x', c3x'⟩ := ((htb2.keep hk3).keep hk4).get (β := Ex × St) ht
      rw [jacquardref6_Compile_r3, t2, c3x', c1x'.len, if_neg (by simp)]
    rw [List.take_of_length_le (by rw [List.length_map]; exact Nat.le_refl _)] at hx
    exact ⟨x, h4, hL _ (Lim_exit hfin), hx, hk4⟩
  have hthl := hs.thr
  obtain ⟨st, ⟨y, h3, rfl, hy, hk3⟩, hL4⟩ := Lim_inv (F := jacquardref6_Compile_F4 (R E) Lim E.glob) (fun t st => ∃ y h3, st = jacquardref6_Compile_s4 (t : Int) cs [Cell.nils, Cell.nils, Cell.nils] [a, b, y] h3 ∧ RowsOwn 9 codeC h2.length h3 y ((T.thr.map fun c => c.map (compI (locsT T))).take t) ∧ Kp h2.length h2 h3) 0 T.thr.length (by omega)
    (fun t st _ ht => by
      rintro ⟨y, h3, rfl, hy, hk3⟩
      have hq : T.thr[t]? = some T.thr[t] := List.getElem?_eq_getElem ht
      generalize T.thr[t] = code at hq
      obtain ⟨x, h4, hin, hx, hk4⟩ := inner2 t code y h3 hq hk3
      rw [show ((0 : Nat) : Int) = 0 from rfl] at hin
      have hsn : (T.thr.map fun c => c.map (compI (locsT T)))[t]? = some (code.map (compI (locsT T))) := by rw [List.getElem?_map, hq]; rfl
      have hxl : code.length = (code.map (compI (locsT T))).length := by simp
      rw [hxl] at hx
      obtain ⟨y2, h5, hap, hy2, hk5, _⟩ := (hy.keep hk4).push (hx.monoN hk3.1) (fun k h1 h2 => by have := (hx.blkLt h1).2; have := (hy.blkLt h2).1; omega) (Nat.le_trans hk3.1 hk4.1) (by rw [List.length_take]; omega)
      refine ⟨_, ?_, y2, h5, rfl, ?_, hk3.trans ((hk4.mono hk3.1).trans hk5)⟩
      · rw [jacquardref6_Compile_r4, t2, htb2.len, if_pos (by simp; omega), hin, bind_ok, jacquardref6_Compile_e3_7, show ∀ {α : Type} (f : Cell → Option α), atK [a, b, y] 2 f = f y from fun _ => rfl, if_pos (show (splice [Cell.nils] 0 ([x] : List Cell)).length = 1 * 1 from rfl), show splice [Cell.nils] 0 ([x] : List Cell) = [x] from rfl, hap, if_pos (show 2 < ([a, b, y] : List Cell).length by simp), g_succ (by omega)]
        rfl
      · rw [takeI_succ hsn]; exact hy2) (st := jacquardref6_Compile_s4 ((0 : Nat) : Int) cs [Cell.nils, Cell.nils, Cell.nils] [a, b, .nils] h2) ⟨.nils, h2, rfl, by rw [List.take_zero]; exact RowsOwn.nil _, Kp.refl _ _⟩
  have hfin4 : jacquardref6_Compile_F4 (R E) Lim E.glob (jacquardref6_Compile_s4 (T.thr.length : Int) cs [Cell.nils, Cell.nils, Cell.nils] [a, b, y] h3) = some (.exit 4, jacquardref6_Compile_x4_5 [Cell.nils, Cell.nils, Cell.nils] [a, b, y] h3) := by
    rw [jacquardref6_Compile_r4, t2, htb2.len, if_neg (by simp)]
  have hr4 := hL4 _ (Lim_exit hfin4)
  rw [List.take_of_length_le (by rw [List.length_map]; exact Nat.le_refl _)] at hy
  obtain ⟨ts, y1, y2, y3⟩ := hy.of
  refine ⟨[a, b, y], h3, R_intro hE.fn ?_, ⟨a, b, y, ts, rfl, ⟨hat2.keep hal2 hk3, Low_mono hk3.1 hal2⟩, ⟨?_, Low_mono hk3.1 hbl⟩, ⟨y1, y2⟩, y3⟩, hk1.trans ((hk2.mono hk1.1).trans (hk3.mono (Nat.le_trans hk1.1 hk2.1)))⟩
  · rw [jacquardref6_Compile_eq, if_pos ⟨rfl, hlen⟩, hr1, c1_ok, asC_ok, show splice [Cell.nils, Cell.nils, Cell.nils] 0 ([a] : List Cell) = [a, .nils, .nils] from rfl, if_pos ⟨rfl, rfl, rfl⟩, show (0 : Int) = ((0 : Nat) : Int) from rfl, hr2, bind_ok, jacquardref6_Compile_e2_1, show (0 : Int) = ((0 : Nat) : Int) from rfl, hr4, bind_ok, jacquardref6_Compile_e4_5, if_pos ⟨rfl, rfl⟩, if_pos ⟨rfl, rfl, rfl⟩, if_pos ⟨rfl, rfl⟩]
  · have := hbt.keep hbl hk3
    have e : (compT T).init.length = (locsT T).length := by simp [compT]
    rw [e]; exact this

end
end Jq

/- Is there one in a row? (printed by tools/gen_any.py) -/
namespace Jq
open Go

def pairCs (p : Int × Int) : List Cell := [.int .i64 p.1, .int .i64 p.2]
theorem pairC_at : ∀ (l : List (Int × Int)) (i : Nat) (s : Int × Int), l[i]? = some s → ((pairC l).drop (i * 2)).take 2 = pairCs s
  | [], _, _, h => by simp at h
  | q :: l, 0, s, h => by simp at h; subst h; rfl
  | q :: l, i + 1, s, h => by
    have := pairC_at l i s (by simpa using h)
    have e : pairC (q :: l) = pairCs q ++ pairC l := by simp [pairC, pairCs]
    rw [e, List.drop_append, List.drop_of_length_le (by simp [pairCs]; omega), List.nil_append, show (i + 1) * 2 - (pairCs q).length = i * 2 by simp [pairCs]; omega]
    exact this
theorem SlAt.pairG {h : AHeap} {x : Cell} {l : List (Int × Int)} (s : SlAt h x 2 (pairC l) l.length) {i : Nat} {q : Int × Int} (hq : l[i]? = some q) :
    ∃ off cs', (∀ {α : Type} (G : Nat → List Cell → Option α), (idxSK 2 x (i : Int) fun k N o => rdH h k N fun l => G o l) = G off cs') ∧ off + 2 ≤ cs'.length ∧ (cs'.drop off).take 2 = pairCs q := by
  obtain ⟨off, cs', h1, h2, h3⟩ := s.elG (getI_lt hq)
  exact ⟨off, cs', h1, h2, h3.trans (pairC_at l i q hq)⟩
theorem SlAt.atmG {h : AHeap} {x : Cell} {l : List Atm} (s : SlAt h x 4 (atmC l) l.length) {i : Nat} {q : Atm} (hq : l[i]? = some q) :
    ∃ off cs', (∀ {α : Type} (G : Nat → List Cell → Option α), (idxSK 4 x (i : Int) fun k N o => rdH h k N fun l => G o l) = G off cs') ∧ off + 4 ≤ cs'.length ∧ (cs'.drop off).take 4 = q.cs := by
  obtain ⟨off, cs', h1, h2, h3⟩ := s.elG (getI_lt hq)
  exact ⟨off, cs', h1, h2, h3.trans (atmC_at l i q hq)⟩

section
variable {E : Env}

theorem any_sIns_Ins_R (hE : slices_ContainsFunc_sIns_Ins_In E) {x f : Cell} {l : List (Ins)} {h : AHeap} (hx : SlAt h x 9 (codeC l) l.length) (hl : l.length < 9223372036854775807) (p : Ins → Bool)
    (hf : ∀ i ∈ l, ∀ {α : Type} (F : AV → AHeap → Option α), (fnK f fun g cs => c1 (R E g ([.agg (i.cs)] ++ cs) h) F) = F (.c (.bool (p i))) h) : R E 155 [.c x, .c f] h = some ([.c (.bool (l.any p))], h) := by
  have loop : ∀ (n i : Nat), i + n = l.length → ∃ r : Int, (Lim (slices_IndexFunc_sIns_Ins_F1 (R E) Lim E.glob) (slices_IndexFunc_sIns_Ins_s1 x f l.length (i : Int) h)).bind (fun q => slices_IndexFunc_sIns_Ins_k3 (R E) Lim E.glob h q.1 q.2) = some ([.c (.int .i64 r)], h) ∧ decide (r ≥ 0) = (l.drop i).any p := by
    intro n
    induction n with
    | zero =>
      intro i hi
      refine ⟨-1, ?_, ?_⟩
      · have hr : slices_IndexFunc_sIns_Ins_F1 (R E) Lim E.glob (slices_IndexFunc_sIns_Ins_s1 x f l.length (i : Int) h) = some (.exit 0, slices_IndexFunc_sIns_Ins_x1_1 h) := by rw [slices_IndexFunc_sIns_Ins_r1, if_neg (by simp; omega)]
        rw [Lim_exit hr, bind_ok, slices_IndexFunc_sIns_Ins_e1_1]
      · rw [List.drop_of_length_le (by omega)]; rfl
    | succ n ih =>
      intro i hi
      have hq : l[i]? = some l[i] := List.getElem?_eq_getElem (by omega)
      have hdr : l.drop i = l[i] :: l.drop (i + 1) := List.drop_eq_getElem_cons (by omega)
      generalize l[i] = q at hq hdr
      obtain ⟨off, c, g1, g2, g3⟩ := hx.insG hq
      have hp := @hf q (List.mem_of_getElem? hq) (Ex × St)
      rw [hdr, List.any_cons]
      cases hb : p q with
      | true =>
        refine ⟨(i : Int), ?_, ?_⟩
        · have hr : slices_IndexFunc_sIns_Ins_F1 (R E) Lim E.glob (slices_IndexFunc_sIns_Ins_s1 x f l.length (i : Int) h) = some (.ret, slices_IndexFunc_sIns_Ins_x1_0 (i : Int) h) := by rw [slices_IndexFunc_sIns_Ins_r1, if_pos (by simp; omega), g1, if_pos g2, g3, hp, asB_ok, hb, if_pos rfl]
          rw [Lim_ret hr, bind_ok, slices_IndexFunc_sIns_Ins_e1_0]
        · rw [Bool.true_or]; exact decide_eq_true (by omega)
      | false =>
        obtain ⟨r, h1, h2⟩ := ih (i + 1) (by omega)
        refine ⟨r, ?_, by rw [Bool.false_or]; exact h2⟩
        cases hL : Lim (slices_IndexFunc_sIns_Ins_F1 (R E) Lim E.glob) (slices_IndexFunc_sIns_Ins_s1 x f l.length ((i + 1 : Nat) : Int) h) with
        | none => rw [hL] at h1; cases h1
        | some w =>
          have hr : slices_IndexFunc_sIns_Ins_F1 (R E) Lim E.glob (slices_IndexFunc_sIns_Ins_s1 x f l.length (i : Int) h) = some (.normal, slices_IndexFunc_sIns_Ins_s1 x f l.length ((i + 1 : Nat) : Int) h) := by rw [slices_IndexFunc_sIns_Ins_r1, if_pos (by simp; omega), g1, if_pos g2, g3, hp, asB_ok, hb, if_neg (by simp), g_succ (by omega)]
          rw [Lim_next hr hL]
          rw [hL] at h1; exact h1
  obtain ⟨r, h1, h2⟩ := loop l.length 0 (by omega)
  have h3 : R E 156 [.c x, .c f] h = some ([.c (.int .i64 r)], h) := by
    refine R_intro hE.c156.fn ?_
    rw [slices_IndexFunc_sIns_Ins_eq, hx.len]; exact h1
  refine R_intro hE.fn ?_
  rw [slices_ContainsFunc_sIns_Ins_eq, h3, c1_ok, asI_ok, h2]; rfl

theorem any_sInit_Init_R (hE : slices_ContainsFunc_sInit_Init_In E) {x f : Cell} {l : List (Int × Int)} {h : AHeap} (hx : SlAt h x 2 (pairC l) l.length) (hl : l.length < 9223372036854775807) (p : Int × Int → Bool)
    (hf : ∀ i ∈ l, ∀ {α : Type} (F : AV → AHeap → Option α), (fnK f fun g cs => c1 (R E g ([.agg (pairCs i)] ++ cs) h) F) = F (.c (.bool (p i))) h) : R E 143 [.c x, .c f] h = some ([.c (.bool (l.any p))], h) := by
  have loop : ∀ (n i : Nat), i + n = l.length → ∃ r : Int, (Lim (slices_IndexFunc_sInit_Init_F1 (R E) Lim E.glob) (slices_IndexFunc_sInit_Init_s1 x f l.length (i : Int) h)).bind (fun q => slices_IndexFunc_sInit_Init_k3 (R E) Lim E.glob h q.1 q.2) = some ([.c (.int .i64 r)], h) ∧ decide (r ≥ 0) = (l.drop i).any p := by
    intro n
    induction n with
    | zero =>
      intro i hi
      refine ⟨-1, ?_, ?_⟩
      · have hr : slices_IndexFunc_sInit_Init_F1 (R E) Lim E.glob (slices_IndexFunc_sInit_Init_s1 x f l.length (i : Int) h) = some (.exit 0, slices_IndexFunc_sInit_Init_x1_1 h) := by rw [slices_IndexFunc_sInit_Init_r1, if_neg (by simp; omega)]
        rw [Lim_exit hr, bind_ok, slices_IndexFunc_sInit_Init_e1_1]
      · rw [List.drop_of_length_le (by omega)]; rfl
    | succ n ih =>
      intro i hi
      have hq : l[i]? = some l[i] := List.getElem?_eq_getElem (by omega)
      have hdr : l.drop i = l[i] :: l.drop (i + 1) := List.drop_eq_getElem_cons (by omega)
      generalize l[i] = q at hq hdr
      obtain ⟨off, c, g1, g2, g3⟩ := hx.pairG hq
      have hp := @hf q (List.mem_of_getElem? hq) (Ex × St)
      rw [hdr, List.any_cons]
      cases hb : p q with
      | true =>
        refine ⟨(i : Int), ?_, ?_⟩
        · have hr : slices_IndexFunc_sInit_Init_F1 (R E) Lim E.glob (slices_IndexFunc_sInit_Init_s1 x f l.length (i : Int) h) = some (.ret, slices_IndexFunc_sInit_Init_x1_0 (i : Int) h) := by rw [slices_IndexFunc_sInit_Init_r1, if_pos (by simp; omega), g1, if_pos g2, g3, hp, asB_ok, hb, if_pos rfl]
          rw [Lim_ret hr, bind_ok, slices_IndexFunc_sInit_Init_e1_0]
        · rw [Bool.true_or]; exact decide_eq_true (by omega)
      | false =>
        obtain ⟨r, h1, h2⟩ := ih (i + 1) (by omega)
        refine ⟨r, ?_, by rw [Bool.false_or]; exact h2⟩
        cases hL : Lim (slices_IndexFunc_sInit_Init_F1 (R E) Lim E.glob) (slices_IndexFunc_sInit_Init_s1 x f l.length ((i + 1 : Nat) : Int) h) with
        | none => rw [hL] at h1; cases h1
        | some w =>
          have hr : slices_IndexFunc_sInit_Init_F1 (R E) Lim E.glob (slices_IndexFunc_sInit_Init_s1 x f l.length (i : Int) h) = some (.normal, slices_IndexFunc_sInit_Init_s1 x f l.length ((i + 1 : Nat) : Int) h) := by rw [slices_IndexFunc_sInit_Init_r1, if_pos (by simp; omega), g1, if_pos g2, g3, hp, asB_ok, hb, if_neg (by simp), g_succ (by omega)]
          rw [Lim_next hr hL]
          rw [hL] at h1; exact h1
  obtain ⟨r, h1, h2⟩ := loop l.length 0 (by omega)
  have h3 : R E 160 [.c x, .c f] h = some ([.c (.int .i64 r)], h) := by
    refine R_intro hE.c160.fn ?_
    rw [slices_IndexFunc_sInit_Init_eq, hx.len]; exact h1
  refine R_intro hE.fn ?_
  rw [slices_ContainsFunc_sInit_Init_eq, h3, c1_ok, asI_ok, h2]; rfl

theorem any_sAtom_Atom_R (hE : slices_ContainsFunc_sAtom_Atom_In E) {x f : Cell} {l : List (Atm)} {h : AHeap} (hx : SlAt h x 4 (atmC l) l.length) (hl : l.length < 9223372036854775807) (p : Atm → Bool)
    (hf : ∀ i ∈ l, ∀ {α : Type} (F : AV → AHeap → Option α), (fnK f fun g cs => c1 (R E g ([.agg (i.cs)] ++ cs) h) F) = F (.c (.bool (p i))) h) : R E 132 [.c x, .c f] h = some ([.c (.bool (l.any p))], h) := by
  have loop : ∀ (n i : Nat), i + n = l.length → ∃ r : Int, (Lim (slices_IndexFunc_sAtom_Atom_F1 (R E) Lim E.glob) (slices_IndexFunc_sAtom_Atom_s1 x f l.length (i : Int) h)).bind (fun q => slices_IndexFunc_sAtom_Atom_k3 (R E) Lim E.glob h q.1 q.2) = some ([.c (.int .i64 r)], h) ∧ decide (r ≥ 0) = (l.drop i).any p := by
    intro n
    induction n with
    | zero =>
      intro i hi
      refine ⟨-1, ?_, ?_⟩
      · have hr : slices_IndexFunc_sAtom_Atom_F1 (R E) Lim E.glob (slices_IndexFunc_sAtom_Atom_s1 x f l.length (i : Int) h) = some (.exit 0, slices_IndexFunc_sAtom_Atom_x1_1 h) := by rw [slices_IndexFunc_sAtom_Atom_r1, if_neg (by simp; omega)]
        rw [Lim_exit hr, bind_ok, slices_IndexFunc_sAtom_Atom_e1_1]
      · rw [List.drop_of_length_le (by omega)]; rfl
    | succ n ih =>
      intro i hi
      have hq : l[i]? = some l[i] := List.getElem?_eq_getElem (by omega)
      have hdr : l.drop i = l[i] :: l.drop (i + 1) := List.drop_eq_getElem_cons (by omega)
      generalize l[i] = q at hq hdr
      obtain ⟨off, c, g1, g2, g3⟩ := hx.atmG hq
      have hp := @hf q (List.mem_of_getElem? hq) (Ex × St)
      rw [hdr, List.any_cons]
      cases hb : p q with
      | true =>
        refine ⟨(i : Int), ?_, ?_⟩
        · have hr : slices_IndexFunc_sAtom_Atom_F1 (R E) Lim E.glob (slices_IndexFunc_sAtom_Atom_s1 x f l.length (i : Int) h) = some (.ret, slices_IndexFunc_sAtom_Atom_x1_0 (i : Int) h) := by rw [slices_IndexFunc_sAtom_Atom_r1, if_pos (by simp; omega), g1, if_pos g2, g3, hp, asB_ok, hb, if_pos rfl]
          rw [Lim_ret hr, bind_ok, slices_IndexFunc_sAtom_Atom_e1_0]
        · rw [Bool.true_or]; exact decide_eq_true (by omega)
      | false =>
        obtain ⟨r, h1, h2⟩ := ih (i + 1) (by omega)
        refine ⟨r, ?_, by rw [Bool.false_or]; exact h2⟩
        cases hL : Lim (slices_IndexFunc_sAtom_Atom_F1 (R E) Lim E.glob) (slices_IndexFunc_sAtom_Atom_s1 x f l.length ((i + 1 : Nat) : Int) h) with
        | none => rw [hL] at h1; cases h1
        | some w =>
          have hr : slices_IndexFunc_sAtom_Atom_F1 (R E) Lim E.glob (slices_IndexFunc_sAtom_Atom_s1 x f l.length (i : Int) h) = some (.normal, slices_IndexFunc_sAtom_Atom_s1 x f l.length ((i + 1 : Nat) : Int) h) := by rw [slices_IndexFunc_sAtom_Atom_r1, if_pos (by simp; omega), g1, if_pos g2, g3, hp, asB_ok, hb, if_neg (by simp), g_succ (by omega)]
          rw [Lim_next hr hL]
          rw [hL] at h1; exact h1
  obtain ⟨r, h1, h2⟩ := loop l.length 0 (by omega)
  have h3 : R E 149 [.c x, .c f] h = some ([.c (.int .i64 r)], h) := by
    refine R_intro hE.c149.fn ?_
    rw [slices_IndexFunc_sAtom_Atom_eq, hx.len]; exact h1
  refine R_intro hE.fn ?_
  rw [slices_ContainsFunc_sAtom_Atom_eq, h3, c1_ok, asI_ok, h2]; rfl

theorem any_ssIns_sIns_R (hE : slices_ContainsFunc_ssIns_sIns_In E) {x f : Cell} {l : List (List Ins)} {h : AHeap} (hx : RowsOf 9 codeC h x l) (hl : l.length < 9223372036854775807) (p : List Ins → Bool)
    (hf : ∀ r ∈ l, ∀ y : Cell, SlAt h y 9 (codeC r) r.length → ∀ {α : Type} (F : AV → AHeap → Option α), (fnK f fun g cs => c1 (R E g ([.c y] ++ cs) h) F) = F (.c (.bool (p r))) h) : R E 130 [.c x, .c f] h = some ([.c (.bool (l.any p))], h) := by
  have loop : ∀ (n i : Nat), i + n = l.length → ∃ r : Int, (Lim (slices_IndexFunc_ssIns_sIns_F1 (R E) Lim E.glob) (slices_IndexFunc_ssIns_sIns_s1 x f l.length (i : Int) h)).bind (fun q => slices_IndexFunc_ssIns_sIns_k3 (R E) Lim E.glob h q.1 q.2) = some ([.c (.int .i64 r)], h) ∧ decide (r ≥ 0) = (l.drop i).any p := by
    intro n
    induction n with
    | zero =>
      intro i hi
      refine ⟨-1, ?_, ?_⟩
      · have hr : slices_IndexFunc_ssIns_sIns_F1 (R E) Lim E.glob (slices_IndexFunc_ssIns_sIns_s1 x f l.length (i : Int) h) = some (.exit 0, slices_IndexFunc_ssIns_sIns_x1_1 h) := by rw [slices_IndexFunc_ssIns_sIns_r1, if_neg (by simp; omega)]
        rw [Lim_exit hr, bind_ok, slices_IndexFunc_ssIns_sIns_e1_1]
      · rw [List.drop_of_length_le (by omega)]; rfl
    | succ n ih =>
      intro i hi
      have hq : l[i]? = some l[i] := List.getElem?_eq_getElem (by omega)
      have hdr : l.drop i = l[i] :: l.drop (i + 1) := List.drop_eq_getElem_cons (by omega)
      generalize l[i] = q at hq hdr
      obtain ⟨y, y1, y2, g1⟩ := hx.get (β := Ex × St) hq
      have hp := @hf q (List.mem_of_getElem? hq) y y1 (Ex × St)
      rw [hdr, List.any_cons]
      cases hb : p q with
      | true =>
        refine ⟨(i : Int), ?_, ?_⟩
        · have hr : slices_IndexFunc_ssIns_sIns_F1 (R E) Lim E.glob (slices_IndexFunc_ssIns_sIns_s1 x f l.length (i : Int) h) = some (.ret, slices_IndexFunc_ssIns_sIns_x1_0 (i : Int) h) := by rw [slices_IndexFunc_ssIns_sIns_r1, if_pos (by simp; omega), g1, hp, asB_ok, hb, if_pos rfl]
          rw [Lim_ret hr, bind_ok, slices_IndexFunc_ssIns_sIns_e1_0]
        · rw [Bool.true_or]; exact decide_eq_true (by omega)
      | false =>
        obtain ⟨r, h1, h2⟩ := ih (i + 1) (by omega)
        refine ⟨r, ?_, by rw [Bool.false_or]; exact h2⟩
        cases hL : Lim (slices_IndexFunc_ssIns_sIns_F1 (R E) Lim E.glob) (slices_IndexFunc_ssIns_sIns_s1 x f l.length ((i + 1 : Nat) : Int) h) with
        | none => rw [hL] at h1; cases h1
        | some w =>
          have hr : slices_IndexFunc_ssIns_sIns_F1 (R E) Lim E.glob (slices_IndexFunc_ssIns_sIns_s1 x f l.length (i : Int) h) = some (.normal, slices_IndexFunc_ssIns_sIns_s1 x f l.length ((i + 1 : Nat) : Int) h) := by rw [slices_IndexFunc_ssIns_sIns_r1, if_pos (by simp; omega), g1, hp, asB_ok, hb, if_neg (by simp), g_succ (by omega)]
          rw [Lim_next hr hL]
          rw [hL] at h1; exact h1
  obtain ⟨r, h1, h2⟩ := loop l.length 0 (by omega)
  have h3 : R E 147 [.c x, .c f] h = some ([.c (.int .i64 r)], h) := by
    refine R_intro hE.c147.fn ?_
    rw [slices_IndexFunc_ssIns_sIns_eq, hx.len]; exact h1
  refine R_intro hE.fn ?_
  rw [slices_ContainsFunc_ssIns_sIns_eq, h3, c1_ok, asI_ok, h2]; rfl

theorem any_ssAtom_sAtom_R (hE : slices_ContainsFunc_ssAtom_sAtom_In E) {x f : Cell} {l : List (List Atm)} {h : AHeap} (hx : RowsOf 4 atmC h x l) (hl : l.length < 9223372036854775807) (p : List Atm → Bool)
    (hf : ∀ r ∈ l, ∀ y : Cell, SlAt h y 4 (atmC r) r.length → ∀ {α : Type} (F : AV → AHeap → Option α), (fnK f fun g cs => c1 (R E g ([.c y] ++ cs) h) F) = F (.c (.bool (p r))) h) : R E 146 [.c x, .c f] h = some ([.c (.bool (l.any p))], h) := by
  have loop : ∀ (n i : Nat), i + n = l.length → ∃ r : Int, (Lim (slices_IndexFunc_ssAtom_sAtom_F1 (R E) Lim E.glob) (slices_IndexFunc_ssAtom_sAtom_s1 x f l.length (i : Int) h)).bind (fun q => slices_IndexFunc_ssAtom_sAtom_k3 (R E) Lim E.glob h q.1 q.2) = some ([.c (.int .i64 r)], h) ∧ decide (r ≥ 0) = (l.drop i).any p := by
    intro n
    induction n with
    | zero =>
      intro i hi
      refine ⟨-1, ?_, ?_⟩
      · have hr : slices_IndexFunc_ssAtom_sAtom_F1 (R E) Lim E.glob (slices_IndexFunc_ssAtom_sAtom_s1 x f l.length (i : Int) h) = some (.exit 0, slices_IndexFunc_ssAtom_sAtom_x1_1 h) := by rw [slices_IndexFunc_ssAtom_sAtom_r1, if_neg (by simp; omega)]
        rw [Lim_exit hr, bind_ok, slices_IndexFunc_ssAtom_sAtom_e1_1]
      · rw [List.drop_of_length_le (by omega)]; rfl
    | succ n ih =>
      intro i hi
      have hq : l[i]? = some l[i] := List.getElem?_eq_getElem (by omega)
      have hdr : l.drop i = l[i] :: l.drop (i + 1) := List.drop_eq_getElem_cons (by omega)
      generalize l[i] = q at hq hdr
      obtain ⟨y, y1, y2, g1⟩ := hx.get (β := Ex × St) hq
      have hp := @hf q (List.mem_of_getElem? hq) y y1 (Ex × St)
      rw [hdr, List.any_cons]
      cases hb : p q with
      | true =>
        refine ⟨(i : Int), ?_, ?_⟩
        · have hr : slices_IndexFunc_ssAtom_sAtom_F1 (R E) Lim E.glob (slices_IndexFunc_ssAtom_sAtom_s1 x f l.length (i : Int) h) = some (.ret, slices_IndexFunc_ssAtom_sAtom_x1_0 (i : Int) h) := by rw [slices_IndexFunc_ssAtom_sAtom_r1, if_pos (by simp; omega), g1, hp, asB_ok, hb, if_pos rfl]
          rw [Lim_ret hr, bind_ok, slices_IndexFunc_ssAtom_sAtom_e1_0]
        · rw [Bool.true_or]; exact decide_eq_true (by omega)
      | false =>
        obtain ⟨r, h1, h2⟩ := ih (i + 1) (by omega)
        refine ⟨r, ?_, by rw [Bool.false_or]; exact h2⟩
        cases hL : Lim (slices_IndexFunc_ssAtom_sAtom_F1 (R E) Lim E.glob) (slices_IndexFunc_ssAtom_sAtom_s1 x f l.length ((i + 1 : Nat) : Int) h) with
        | none => rw [hL] at h1; cases h1
        | some w =>
          have hr : slices_IndexFunc_ssAtom_sAtom_F1 (R E) Lim E.glob (slices_IndexFunc_ssAtom_sAtom_s1 x f l.length (i : Int) h) = some (.normal, slices_IndexFunc_ssAtom_sAtom_s1 x f l.length ((i + 1 : Nat) : Int) h) := by rw [slices_IndexFunc_ssAtom_sAtom_r1, if_pos (by simp; omega), g1, hp, asB_ok, hb, if_neg (by simp), g_succ (by omega)]
          rw [Lim_next hr hL]
          rw [hL] at h1; exact h1
  obtain ⟨r, h1, h2⟩ := loop l.length 0 (by omega)
  have h3 : R E 162 [.c x, .c f] h = some ([.c (.int .i64 r)], h) := by
    refine R_intro hE.c162.fn ?_
    rw [slices_IndexFunc_ssAtom_sAtom_eq, hx.len]; exact h1
  refine R_intro hE.fn ?_
  rw [slices_ContainsFunc_ssAtom_sAtom_eq, h3, c1_ok, asI_ok, h2]; rfl

end
end Jq

namespace Jq
open Go

/- jacquard/print.Ok: 126 -/
set_option maxRecDepth 100000 in
theorem print_Ok_eq (C : CallF) (L : LoopF) (G : Glo) (l0 : List Cell) (h0 : AHeap) :
    print_Ok.body C L G [(.agg l0)] h0 =
    atK l0 0 fun q_1 => asS (.c q_1) fun z_2 => c1 (C 141 [(.c (.str z_2))] h0) fun y_4 h_3 => asB y_4 fun b_5 => scK b_5 true (atK l0 1 fun q_6 => c1 (C 143 [(.c q_6), (.c (.fn 142 []))] h_3) fun y_8 h_7 => asB y_8 fun b_9 => some ((!b_9), h_7)) false h_3 fun b_10 h_11 => scK b_10 true (atK l0 2 fun q_12 => c1 (C 130 [(.c q_12), (.c (.fn 140 []))] h_11) fun y_14 h_13 => asB y_14 fun b_15 => some ((!b_15), h_13)) false h_11 fun b_16 h_17 => scK b_16 true (if 3 + 2 ≤ l0.length then c1 (C 144 [(.agg ((l0.drop 3).take 2))] h_17) fun y_19 h_18 => asB y_19 fun b_20 => some (b_20, h_18) else none) false h_17 fun b_21 h_22 => some ([(.c (.bool b_21))], h_22) := by kernel_rfl

/- jacquard/print.Ok$1: 140 -/
set_option maxRecDepth 100000 in
theorem print_Ok_1_eq (C : CallF) (L : LoopF) (G : Glo) (x0 : Cell) (h0 : AHeap) :
    print_Ok_1.body C L G [(.c x0)] h0 =
    c1 (C 155 [(.c x0), (.c (.fn 154 []))] h0) fun y_2 h_1 => asB y_2 fun b_3 => some ([(.c (.bool b_3))], h_1) := by kernel_rfl

/- jacquard/print.isWord: 141 -/
def print_isWord_k2 (C : CallF) (L : LoopF) (G : Glo) (h0 : AHeap) : Ex → St → Option (List AV × AHeap) :=
  kSeq (fun st => print_isWord_p1.exec C L G st (print_isWord.fin G h0)) (print_isWord.fin G h0)
def print_isWord_k3 (C : CallF) (L : LoopF) (G : Glo) (h0 : AHeap) : Ex → St → Option (List AV × AHeap) :=
  kBlk 0 (print_isWord_k2 C L G h0)
def print_isWord_s1 (z0 : ByteArray) (a6 : Int) (a7 : Int) (h : AHeap) : St := ⟨[.v (.c (.str z0)), .top, .top, .top, .top, .top, .v (.c (.int .i64 a6)), .v (.c (.int .i64 a7)), .top, .top, .top, .top, .top, .top, .top, .top, .top, .top, .top, .top, .top, .top, .top, .top, .top, .top, .top, .top, .top, .top, .top, .top, .top, .top], [], h⟩
def print_isWord_F1 (C : CallF) (L : LoopF) (G : Glo) : St → Option (Ex × St) :=
  roundF (fun st f => print_isWord_b1.exec C L G st f) [0, 6, 7] [] [(0, [2], []), (1, [0], [])]
def print_isWord_x1_0 (b2 : Bool) (h : AHeap) : St := ⟨[.top, .top, .v (.c (.bool b2)), .top, .top, .top, .top, .top, .top, .top, .top, .top, .top, .top, .top, .top, .top, .top, .top, .top, .top, .top, .top, .top, .top, .top, .top, .top, .top, .top, .top, .top, .top, .top], [], h⟩
def print_isWord_x1_1 (z0 : ByteArray) (h : AHeap) : St := ⟨[.v (.c (.str z0)), .top, .top, .top, .top, .top, .top, .top, .top, .top, .top, .top, .top, .top, .top, .top, .top, .top, .top, .top, .top, .top, .top, .top, .top, .top, .top, .top, .top, .top, .top, .top, .top, .top], [], h⟩
theorem print_isWord_r1 (C : CallF) (L : LoopF) (G : Glo) (z0 : ByteArray) (a6 : Int) (a7 : Int) (h : AHeap) :
    print_isWord_F1 C L G (print_isWord_s1 z0 a6 a7 h) =
    if (decide (a7 < a6)) = true then if 0 ≤ a7 then (z0[Int.toNat a7]?.bind fun u_2 => scK (decide ((UInt8.toNat u_2 : Int) < 97)) false (some ((decide ((UInt8.toNat u_2 : Int) > 122)), h)) true h fun b_3 h_4 => scK b_3 true (scK (a7 == 0) false (some ((decide ((UInt8.toNat u_2 : Int) < 48)), h_4)) true h_4 fun b_5 h_6 => scK b_5 false (some ((decide ((UInt8.toNat u_2 : Int) > 57)), h_6)) true h_6 fun b_7 h_8 => some (b_7, h_8)) false h_4 fun b_9 h_10 => if b_9 = true then some (.ret, (print_isWord_x1_0 false h_10)) else some (.normal, (print_isWord_s1 z0 a6 (G.wrap .i64 (a7 + 1)) h_10))) else none else some ((.exit 0), (print_isWord_x1_1 z0 h)) := by kernel_rfl
theorem print_isWord_e1_0 (C : CallF) (L : LoopF) (G : Glo) (h0 : AHeap) (b2 : Bool) (h : AHeap) :
    (print_isWord_k3 C L G h0) .ret (print_isWord_x1_0 b2 h) =
    some ([(.c (.bool b2))], h) := by kernel_rfl
theorem print_isWord_e1_1 (C : CallF) (L : LoopF) (G : Glo) (h0 : AHeap) (z0 : ByteArray) (h : AHeap) :
    (print_isWord_k3 C L G h0) (.exit 0) (print_isWord_x1_1 z0 h) =
    some ([(.c (.bool (!(ByteArray.toList z0 == ByteArray.toList (ByteArray.mk #[])))))], h) := by kernel_rfl
set_option maxRecDepth 100000 in
theorem print_isWord_eq (C : CallF) (L : LoopF) (G : Glo) (z0 : ByteArray) (h0 : AHeap) :
    print_isWord.body C L G [(.c (.str z0))] h0 =
    lenSK (.str z0) fun n_1 => (L (print_isWord_F1 C L G) (print_isWord_s1 z0 n_1 0 h0)).bind fun p_11 => (print_isWord_k3 C L G h0) p_11.1 p_11.2 := by kernel_rfl

/- jacquard/print.Ok$2: 142 -/
set_option maxRecDepth 100000 in
theorem print_Ok_2_eq (C : CallF) (L : LoopF) (G : Glo) (l0 : List Cell) (h0 : AHeap) :
    print_Ok_2.body C L G [(.agg l0)] h0 =
    atK l0 0 fun q_1 => asI .i64 (.c q_1) fun n_2 => c1 (C 158 [(.c (.int .i64 n_2))] h0) fun y_4 h_3 => asB y_4 fun b_5 => some ([(.c (.bool (!b_5)))], h_3) := by kernel_rfl

/- jacquard/print.okCond: 144 -/
set_option maxRecDepth 100000 in
theorem print_okCond_eq (C : CallF) (L : LoopF) (G : Glo) (l0 : List Cell) (h0 : AHeap) :
    print_okCond.body C L G [(.agg l0)] h0 =
    atK l0 0 fun q_1 => asI .i64 (.c q_1) fun n_2 => if (n_2 == 0) = true then atK l0 1 fun q_3 => lenK q_3 fun n_4 => some ([(.c (.bool (n_4 == 0)))], h0) else atK l0 0 fun q_5 => asI .i64 (.c q_5) fun n_6 => scK (n_6 == 1) false (atK l0 0 fun q_7 => asI .i64 (.c q_7) fun n_8 => some ((n_8 == 2), h0)) true h0 fun b_9 h_10 => scK b_9 true (atK l0 1 fun q_11 => lenK q_11 fun n_12 => some ((decide (n_12 > 0)), h_10)) false h_10 fun b_13 h_14 => scK b_13 true (atK l0 1 fun q_15 => c1 (C 146 [(.c q_15), (.c (.fn 161 []))] h_14) fun y_17 h_16 => asB y_17 fun b_18 => some ((!b_18), h_16)) false h_14 fun b_19 h_20 => some ([(.c (.bool b_19))], h_20) := by kernel_rfl

/- jacquard/print.Ok$1$1: 154 -/
set_option maxRecDepth 100000 in
theorem print_Ok_1_1_eq (C : CallF) (L : LoopF) (G : Glo) (l0 : List Cell) (h0 : AHeap) :
    print_Ok_1_1.body C L G [(.agg l0)] h0 =
    if 0 = 0 ∧ l0.length = 9 then c1 (C 157 [(.agg l0)] h0) fun y_2 h_1 => asB y_2 fun b_3 => some ([(.c (.bool (!b_3)))], h_1) else none := by kernel_rfl

/- jacquard/print.okIns: 157 -/
set_option maxRecDepth 100000 in
theorem print_okIns_eq (C : CallF) (L : LoopF) (G : Glo) (l0 : List Cell) (h0 : AHeap) :
    print_okIns.body C L G [(.agg l0)] h0 =
    if 0 = 0 ∧ l0.length = 9 then c1 (C 159 [(.agg l0), (.c (.fn 158 []))] h0) fun y_2 h_1 => asB y_2 fun b_3 => some ([(.c (.bool b_3))], h_1) else none := by kernel_rfl

/- jacquard/print.IsLoc: 158 -/
set_option maxRecDepth 100000 in
theorem print_IsLoc_eq (C : CallF) (L : LoopF) (G : Glo) (a0 : Int) (h0 : AHeap) :
    print_IsLoc.body C L G [(.c (.int .i64 a0))] h0 =
    scK (decide (a0 ≥ 97)) true (some ((decide (a0 ≤ 122)), h0)) false h0 fun b_1 h_2 => some ([(.c (.bool b_1))], h_2) := by kernel_rfl

/- jacquard/print.Fields: 159 -/
set_option maxRecDepth 100000 in
theorem print_Fields_eq (C : CallF) (L : LoopF) (G : Glo) (l0 : List Cell) (x1 : Cell) (h0 : AHeap) :
    print_Fields.body C L G [(.agg l0), (.c x1)] h0 =
    atK l0 0 fun q_1 => asI .i64 (.c q_1) fun n_2 => if 0 = 0 ∧ (List.replicate 9 (Cell.int .i64 0)).length = 9 ∧ (splice (List.replicate 9 (Cell.int .i64 0)) 0 ([(.int .i64 n_2)] : List Cell)).length = 9 then atK l0 0 fun q_3 => asI .i64 (.c q_3) fun n_4 => if (n_4 == 1) = true then atK l0 2 fun q_5 => asI .i64 (.c q_5) fun n_6 => if 3 + 2 ≤ l0.length then if 2 < (splice (List.replicate 9 (Cell.int .i64 0)) 0 ([(.int .i64 n_2)] : List Cell)).length then if 3 + 2 ≤ ((splice (List.replicate 9 (Cell.int .i64 0)) 0 ([(.int .i64 n_2)] : List Cell)).set 2 (.int .i64 n_6)).length ∧ ((l0.drop 3).take 2).length = 2 then atK l0 2 fun q_7 => asI .i64 (.c q_7) fun n_8 => fnK x1 fun g_9 l_10 => c1 (C g_9 ([(.c (.int .i64 n_8))] ++ l_10) h0) fun y_12 h_11 => asB y_12 fun b_13 => scK b_13 true (if 3 + 2 ≤ l0.length then c1 (C 163 [(.agg ((l0.drop 3).take 2))] h_11) fun y_15 h_14 => asB y_15 fun b_16 => some (b_16, h_14) else none) false h_11 fun b_17 h_18 => scK b_17 true (if 0 = 0 ∧ l0.length = 9 then if 0 = 0 ∧ (splice ((splice (List.replicate 9 (Cell.int .i64 0)) 0 ([(.int .i64 n_2)] : List Cell)).set 2 (.int .i64 n_6)) 3 ((l0.drop 3).take 2)).length = 9 then if alike l0 (List.replicate 9 (Cell.int .i64 0)) = true ∧ alike (splice ((splice (List.replicate 9 (Cell.int .i64 0)) 0 ([(.int .i64 n_2)] : List Cell)).set 2 (.int .i64 n_6)) 3 ((l0.drop 3).take 2)) (List.replicate 9 (Cell.int .i64 0)) = true then some ((decide (l0 = (splice ((splice (List.replicate 9 (Cell.int .i64 0)) 0 ([(.int .i64 n_2)] : List Cell)).set 2 (.int .i64 n_6)) 3 ((l0.drop 3).take 2)))), h_18) else none else none else none) false h_18 fun b_19 h_20 => some ([(.c (.bool b_19))], h_20) else none else none else none else if (n_4 == 2) = true then atK l0 1 fun q_21 => asI .i64 (.c q_21) fun n_22 => atK l0 2 fun q_23 => asI .i64 (.c q_23) fun n_24 => if 1 < (splice (List.replicate 9 (Cell.int .i64 0)) 0 ([(.int .i64 n_2)] : List Cell)).length then if 2 < ((splice (List.replicate 9 (Cell.int .i64 0)) 0 ([(.int .i64 n_2)] : List Cell)).set 1 (.int .i64 n_22)).length then atK l0 2 fun q_25 => asI .i64 (.c q_25) fun n_26 => fnK x1 fun g_27 l_28 => c1 (C g_27 ([(.c (.int .i64 n_26))] ++ l_28) h0) fun y_30 h_29 => asB y_30 fun b_31 => scK b_31 true (atK l0 1 fun q_32 => asI .i64 (.c q_32) fun n_33 => c1 (C 164 [(.c (.int .i64 n_33))] h_29) fun y_35 h_34 => asB y_35 fun b_36 => some (b_36, h_34)) false h_29 fun b_37 h_38 => scK b_37 true (if 0 = 0 ∧ l0.length = 9 then if 0 = 0 ∧ (((splice (List.replicate 9 (Cell.int .i64 0)) 0 ([(.int .i64 n_2)] : List Cell)).set 1 (.int .i64 n_22)).set 2 (.int .i64 n_24)).length = 9 then if alike l0 (List.replicate 9 (Cell.int .i64 0)) = true ∧ alike (((splice (List.replicate 9 (Cell.int .i64 0)) 0 ([(.int .i64 n_2)] : List Cell)).set 1 (.int .i64 n_22)).set 2 (.int .i64 n_24)) (List.replicate 9 (Cell.int .i64 0)) = true then some ((decide (l0 = (((splice (List.replicate 9 (Cell.int .i64 0)) 0 ([(.int .i64 n_2)] : List Cell)).set 1 (.int .i64 n_22)).set 2 (.int .i64 n_24)))), h_38) else none else none else none) false h_38 fun b_39 h_40 => some ([(.c (.bool b_39))], h_40) else none else none else if (n_4 == 3) = true then scK true true (if 0 = 0 ∧ l0.length = 9 then if 0 = 0 ∧ (splice (List.replicate 9 (Cell.int .i64 0)) 0 ([(.int .i64 n_2)] : List Cell)).length = 9 then if alike l0 (List.replicate 9 (Cell.int .i64 0)) = true ∧ alike (splice (List.replicate 9 (Cell.int .i64 0)) 0 ([(.int .i64 n_2)] : List Cell)) (List.replicate 9 (Cell.int .i64 0)) = true then some ((decide (l0 = (splice (List.replicate 9 (Cell.int .i64 0)) 0 ([(.int .i64 n_2)] : List Cell)))), h0) else none else none else none) false h0 fun b_41 h_42 => some ([(.c (.bool b_41))], h_42) else if (n_4 == 4) = true then atK l0 1 fun q_43 => asI .i64 (.c q_43) fun n_44 => atK l0 2 fun q_45 => asI .i64 (.c q_45) fun n_46 => if 3 + 2 ≤ l0.length then if 6 + 2 ≤ l0.length then if 1 < (splice (List.replicate 9 (Cell.int .i64 0)) 0 ([(.int .i64 n_2)] : List Cell)).length then if 2 < ((splice (List.replicate 9 (Cell.int .i64 0)) 0 ([(.int .i64 n_2)] : List Cell)).set 1 (.int .i64 n_44)).length then if 3 + 2 ≤ (((splice (List.replicate 9 (Cell.int .i64 0)) 0 ([(.int .i64 n_2)] : List Cell)).set 1 (.int .i64 n_44)).set 2 (.int .i64 n_46)).length ∧ ((l0.drop 3).take 2).length = 2 then if 6 + 2 ≤ (splice (((splice (List.replicate 9 (Cell.int .i64 0)) 0 ([(.int .i64 n_2)] : List Cell)).set 1 (.int .i64 n_44)).set 2 (.int .i64 n_46)) 3 ((l0.drop 3).take 2)).length ∧ ((l0.drop 6).take 2).length = 2 then atK l0 2 fun q_47 => asI .i64 (.c q_47) fun n_48 => fnK x1 fun g_49 l_50 => c1 (C g_49 ([(.c (.int .i64 n_48))] ++ l_50) h0) fun y_52 h_51 => asB y_52 fun b_53 => scK b_53 true (atK l0 1 fun q_54 => asI .i64 (.c q_54) fun n_55 => c1 (C 164 [(.c (.int .i64 n_55))] h_51) fun y_57 h_56 => asB y_57 fun b_58 => some (b_58, h_56)) false h_51 fun b_59 h_60 => scK b_59 true (if 3 + 2 ≤ l0.length then c1 (C 163 [(.agg ((l0.drop 3).take 2))] h_60) fun y_62 h_61 => asB y_62 fun b_63 => some (b_63, h_61) else none) false h_60 fun b_64 h_65 => scK b_64 true (if 6 + 2 ≤ l0.length then c1 (C 163 [(.agg ((l0.drop 6).take 2))] h_65) fun y_67 h_66 => asB y_67 fun b_68 => some (b_68, h_66) else none) false h_65 fun b_69 h_70 => scK b_69 true (if 0 = 0 ∧ l0.length = 9 then if 0 = 0 ∧ (splice (splice (((splice (List.replicate 9 (Cell.int .i64 0)) 0 ([(.int .i64 n_2)] : List Cell)).set 1 (.int .i64 n_44)).set 2 (.int .i64 n_46)) 3 ((l0.drop 3).take 2)) 6 ((l0.drop 6).take 2)).length = 9 then if alike l0 (List.replicate 9 (Cell.int .i64 0)) = true ∧ alike (splice (splice (((splice (List.replicate 9 (Cell.int .i64 0)) 0 ([(.int .i64 n_2)] : List Cell)).set 1 (.int .i64 n_44)).set 2 (.int .i64 n_46)) 3 ((l0.drop 3).take 2)) 6 ((l0.drop 6).take 2)) (List.replicate 9 (Cell.int .i64 0)) = true then some ((decide (l0 = (splice (splice (((splice (List.replicate 9 (Cell.int .i64 0)) 0 ([(.int .i64 n_2)] : List Cell)).set 1 (.int .i64 n_44)).set 2 (.int .i64 n_46)) 3 ((l0.drop 3).take 2)) 6 ((l0.drop 6).take 2)))), h_70) else none else none else none) false h_70 fun b_71 h_72 => some ([(.c (.bool b_71))], h_72) else none else none else none else none else none else none else if (n_4 == 5) = true then atK l0 1 fun q_73 => asI .i64 (.c q_73) fun n_74 => if 3 + 2 ≤ l0.length then atK l0 5 fun q_75 => asI .i64 (.c q_75) fun n_76 => if 6 + 2 ≤ l0.length then if 1 < (splice (List.replicate 9 (Cell.int .i64 0)) 0 ([(.int .i64 n_2)] : List Cell)).length then if 3 + 2 ≤ ((splice (List.replicate 9 (Cell.int .i64 0)) 0 ([(.int .i64 n_2)] : List Cell)).set 1 (.int .i64 n_74)).length ∧ ((l0.drop 3).take 2).length = 2 then if 5 < (splice ((splice (List.replicate 9 (Cell.int .i64 0)) 0 ([(.int .i64 n_2)] : List Cell)).set 1 (.int .i64 n_74)) 3 ((l0.drop 3).take 2)).length then if 6 + 2 ≤ ((splice ((splice (List.replicate 9 (Cell.int .i64 0)) 0 ([(.int .i64 n_2)] : List Cell)).set 1 (.int .i64 n_74)) 3 ((l0.drop 3).take 2)).set 5 (.int .i64 n_76)).length ∧ ((l0.drop 6).take 2).length = 2 then atK l0 1 fun q_77 => asI .i64 (.c q_77) fun n_78 => c1 (C 164 [(.c (.int .i64 n_78))] h0) fun y_80 h_79 => asB y_80 fun b_81 => scK b_81 true (if 3 + 2 ≤ l0.length then c1 (C 163 [(.agg ((l0.drop 3).take 2))] h_79) fun y_83 h_82 => asB y_83 fun b_84 => some (b_84, h_82) else none) false h_79 fun b_85 h_86 => scK b_85 true (if 6 + 2 ≤ l0.length then c1 (C 163 [(.agg ((l0.drop 6).take 2))] h_86) fun y_88 h_87 => asB y_88 fun b_89 => some (b_89, h_87) else none) false h_86 fun b_90 h_91 => scK b_90 true (atK l0 5 fun q_92 => asI .i64 (.c q_92) fun n_93 => some ((decide (n_93 ≥ 0)), h_91)) false h_91 fun b_94 h_95 => scK b_94 true (atK l0 5 fun q_96 => asI .i64 (.c q_96) fun n_97 => some ((decide (n_97 ≤ 11)), h_95)) false h_95 fun b_98 h_99 => scK b_98 true (atK l0 5 fun q_100 => asI .i64 (.c q_100) fun n_101 => scK (decide (n_101 > 0)) false (if 6 + 2 ≤ l0.length then if alike ((l0.drop 6).take 2) ([Cell.int .i64 0, Cell.int .i64 0]) = true ∧ alike (splice [Cell.int .i64 0, Cell.int .i64 0] 0 ([(.int .i64 (-1))] : List Cell)) ([Cell.int .i64 0, Cell.int .i64 0]) = true then some ((decide (((l0.drop 6).take 2) = (splice [Cell.int .i64 0, Cell.int .i64 0] 0 ([(.int .i64 (-1))] : List Cell)))), h_99) else none else none) true h_99 fun b_102 h_103 => some (b_102, h_103)) false h_99 fun b_104 h_105 => scK b_104 true (if 0 = 0 ∧ l0.length = 9 then if 0 = 0 ∧ (splice ((splice ((splice (List.replicate 9 (Cell.int .i64 0)) 0 ([(.int .i64 n_2)] : List Cell)).set 1 (.int .i64 n_74)) 3 ((l0.drop 3).take 2)).set 5 (.int .i64 n_76)) 6 ((l0.drop 6).take 2)).length = 9 then if alike l0 (List.replicate 9 (Cell.int .i64 0)) = true ∧ alike (splice ((splice ((splice (List.replicate 9 (Cell.int .i64 0)) 0 ([(.int .i64 n_2)] : List Cell)).set 1 (.int .i64 n_74)) 3 ((l0.drop 3).take 2)).set 5 (.int .i64 n_76)) 6 ((l0.drop 6).take 2)) (List.replicate 9 (Cell.int .i64 0)) = true then some ((decide (l0 = (splice ((splice ((splice (List.replicate 9 (Cell.int .i64 0)) 0 ([(.int .i64 n_2)] : List Cell)).set 1 (.int .i64 n_74)) 3 ((l0.drop 3).take 2)).set 5 (.int .i64 n_76)) 6 ((l0.drop 6).take 2)))), h_105) else none else none else none) false h_105 fun b_106 h_107 => some ([(.c (.bool b_106))], h_107) else none else none else none else none else none else none else if (n_4 == 6) = true then atK l0 8 fun q_108 => asI .i64 (.c q_108) fun n_109 => if 3 + 2 ≤ l0.length then if 6 + 2 ≤ l0.length then if 8 < (splice (List.replicate 9 (Cell.int .i64 0)) 0 ([(.int .i64 n_2)] : List Cell)).length then if 3 + 2 ≤ ((splice (List.replicate 9 (Cell.int .i64 0)) 0 ([(.int .i64 n_2)] : List Cell)).set 8 (.int .i64 n_109)).length ∧ ((l0.drop 3).take 2).length = 2 then if 6 + 2 ≤ (splice ((splice (List.replicate 9 (Cell.int .i64 0)) 0 ([(.int .i64 n_2)] : List Cell)).set 8 (.int .i64 n_109)) 3 ((l0.drop 3).take 2)).length ∧ ((l0.drop 6).take 2).length = 2 then atK l0 8 fun q_110 => asI .i64 (.c q_110) fun n_111 => scK (decide (n_111 ≥ 0)) true (if 3 + 2 ≤ l0.length then c1 (C 163 [(.agg ((l0.drop 3).take 2))] h0) fun y_113 h_112 => asB y_113 fun b_114 => some (b_114, h_112) else none) false h0 fun b_115 h_116 => scK b_115 true (if 6 + 2 ≤ l0.length then c1 (C 163 [(.agg ((l0.drop 6).take 2))] h_116) fun y_118 h_117 => asB y_118 fun b_119 => some (b_119, h_117) else none) false h_116 fun b_120 h_121 => scK b_120 true (if 0 = 0 ∧ l0.length = 9 then if 0 = 0 ∧ (splice (splice ((splice (List.replicate 9 (Cell.int .i64 0)) 0 ([(.int .i64 n_2)] : List Cell)).set 8 (.int .i64 n_109)) 3 ((l0.drop 3).take 2)) 6 ((l0.drop 6).take 2)).length = 9 then if alike l0 (List.replicate 9 (Cell.int .i64 0)) = true ∧ alike (splice (splice ((splice (List.replicate 9 (Cell.int .i64 0)) 0 ([(.int .i64 n_2)] : List Cell)).set 8 (.int .i64 n_109)) 3 ((l0.drop 3).take 2)) 6 ((l0.drop 6).take 2)) (List.replicate 9 (Cell.int .i64 0)) = true then some ((decide (l0 = (splice (splice ((splice (List.replicate 9 (Cell.int .i64 0)) 0 ([(.int .i64 n_2)] : List Cell)).set 8 (.int .i64 n_109)) 3 ((l0.drop 3).take 2)) 6 ((l0.drop 6).take 2)))), h_121) else none else none else none) false h_121 fun b_122 h_123 => some ([(.c (.bool b_122))], h_123) else none else none else none else none else none else some ([(.c (.bool false))], h0) else none := by kernel_rfl

/- jacquard/print.okCond$1: 161 -/
set_option maxRecDepth 100000 in
theorem print_okCond_1_eq (C : CallF) (L : LoopF) (G : Glo) (x0 : Cell) (h0 : AHeap) :
    print_okCond_1.body C L G [(.c x0)] h0 =
    lenK x0 fun n_1 => scK (n_1 == 0) false (c1 (C 132 [(.c x0), (.c (.fn 165 []))] h0) fun y_3 h_2 => asB y_3 fun b_4 => some (b_4, h_2)) true h0 fun b_5 h_6 => some ([(.c (.bool b_5))], h_6) := by kernel_rfl

/- jacquard/print.isOperand: 163 -/
set_option maxRecDepth 100000 in
theorem print_isOperand_eq (C : CallF) (L : LoopF) (G : Glo) (l0 : List Cell) (h0 : AHeap) :
    print_isOperand.body C L G [(.agg l0)] h0 =
    atK l0 0 fun q_1 => asI .i64 (.c q_1) fun n_2 => scK (n_2 == (-1)) false (atK l0 0 fun q_3 => asI .i64 (.c q_3) fun n_4 => c1 (C 164 [(.c (.int .i64 n_4))] h0) fun y_6 h_5 => asB y_6 fun b_7 => scK b_7 true (atK l0 1 fun q_8 => asI .i64 (.c q_8) fun n_9 => some ((n_9 == 0), h_5)) false h_5 fun b_10 h_11 => some (b_10, h_11)) true h0 fun b_12 h_13 => some ([(.c (.bool b_12))], h_13) := by kernel_rfl

/- jacquard/print.isReg: 164 -/
set_option maxRecDepth 100000 in
theorem print_isReg_eq (C : CallF) (L : LoopF) (G : Glo) (a0 : Int) (h0 : AHeap) :
    print_isReg.body C L G [(.c (.int .i64 a0))] h0 =
    scK (decide (a0 ≥ 0)) true (some ((decide (a0 < 4)), h0)) false h0 fun b_1 h_2 => some ([(.c (.bool b_1))], h_2) := by kernel_rfl

/- jacquard/print.okCond$1$1: 165 -/
set_option maxRecDepth 100000 in
theorem print_okCond_1_1_eq (C : CallF) (L : LoopF) (G : Glo) (l0 : List Cell) (h0 : AHeap) :
    print_okCond_1_1.body C L G [(.agg l0)] h0 =
    if 0 = 0 ∧ l0.length = 4 then c1 (C 166 [(.agg l0)] h0) fun y_2 h_1 => asB y_2 fun b_3 => some ([(.c (.bool (!b_3)))], h_1) else none := by kernel_rfl

/- jacquard/print.okAtom: 166 -/
set_option maxRecDepth 100000 in
theorem print_okAtom_eq (C : CallF) (L : LoopF) (G : Glo) (l0 : List Cell) (h0 : AHeap) :
    print_okAtom.body C L G [(.agg l0)] h0 =
    atK l0 0 fun q_1 => asI .i64 (.c q_1) fun n_2 => if (n_2 == (-1)) = true then atK l0 1 fun q_3 => asI .i64 (.c q_3) fun n_4 => scK (n_4 == 0) true (atK l0 2 fun q_5 => asI .i64 (.c q_5) fun n_6 => c1 (C 158 [(.c (.int .i64 n_6))] h0) fun y_8 h_7 => asB y_8 fun b_9 => some (b_9, h_7)) false h0 fun b_10 h_11 => some ([(.c (.bool b_10))], h_11) else atK l0 0 fun q_12 => asI .i64 (.c q_12) fun n_13 => scK (decide (n_13 ≥ 0)) true (atK l0 0 fun q_14 => asI .i64 (.c q_14) fun n_15 => some ((decide (n_15 ≤ 9)), h0)) false h0 fun b_16 h_17 => scK b_16 true (atK l0 2 fun q_18 => asI .i64 (.c q_18) fun n_19 => some ((n_19 == 0), h_17)) false h_17 fun b_20 h_21 => scK b_20 true (atK l0 1 fun q_22 => asI .i64 (.c q_22) fun n_23 => c1 (C 164 [(.c (.int .i64 n_23))] h_21) fun y_25 h_24 => asB y_25 fun b_26 => some (b_26, h_24)) false h_21 fun b_27 h_28 => some ([(.c (.bool b_27))], h_28) := by kernel_rfl


end Jq

/- Is a test one that could be in a tree? -/
namespace Jq
open Go

def locB (n : Int) : Bool := decide (n ≥ 97) && decide (n ≤ 122)
def regB (n : Int) : Bool := decide (n ≥ 0) && decide (n < 4)
def opB (o : Opd) : Bool := o.reg == -1 || (regB o.reg && o.val == 0)
def fldB (has : Int → Bool) (i : Ins) : Bool :=
  if i.kind = 1 then has i.loc && opB i.a && decide (i.cs = (⟨i.kind, 0, i.loc, i.a, 0, ⟨0, 0⟩, 0⟩ : Ins).cs)
  else if i.kind = 2 then has i.loc && regB i.reg && decide (i.cs = (⟨i.kind, i.reg, i.loc, ⟨0, 0⟩, 0, ⟨0, 0⟩, 0⟩ : Ins).cs)
  else if i.kind = 3 then decide (i.cs = (⟨i.kind, 0, 0, ⟨0, 0⟩, 0, ⟨0, 0⟩, 0⟩ : Ins).cs)
  else if i.kind = 4 then has i.loc && regB i.reg && opB i.a && opB i.b && decide (i.cs = (⟨i.kind, i.reg, i.loc, i.a, 0, i.b, 0⟩ : Ins).cs)
  else if i.kind = 5 then regB i.reg && opB i.a && opB i.b && decide (i.op ≥ 0) && decide (i.op ≤ 11) && (decide (i.op > 0) || decide (i.b.cs = (⟨-1, 0⟩ : Opd).cs)) && decide (i.cs = (⟨i.kind, i.reg, 0, i.a, i.op, i.b, 0⟩ : Ins).cs)
  else if i.kind = 6 then decide (i.n ≥ 0) && opB i.a && opB i.b && decide (i.cs = (⟨i.kind, 0, 0, i.a, 0, i.b, i.n⟩ : Ins).cs)
  else false

section
variable {E : Env}

theorem IsLoc_R (hE : print_IsLoc_In E) (n : Int) (h : AHeap) : R E 158 [.c (.int .i64 n)] h = some ([.c (.bool (locB n))], h) := by
  refine R_intro hE.fn ?_
  rw [print_IsLoc_eq, scK_and]; rfl
theorem isReg_R (hE : print_isReg_In E) (n : Int) (h : AHeap) : R E 164 [.c (.int .i64 n)] h = some ([.c (.bool (regB n))], h) := by
  refine R_intro hE.fn ?_
  rw [print_isReg_eq, scK_and]; rfl
theorem isOperand_R (hE : print_isOperand_In E) (o : Opd) (h : AHeap) : R E 163 [.agg o.cs] h = some ([.c (.bool (opB o))], h) := by
  refine R_intro hE.fn ?_
  have a0 : ∀ {α : Type} (f : Cell → Option α), atK o.cs 0 f = f (.int .i64 o.reg) := fun _ => rfl
  have a1 : ∀ {α : Type} (f : Cell → Option α), atK o.cs 1 f = f (.int .i64 o.val) := fun _ => rfl
  rw [print_isOperand_eq]
  simp only [a0, a1, asI_ok, isReg_R hE.c164, c1_ok, asB_ok, scK_and, scK_or]
  rfl

/-- A function value that answers as said. -/
def Says (E : Env) (h : AHeap) (f : Cell) (has : Int → Bool) : Prop := ∀ (n : Int) {α : Type} (F : AV → AHeap → Option α), (fnK f fun g cs => c1 (R E g ([.c (.int .i64 n)] ++ cs) h) F) = F (.c (.bool (has n))) h

theorem Fields_R (hE : print_Fields_In E) (i : Ins) {f : Cell} {has : Int → Bool} {h : AHeap} (hf : Says E h f has) : R E 159 [.agg i.cs, .c f] h = some ([.c (.bool (fldB has i))], h) := by
  refine R_intro hE.fn ?_
  rw [print_Fields_eq, ins_kind, asI_ok, if_pos ⟨rfl, rfl, rfl⟩, ins_kind, asI_ok]
  by_cases h1 : i.kind = 1
  · rw [if_pos (by simpa using h1), ins_loc, asI_ok, if_pos (by exact Nat.le_of_ble_eq_true rfl), if_pos (by exact Nat.le_of_ble_eq_true rfl), if_pos (by exact ⟨Nat.le_of_ble_eq_true rfl, rfl⟩), ins_loc, asI_ok, hf, asB_ok, if_pos (by exact Nat.le_of_ble_eq_true rfl), ins_a, isOperand_R hE.c163, c1_ok, asB_ok, scK_and, if_pos ⟨rfl, rfl⟩, if_pos ⟨rfl, rfl⟩, if_pos ⟨rfl, rfl⟩, scK_and, fldB, if_pos h1]
    rfl
  rw [if_neg (by simpa using h1)]
  by_cases h2 : i.kind = 2
  · rw [if_pos (by simpa using h2), ins_reg, asI_ok, ins_loc, asI_ok, if_pos (by exact Nat.le_of_ble_eq_true rfl), if_pos (by exact Nat.le_of_ble_eq_true rfl), ins_loc, asI_ok, hf, asB_ok, ins_reg, asI_ok, isReg_R hE.c164, c1_ok, asB_ok, scK_and, if_pos ⟨rfl, rfl⟩, if_pos ⟨rfl, rfl⟩, if_pos ⟨rfl, rfl⟩, scK_and, fldB, if_neg h1, if_pos h2]
    rfl
  rw [if_neg (by simpa using h2)]
  by_cases h3 : i.kind = 3
  · rw [if_pos (by simpa using h3), if_pos ⟨rfl, rfl⟩, if_pos ⟨rfl, rfl⟩, if_pos ⟨rfl, rfl⟩, scK_and, fldB, if_neg h1, if_neg h2, if_pos h3]
    rfl
  rw [if_neg (by simpa using h3)]
  by_cases h4 : i.kind = 4
  · rw [if_pos (by simpa using h4), ins_reg, asI_ok, ins_loc, asI_ok, if_pos (by exact Nat.le_of_ble_eq_true rfl), if_pos (by exact Nat.le_of_ble_eq_true rfl), if_pos (by exact Nat.le_of_ble_eq_true rfl), if_pos (by exact Nat.le_of_ble_eq_true rfl), if_pos (by exact ⟨Nat.le_of_ble_eq_true rfl, rfl⟩), if_pos (by exact ⟨Nat.le_of_ble_eq_true rfl, rfl⟩), ins_loc, asI_ok, hf, asB_ok, ins_reg, asI_ok, isReg_R hE.c164, c1_ok, asB_ok, scK_and, if_pos (by exact Nat.le_of_ble_eq_true rfl), ins_a, isOperand_R hE.c163, c1_ok, asB_ok, scK_and, if_pos (by exact Nat.le_of_ble_eq_true rfl), ins_b, isOperand_R hE.c163, c1_ok, asB_ok, scK_and, if_pos ⟨rfl, rfl⟩, if_pos ⟨rfl, rfl⟩, if_pos ⟨rfl, rfl⟩, scK_and, fldB, if_neg h1, if_neg h2, if_neg h3, if_pos h4]
    rfl
  rw [if_neg (by simpa using h4)]
  by_cases h5 : i.kind = 5
  · rw [if_pos (by simpa using h5), ins_reg, asI_ok, if_pos (by exact Nat.le_of_ble_eq_true rfl), ins_op, asI_ok, if_pos (by exact Nat.le_of_ble_eq_true rfl), if_pos (by exact Nat.le_of_ble_eq_true rfl), if_pos (by exact ⟨Nat.le_of_ble_eq_true rfl, rfl⟩), if_pos (by exact Nat.le_of_ble_eq_true rfl), if_pos (by exact ⟨Nat.le_of_ble_eq_true rfl, rfl⟩), ins_reg, asI_ok, isReg_R hE.c164, c1_ok, asB_ok, if_pos (by exact Nat.le_of_ble_eq_true rfl), ins_a, isOperand_R hE.c163, c1_ok, asB_ok, scK_and, if_pos (by exact Nat.le_of_ble_eq_true rfl), ins_b, isOperand_R hE.c163, c1_ok, asB_ok, scK_and, ins_op, asI_ok, scK_and, ins_op, asI_ok, scK_and, ins_op, asI_ok, if_pos (by exact Nat.le_of_ble_eq_true rfl), if_pos ⟨rfl, rfl⟩, scK_or, scK_and, if_pos ⟨rfl, rfl⟩, if_pos ⟨rfl, rfl⟩, if_pos ⟨rfl, rfl⟩, scK_and, fldB, if_neg h1, if_neg h2, if_neg h3, if_neg h4, if_pos h5]
    rfl
  rw [if_neg (by simpa using h5)]
  by_cases h6 : i.kind = 6
  · rw [if_pos (by simpa using h6), ins_n, asI_ok, if_pos (by exact Nat.le_of_ble_eq_true rfl), if_pos (by exact Nat.le_of_ble_eq_true rfl), if_pos (by exact Nat.le_of_ble_eq_true rfl), if_pos (by exact ⟨Nat.le_of_ble_eq_true rfl, rfl⟩), if_pos (by exact ⟨Nat.le_of_ble_eq_true rfl, rfl⟩), ins_n, asI_ok, if_pos (by exact Nat.le_of_ble_eq_true rfl), ins_a, isOperand_R hE.c163, c1_ok, asB_ok, scK_and, if_pos (by exact Nat.le_of_ble_eq_true rfl), ins_b, isOperand_R hE.c163, c1_ok, asB_ok, scK_and, if_pos ⟨rfl, rfl⟩, if_pos ⟨rfl, rfl⟩, if_pos ⟨rfl, rfl⟩, scK_and, fldB, if_neg h1, if_neg h2, if_neg h3, if_neg h4, if_neg h5, if_pos h6]
    rfl
  rw [if_neg (by simpa using h6), fldB, if_neg h1, if_neg h2, if_neg h3, if_neg h4, if_neg h5, if_neg h6]

theorem okIns_R (hE : print_okIns_In E) (i : Ins) (h : AHeap) : R E 157 [.agg i.cs] h = some ([.c (.bool (fldB locB i))], h) := by
  refine R_intro hE.fn ?_
  have hs : Says E h (.fn 158 []) locB := fun n α F => by
    show c1 (R E 158 ([.c (.int .i64 n)] ++ []) h) F = _
    rw [List.append_nil, IsLoc_R hE.c158, c1_ok]
  rw [print_okIns_eq, if_pos ⟨rfl, rfl⟩, Fields_R hE.c159 i hs, c1_ok, asB_ok]

theorem Ok_1_1_R (hE : print_Ok_1_1_In E) (i : Ins) (h : AHeap) : R E 154 [.agg i.cs] h = some ([.c (.bool (!fldB locB i))], h) := by
  refine R_intro hE.fn ?_
  rw [print_Ok_1_1_eq, if_pos ⟨rfl, rfl⟩, okIns_R hE.c157, c1_ok, asB_ok]

theorem Ok_1_R (hE : print_Ok_1_In E) {x : Cell} {l : List Ins} {h : AHeap} (hx : SlAt h x 9 (codeC l) l.length) (hl : l.length < 9223372036854775807) : R E 140 [.c x] h = some ([.c (.bool (l.any fun i => !fldB locB i))], h) := by
  refine R_intro hE.fn ?_
  have hc := any_sIns_Ins_R hE.c155 (f := .fn 154 []) hx hl (fun i => !fldB locB i) fun i _ α F => by
    show c1 (R E 154 ([.agg i.cs] ++ []) h) F = _
    rw [List.append_nil, Ok_1_1_R hE.c154, c1_ok]
  rw [print_Ok_1_eq, hc, c1_ok, asB_ok]

theorem Ok_2_R (hE : print_Ok_2_In E) (p : Int × Int) (h : AHeap) : R E 142 [.agg (pairCs p)] h = some ([.c (.bool (!locB p.1))], h) := by
  refine R_intro hE.fn ?_
  have a0 : ∀ {α : Type} (f : Cell → Option α), atK (pairCs p) 0 f = f (.int .i64 p.1) := fun _ => rfl
  rw [print_Ok_2_eq, a0, asI_ok, IsLoc_R hE.c158, c1_ok, asB_ok]

/-- Is a name a word? -/
def chrB (b : UInt8) (first : Bool) : Bool := !((decide ((b.toNat : Int) < 97) || decide ((b.toNat : Int) > 122)) && ((first || decide ((b.toNat : Int) < 48)) || decide ((b.toNat : Int) > 57)))
def wordB (s : ByteArray) : Bool := (List.range s.size).all (fun i => match s[i]? with | some b => chrB b (i == 0) | none => true) && !(s.toList == (ByteArray.mk #[]).toList)

theorem isWord_R (hE : print_isWord_In E) {s : ByteArray} (hs : s.size < 9223372036854775807) (h : AHeap) : R E 141 [.c (.str s)] h = some ([.c (.bool (wordB s))], h) := by
  refine R_intro hE.fn ?_
  have loop : ∀ (n i : Nat), i + n = s.size → (Lim (print_isWord_F1 (R E) Lim E.glob) (print_isWord_s1 s s.size (i : Int) h)).bind (fun q => print_isWord_k3 (R E) Lim E.glob h q.1 q.2) =
      some ([.c (.bool (((List.range n).all fun k => match s[i + k]? with | some b => chrB b (i + k == 0) | none => true) && !(s.toList == (ByteArray.mk #[]).toList)))], h) := by
    intro n
    induction n with
    | zero =>
      intro i hi
      have hr : print_isWord_F1 (R E) Lim E.glob (print_isWord_s1 s s.size (i : Int) h) = some (.exit 0, print_isWord_x1_1 s h) := by rw [print_isWord_r1, if_neg (by simp; omega)]
      rw [Lim_exit hr, bind_ok, print_isWord_e1_1]; rfl
    | succ n ih =>
      intro i hi
      have hq : s[i]? = some s[i] := getElem?_pos s i (by omega)
      generalize s[i] = b at hq
      have hz : ((i : Int) == 0) = (i == 0) := by cases i <;> rfl
      have hg : print_isWord_F1 (R E) Lim E.glob (print_isWord_s1 s s.size (i : Int) h) = if (!chrB b (i == 0)) = true then some (.ret, print_isWord_x1_0 false h) else some (.normal, print_isWord_s1 s s.size ((i + 1 : Nat) : Int) h) := by
        rw [print_isWord_r1, if_pos (by simp; omega), if_pos (by omega), Int.toNat_natCast, hq, bind_ok]
        simp only [scK_or, scK_and, hz]
        rw [g_succ (by omega), show (!chrB b (i == 0)) = ((decide ((b.toNat : Int) < 97) || decide ((b.toNat : Int) > 122)) && ((i == 0 || decide ((b.toNat : Int) < 48)) || decide ((b.toNat : Int) > 57))) by unfold chrB; rw [Bool.not_not]]
      rw [List.range_succ_eq_map, List.all_cons, List.all_map, Nat.add_zero, hq]
      dsimp only
      cases hb : chrB b (i == 0) with
      | false =>
        rw [hb, if_pos (show (!false) = true from rfl)] at hg
        rw [Lim_ret hg, bind_ok, print_isWord_e1_0]; rfl
      | true =>
        rw [hb, if_neg (by simp)] at hg
        have h1 := ih (i + 1) (by omega)
        rw [Bool.true_and]
        have he : ((List.range n).all ((fun k => match s[i + k]? with | some b => chrB b (i + k == 0) | none => true) ∘ Nat.succ)) = ((List.range n).all fun k => match s[i + 1 + k]? with | some b => chrB b (i + 1 + k == 0) | none => true) := by
          congr 1
          funext k
          show (match s[i + (k + 1)]? with | some b => chrB b (i + (k + 1) == 0) | none => true) = _
          rw [show i + (k + 1) = i + 1 + k by omega]
        rw [he]
        cases hL : Lim (print_isWord_F1 (R E) Lim E.glob) (print_isWord_s1 s s.size ((i + 1 : Nat) : Int) h) with
        | none => rw [hL] at h1; cases h1
        | some w => rw [Lim_next hg hL]; rw [hL] at h1; exact h1
  have := loop s.size 0 (by omega)
  rw [print_isWord_eq, show ∀ {α : Type} (f : Int → Option α), lenSK (.str s) f = f s.size from fun _ => rfl]
  rw [show ((0 : Nat) : Int) = 0 from rfl] at this
  rw [this]
  unfold wordB
  simp only [Nat.zero_add]

def atmB (a : Atm) : Bool := if a.thread = -1 then (a.reg == 0 && locB a.loc) else decide (a.thread ≥ 0) && decide (a.thread ≤ 9) && (a.loc == 0) && regB a.reg

theorem okAtom_R (hE : print_okAtom_In E) (a : Atm) (h : AHeap) : R E 166 [.agg a.cs] h = some ([.c (.bool (atmB a))], h) := by
  refine R_intro hE.fn ?_
  have a0 : ∀ {α : Type} (f : Cell → Option α), atK a.cs 0 f = f (.int .i64 a.thread) := fun _ => rfl
  have a1 : ∀ {α : Type} (f : Cell → Option α), atK a.cs 1 f = f (.int .i64 a.reg) := fun _ => rfl
  have a2 : ∀ {α : Type} (f : Cell → Option α), atK a.cs 2 f = f (.int .i64 a.loc) := fun _ => rfl
  rw [print_okAtom_eq]
  simp only [a0, a1, a2, asI_ok, IsLoc_R hE.c158, isReg_R hE.c164, c1_ok, asB_ok, scK_and]
  unfold atmB
  by_cases h1 : a.thread = -1
  · rw [if_pos (by simpa using h1), if_pos h1]
  · rw [if_neg (by simpa using h1), if_neg h1]

theorem okCond_1_1_R (hE : print_okCond_1_1_In E) (a : Atm) (h : AHeap) : R E 165 [.agg a.cs] h = some ([.c (.bool (!atmB a))], h) := by
  refine R_intro hE.fn ?_
  rw [print_okCond_1_1_eq, if_pos ⟨rfl, rfl⟩, okAtom_R hE.c166, c1_ok, asB_ok]

def rowBad (r : List Atm) : Bool := r.length == 0 || r.any fun a => !atmB a
theorem okCond_1_R (hE : print_okCond_1_In E) {x : Cell} {l : List Atm} {h : AHeap} (hx : SlAt h x 4 (atmC l) l.length) (hl : l.length < 9223372036854775807) : R E 161 [.c x] h = some ([.c (.bool (rowBad l))], h) := by
  refine R_intro hE.fn ?_
  have hc := any_sAtom_Atom_R hE.c132 (f := .fn 165 []) hx hl (fun i => !atmB i) fun i _ α F => by
    show c1 (R E 165 ([.agg i.cs] ++ []) h) F = _
    rw [List.append_nil, okCond_1_1_R hE.c165, c1_ok]
  rw [print_okCond_1_eq, hx.len, hc, c1_ok, asB_ok, scK_or]
  have hz : ((l.length : Int) == 0) = (l.length == 0) := by cases l <;> rfl
  rw [hz]; rfl

def condB (ck : Int) (any : List (List Atm)) : Bool := if ck = 0 then any.length == 0 else (ck == 1 || ck == 2) && decide ((any.length : Int) > 0) && !(any.any rowBad)

/-- The rows that came in are not too long. -/
structure PTest.fits (T : PTest) : Prop where
  name : T.name.size < 9223372036854775807
  inits : T.inits.length < 9223372036854775807
  thr : T.thr.length < 9223372036854775807
  code : ∀ c ∈ T.thr, c.length < 9223372036854775807
  any : T.any.length < 9223372036854775807
  row : ∀ c ∈ T.any, c.length < 9223372036854775807

theorem okCond_R (hE : print_okCond_In E) {ck : Int} {c : Cell} {any : List (List Atm)} {h : AHeap} (hc : RowsOf 4 atmC h c any) (hl : any.length < 9223372036854775807) (hr : ∀ r ∈ any, r.length < 9223372036854775807) : R E 144 [.agg [.int .i64 ck, c]] h = some ([.c (.bool (condB ck any))], h) := by
  refine R_intro hE.fn ?_
  have a0 : ∀ {α : Type} (f : Cell → Option α), atK [.int .i64 ck, c] 0 f = f (.int .i64 ck) := fun _ => rfl
  have a1 : ∀ {α : Type} (f : Cell → Option α), atK [.int .i64 ck, c] 1 f = f c := fun _ => rfl
  have hcf := any_ssAtom_sAtom_R hE.c146 (f := .fn 161 []) hc hl rowBad fun r hm y hy α F => by
    show c1 (R E 161 ([.c y] ++ []) h) F = _
    rw [List.append_nil, okCond_1_R hE.c161 hy (hr r hm), c1_ok]
  rw [print_okCond_eq]
  simp only [a0, a1, asI_ok, hc.len, hcf, c1_ok, asB_ok, scK_or, scK_and]
  unfold condB
  have hz : ((any.length : Int) == 0) = (any.length == 0) := by cases any <;> rfl
  by_cases h1 : ck = 0
  · rw [if_pos (by simpa using h1), if_pos h1, hz]
  · rw [if_neg (by simpa using h1), if_neg h1]

def okT (T : PTest) : Bool := wordB T.name && !(T.inits.any fun p => !locB p.1) && !(T.thr.any fun c => c.any fun i => !fldB locB i) && condB T.ck T.any

theorem print_Ok_R (hE : print_Ok_In E) {cs : List Cell} {T : PTest} {h : AHeap} (p : TestAt h cs T) (hs : T.fits) : R E 126 [.agg cs] h = some ([.c (.bool (okT T))], h) := by
  refine R_intro hE.fn ?_
  obtain ⟨a, b, c, rfl, ⟨ha, hal⟩, hb, hc⟩ := p
  have a0 : ∀ {α : Type} (f : Cell → Option α), atK [.str T.name, a, b, .int .i64 T.ck, c] 0 f = f (.str T.name) := fun _ => rfl
  have a1 : ∀ {α : Type} (f : Cell → Option α), atK [.str T.name, a, b, .int .i64 T.ck, c] 1 f = f a := fun _ => rfl
  have a2 : ∀ {α : Type} (f : Cell → Option α), atK [.str T.name, a, b, .int .i64 T.ck, c] 2 f = f b := fun _ => rfl
  have c1' := any_sInit_Init_R hE.c143 (f := .fn 142 []) ha hs.inits (fun p => !locB p.1) fun i _ α F => by
    show c1 (R E 142 ([.agg (pairCs i)] ++ []) h) F = _
    rw [List.append_nil, Ok_2_R hE.c142, c1_ok]
  have c2' := any_ssIns_sIns_R hE.c130 (f := .fn 140 []) hb hs.thr (fun c => c.any fun i => !fldB locB i) fun r hm y hy α F => by
    show c1 (R E 140 ([.c y] ++ []) h) F = _
    rw [List.append_nil, Ok_1_R hE.c140 hy (hs.code r hm), c1_ok]
  rw [print_Ok_eq, a0, show ∀ {α : Type} (f : ByteArray → Option α), asS (.c (.str T.name)) f = f T.name from fun _ => rfl, isWord_R hE.c141 hs.name, c1_ok, asB_ok, a1, c1', c1_ok, asB_ok, scK_and, a2, c2', c1_ok, asB_ok, scK_and, if_pos (by exact Nat.le_of_ble_eq_true rfl), show ((([.str T.name, a, b, .int .i64 T.ck, c] : List Cell).drop 3).take 2) = [.int .i64 T.ck, c] from rfl, okCond_R hE.c144 hc hs.any hs.row, c1_ok, asB_ok, scK_and]
  rfl

end
end Jq

namespace Jq
open Go

/- jacquard/well.Check: 116 -/
def well_Check_k2 (C : CallF) (L : LoopF) (G : Glo) (h0 : AHeap) : Ex → St → Option (List AV × AHeap) :=
  kSeq (fun st => well_Check_p1.exec C L G st (well_Check.fin G h0)) (well_Check.fin G h0)
def well_Check_k3 (C : CallF) (L : LoopF) (G : Glo) (h0 : AHeap) : Ex → St → Option (List AV × AHeap) :=
  kBlk 1 (well_Check_k2 C L G h0)
def well_Check_s1 (k1 : Nat) (N1 : Nat) (o1 : Nat) (x22 : Cell) (a23 : Int) (a24 : Int) (h : AHeap) : St := ⟨[.top, .v (.c (.ptr k1 N1 o1)), .top, .top, .top, .top, .top, .top, .top, .top, .top, .top, .top, .top, .top, .top, .top, .top, .top, .top, .top, .top, .v (.c x22), .v (.c (.int .i64 a23)), .v (.c (.int .i64 a24)), .top, .top, .top, .top, .top, .top, .top], [], h⟩
def well_Check_F1 (C : CallF) (L : LoopF) (G : Glo) : St → Option (Ex × St) :=
  roundF (fun st f => well_Check_b1.exec C L G st f) [1, 22, 23, 24] [] [(0, [2], []), (2, [], [])]
def well_Check_x1_0 (a2 : Int) (h : AHeap) : St := ⟨[.top, .top, .v (.c (.int .i64 a2)), .top, .top, .top, .top, .top, .top, .top, .top, .top, .top, .top, .top, .top, .top, .top, .top, .top, .top, .top, .top, .top, .top, .top, .top, .top, .top, .top, .top, .top], [], h⟩
def well_Check_x1_2 (h : AHeap) : St := ⟨[.top, .top, .top, .top, .top, .top, .top, .top, .top, .top, .top, .top, .top, .top, .top, .top, .top, .top, .top, .top, .top, .top, .top, .top, .top, .top, .top, .top, .top, .top, .top, .top], [], h⟩
theorem well_Check_r1 (C : CallF) (L : LoopF) (G : Glo) (k1 : Nat) (N1 : Nat) (o1 : Nat) (x22 : Cell) (a23 : Int) (a24 : Int) (h : AHeap) :
    well_Check_F1 C L G (well_Check_s1 k1 N1 o1 x22 a23 a24 h) =
    if (decide (a24 < a23)) = true then idxSK 1 x22 a24 fun k_22 N_23 o_24 => rdH h k_22 N_23 fun l_25 => atK l_25 o_24 fun q_26 => c1 (C 132 [(.c q_26), (.c (.fn 131 [(k1, N1, o1)]))] h) fun y_28 h_27 => asB y_28 fun b_29 => if b_29 = true then some (.ret, (well_Check_x1_0 10 h_27)) else some (.normal, (well_Check_s1 k1 N1 o1 x22 a23 (G.wrap .i64 (a24 + 1)) h_27)) else some ((.exit 1), (well_Check_x1_2 h)) := by kernel_rfl
theorem well_Check_e1_0 (C : CallF) (L : LoopF) (G : Glo) (h0 : AHeap) (a2 : Int) (h : AHeap) :
    (well_Check_k3 C L G h0) .ret (well_Check_x1_0 a2 h) =
    finish true h0 [(.c (.int .i64 a2))] h := by kernel_rfl
theorem well_Check_e1_2 (C : CallF) (L : LoopF) (G : Glo) (h0 : AHeap) (h : AHeap) :
    (well_Check_k3 C L G h0) (.exit 1) (well_Check_x1_2 h) =
    finish true h0 [(.c (.int .i64 0))] h := by kernel_rfl
set_option maxRecDepth 100000 in
theorem well_Check_eq (C : CallF) (L : LoopF) (G : Glo) (l0 : List Cell) (h0 : AHeap) :
    well_Check.body C L G [(.agg l0)] h0 =
    rdH (h0 ++ [some (Blk.mk true 0 (AV.cells (.agg l0)))]) h0.length ((AV.cells (.agg l0)).length) fun l_1 => if 0 = 0 ∧ l_1.length = 5 then c1 (C 126 [(.agg l_1)] (h0 ++ [some (Blk.mk true 0 (AV.cells (.agg l0)))])) fun y_3 h_2 => asB y_3 fun b_4 => if (!b_4) = true then finish true h0 [(.c (.int .i64 1))] h_2 else rdH h_2 h0.length ((AV.cells (.agg l0)).length) fun l_5 => if 0 = 0 ∧ l_5.length = 5 then c1 (C 127 [(.agg l_5)] h_2) fun y_7 h_6 => asB y_7 fun b_8 => if b_8 = true then finish true h0 [(.c (.int .i64 8))] h_6 else rdH h_6 h0.length ((AV.cells (.agg l0)).length) fun l_9 => atK l_9 1 fun q_10 => c1 (C 128 [(.c q_10)] h_6) fun y_12 h_11 => asB y_12 fun b_13 => if b_13 = true then finish true h0 [(.c (.int .i64 9))] h_11 else rdH h_11 h0.length ((AV.cells (.agg l0)).length) fun l_14 => atK l_14 2 fun q_15 => c1 (C 130 [(.c q_15), (.c (.fn 129 []))] h_11) fun y_17 h_16 => asB y_17 fun b_18 => if b_18 = true then finish true h0 [(.c (.int .i64 10))] h_16 else rdH h_16 h0.length ((AV.cells (.agg l0)).length) fun l_19 => atK l_19 4 fun q_20 => lenK q_20 fun n_21 => (L (well_Check_F1 C L G) (well_Check_s1 h0.length ((AV.cells (.agg l0)).length) 0 q_20 n_21 0 h_16)).bind fun p_30 => (well_Check_k3 C L G h0) p_30.1 p_30.2 else none else none := by kernel_rfl

/- jacquard/well.Locs: 117 -/
def well_Locs_k2 (C : CallF) (L : LoopF) (G : Glo) (h0 : AHeap) : Ex → St → Option (List AV × AHeap) :=
  kSeq (fun st => well_Locs_p1.exec C L G st (well_Locs.fin G h0)) (well_Locs.fin G h0)
def well_Locs_k3 (C : CallF) (L : LoopF) (G : Glo) (h0 : AHeap) : Ex → St → Option (List AV × AHeap) :=
  kBlk 0 (well_Locs_k2 C L G h0)
def well_Locs_s1 (x3 : Cell) (a4 : Int) (a8 : Int) (h : AHeap) : St := ⟨[.top, .top, .top, .v (.c x3), .v (.c (.int .u64 a4)), .top, .top, .top, .v (.c (.int .i64 a8)), .top, .top, .top, .top, .top, .top, .top, .top, .top, .top, .top, .top, .top, .top, .top], [none], h⟩
def well_Locs_F1 (C : CallF) (L : LoopF) (G : Glo) : St → Option (Ex × St) :=
  roundF (fun st f => well_Locs_b1.exec C L G st f) [3, 4, 8] [] [(1, [3], [])]
def well_Locs_x1_1 (x3 : Cell) (h : AHeap) : St := ⟨[.top, .top, .top, .v (.c x3), .top, .top, .top, .top, .top, .top, .top, .top, .top, .top, .top, .top, .top, .top, .top, .top, .top, .top, .top, .top], [none], h⟩
theorem well_Locs_r1 (C : CallF) (L : LoopF) (G : Glo) (x3 : Cell) (a4 : Int) (a8 : Int) (h : AHeap) :
    well_Locs_F1 C L G (well_Locs_s1 x3 a4 a8 h) =
    if (decide (a8 < 26)) = true then if a8 < 0 then none else if ((G.band .u64 (G.shr .u64 a4 a8) 1) == 1) = true then if (splice [Cell.int .u8 0] 0 ([(.int .u8 (G.wrap .u8 (97 + (G.wrap .u8 a8))))] : List Cell)).length = 1 * 1 then appK 1 1 x3 (splice [Cell.int .u8 0] 0 ([(.int .u8 (G.wrap .u8 (97 + (G.wrap .u8 a8))))] : List Cell)) h fun x_4 h_5 => some (.normal, (well_Locs_s1 x_4 a4 (G.wrap .i64 (a8 + 1)) h_5)) else none else some (.normal, (well_Locs_s1 x3 a4 (G.wrap .i64 (a8 + 1)) h)) else some ((.exit 0), (well_Locs_x1_1 x3 h)) := by kernel_rfl
theorem well_Locs_e1_1 (C : CallF) (L : LoopF) (G : Glo) (h0 : AHeap) (x3 : Cell) (h : AHeap) :
    (well_Locs_k3 C L G h0) (.exit 0) (well_Locs_x1_1 x3 h) =
    some ([(.c x3)], h) := by kernel_rfl
set_option maxRecDepth 100000 in
theorem well_Locs_eq (C : CallF) (L : LoopF) (G : Glo) (l0 : List Cell) (h0 : AHeap) :
    well_Locs.body C L G [(.agg l0)] h0 =
    if 0 = 0 ∧ l0.length = 5 then c1 (C 133 [(.agg l0)] h0) fun y_2 h_1 => asI .u64 y_2 fun n_3 => (L (well_Locs_F1 C L G) (well_Locs_s1 .nils n_3 0 h_1)).bind fun p_6 => (well_Locs_k3 C L G h0) p_6.1 p_6.2 else none := by kernel_rfl

/- jacquard/well.big: 127 -/
def well_big_k2 (C : CallF) (L : LoopF) (G : Glo) (h0 : AHeap) : Ex → St → Option (List AV × AHeap) :=
  kSeq (fun st => well_big_p1.exec C L G st (well_big.fin G h0)) (well_big.fin G h0)
def well_big_k3 (C : CallF) (L : LoopF) (G : Glo) (h0 : AHeap) : Ex → St → Option (List AV × AHeap) :=
  kBlk 0 (well_big_k2 C L G h0)
def well_big_s1 (a3 : Int) (x8 : Cell) (a9 : Int) (a10 : Int) (s0 : List Cell) (h : AHeap) : St := ⟨[.top, .loc 0 0, .top, .v (.c (.int .i64 a3)), .top, .top, .top, .top, .v (.c x8), .v (.c (.int .i64 a9)), .v (.c (.int .i64 a10)), .top, .top, .top, .top, .top, .top, .top, .top, .top, .top, .top, .top, .top, .top, .top, .top, .top, .top, .top, .top, .top, .top, .top, .top, .top, .top, .top, .top, .top, .top, .top, .top, .top, .top, .top, .top, .top, .top, .top, .top, .top, .top, .top, .top, .top, .top, .top, .top, .top, .top, .top], [some s0], h⟩
def well_big_F1 (C : CallF) (L : LoopF) (G : Glo) : St → Option (Ex × St) :=
  roundF (fun st f => well_big_b1.exec C L G st f) [1, 3, 8, 9, 10] [0] [(0, [2], []), (1, [1, 3], [0])]
def well_big_x1_0 (b2 : Bool) (h : AHeap) : St := ⟨[.top, .top, .v (.c (.bool b2)), .top, .top, .top, .top, .top, .top, .top, .top, .top, .top, .top, .top, .top, .top, .top, .top, .top, .top, .top, .top, .top, .top, .top, .top, .top, .top, .top, .top, .top, .top, .top, .top, .top, .top, .top, .top, .top, .top, .top, .top, .top, .top, .top, .top, .top, .top, .top, .top, .top, .top, .top, .top, .top, .top, .top, .top, .top, .top, .top], [none], h⟩
def well_big_x1_1 (a3 : Int) (s0 : List Cell) (h : AHeap) : St := ⟨[.top, .loc 0 0, .top, .v (.c (.int .i64 a3)), .top, .top, .top, .top, .top, .top, .top, .top, .top, .top, .top, .top, .top, .top, .top, .top, .top, .top, .top, .top, .top, .top, .top, .top, .top, .top, .top, .top, .top, .top, .top, .top, .top, .top, .top, .top, .top, .top, .top, .top, .top, .top, .top, .top, .top, .top, .top, .top, .top, .top, .top, .top, .top, .top, .top, .top, .top, .top], [some s0], h⟩
theorem well_big_r1 (C : CallF) (L : LoopF) (G : Glo) (a3 : Int) (x8 : Cell) (a9 : Int) (a10 : Int) (s0 : List Cell) (h : AHeap) :
    well_big_F1 C L G (well_big_s1 a3 x8 a9 a10 s0 h) =
    if (decide (a10 < a9)) = true then idxSK 1 x8 a10 fun k_3 N_4 o_5 => rdH h k_3 N_4 fun l_6 => atK l_6 o_5 fun q_7 => lenK q_7 fun n_8 => if (decide (n_8 > 10)) = true then some (.ret, (well_big_x1_0 true h)) else lenK q_7 fun n_9 => some (.normal, (well_big_s1 (G.wrap .i64 (a3 + n_9)) x8 a9 (G.wrap .i64 (a10 + 1)) s0 h)) else some ((.exit 0), (well_big_x1_1 a3 s0 h)) := by kernel_rfl
theorem well_big_e1_0 (C : CallF) (L : LoopF) (G : Glo) (h0 : AHeap) (b2 : Bool) (h : AHeap) :
    (well_big_k3 C L G h0) .ret (well_big_x1_0 b2 h) =
    some ([(.c (.bool b2))], h) := by kernel_rfl
theorem well_big_e1_1 (C : CallF) (L : LoopF) (G : Glo) (h0 : AHeap) (a3 : Int) (s0 : List Cell) (h : AHeap) :
    (well_big_k3 C L G h0) (.exit 0) (well_big_x1_1 a3 s0 h) =
    atK s0 2 fun q_10 => lenK q_10 fun n_11 => scK (n_11 == 0) false (atK s0 2 fun q_12 => lenK q_12 fun n_13 => some ((decide (n_13 > 4)), h)) true h fun b_14 h_15 => scK b_14 false (some ((decide (a3 > 24)), h_15)) true h_15 fun b_16 h_17 => scK b_16 false (if 0 = 0 ∧ s0.length = 5 then c1 (C 117 [(.agg s0)] h_17) fun y_19 h_18 => asC y_19 fun x_20 => lenK x_20 fun n_21 => some ((decide (n_21 > 4)), h_18) else none) true h_17 fun b_22 h_23 => scK b_22 false (atK s0 4 fun q_24 => lenK q_24 fun n_25 => some ((decide (n_25 > 8)), h_23)) true h_23 fun b_26 h_27 => scK b_26 false (atK s0 4 fun q_28 => c1 (C 146 [(.c q_28), (.c (.fn 145 []))] h_27) fun y_30 h_29 => asB y_30 fun b_31 => some (b_31, h_29)) true h_27 fun b_32 h_33 => scK b_32 false (atK s0 0 fun q_34 => asS (.c q_34) fun z_35 => lenSK (.str z_35) fun n_36 => some ((decide (n_36 > 20)), h_33)) true h_33 fun b_37 h_38 => some ([(.c (.bool b_37))], h_38) := by kernel_rfl
set_option maxRecDepth 100000 in
theorem well_big_eq (C : CallF) (L : LoopF) (G : Glo) (l0 : List Cell) (h0 : AHeap) :
    well_big.body C L G [(.agg l0)] h0 =
    atK l0 2 fun q_1 => lenK q_1 fun n_2 => (L (well_big_F1 C L G) (well_big_s1 0 q_1 n_2 0 l0 h0)).bind fun p_39 => (well_big_k3 C L G h0) p_39.1 p_39.2 := by kernel_rfl

/- jacquard/well.twice: 128 -/
def well_twice_k2 (C : CallF) (L : LoopF) (G : Glo) (h0 : AHeap) : Ex → St → Option (List AV × AHeap) :=
  kSeq (fun st => well_twice_p1.exec C L G st (well_twice.fin G h0)) (well_twice.fin G h0)
def well_twice_k3 (C : CallF) (L : LoopF) (G : Glo) (h0 : AHeap) : Ex → St → Option (List AV × AHeap) :=
  kBlk 0 (well_twice_k2 C L G h0)
def well_twice_s1 (a3 : Int) (x6 : Cell) (a7 : Int) (a8 : Int) (h : AHeap) : St := ⟨[.top, .top, .top, .v (.c (.int .u64 a3)), .top, .top, .v (.c x6), .v (.c (.int .i64 a7)), .v (.c (.int .i64 a8)), .top, .top, .top, .top, .top, .top, .top, .top, .top, .top, .top, .top, .top, .top, .top, .top, .top], [none], h⟩
def well_twice_F1 (C : CallF) (L : LoopF) (G : Glo) : St → Option (Ex × St) :=
  roundF (fun st f => well_twice_b1.exec C L G st f) [3, 6, 7, 8] [] [(0, [2], []), (1, [], [])]
def well_twice_x1_0 (b2 : Bool) (h : AHeap) : St := ⟨[.top, .top, .v (.c (.bool b2)), .top, .top, .top, .top, .top, .top, .top, .top, .top, .top, .top, .top, .top, .top, .top, .top, .top, .top, .top, .top, .top, .top, .top], [none], h⟩
def well_twice_x1_1 (h : AHeap) : St := ⟨[.top, .top, .top, .top, .top, .top, .top, .top, .top, .top, .top, .top, .top, .top, .top, .top, .top, .top, .top, .top, .top, .top, .top, .top, .top, .top], [none], h⟩
theorem well_twice_r1 (C : CallF) (L : LoopF) (G : Glo) (a3 : Int) (x6 : Cell) (a7 : Int) (a8 : Int) (h : AHeap) :
    well_twice_F1 C L G (well_twice_s1 a3 x6 a7 a8 h) =
    if (decide (a8 < a7)) = true then idxSK 2 x6 a8 fun k_2 N_3 o_4 => rdH h k_2 N_3 fun l_5 => if o_4 + 2 ≤ l_5.length then if 0 = 0 ∧ [Cell.int .i64 0, Cell.int .i64 0].length = 2 ∧ ((l_5.drop o_4).take 2).length = 2 then atK ((l_5.drop o_4).take 2) 0 fun q_6 => asI .i64 (.c q_6) fun n_7 => if (G.wrap .i64 (n_7 - 97)) < 0 then none else let v_8 : Int := (G.band .u64 (G.shr .u64 a3 (G.wrap .i64 (n_7 - 97))) 1); if (v_8 == 1) = true then some (.ret, (well_twice_x1_0 true h)) else atK ((l_5.drop o_4).take 2) 0 fun q_9 => asI .i64 (.c q_9) fun n_10 => if (G.wrap .i64 (n_10 - 97)) < 0 then none else let v_11 : Int := (G.bor .u64 a3 (G.shl .u64 1 (G.wrap .i64 (n_10 - 97)))); some (.normal, (well_twice_s1 v_11 x6 a7 (G.wrap .i64 (a8 + 1)) h)) else none else none else some ((.exit 0), (well_twice_x1_1 h)) := by kernel_rfl
theorem well_twice_e1_0 (C : CallF) (L : LoopF) (G : Glo) (h0 : AHeap) (b2 : Bool) (h : AHeap) :
    (well_twice_k3 C L G h0) .ret (well_twice_x1_0 b2 h) =
    some ([(.c (.bool b2))], h) := by kernel_rfl
theorem well_twice_e1_1 (C : CallF) (L : LoopF) (G : Glo) (h0 : AHeap) (h : AHeap) :
    (well_twice_k3 C L G h0) (.exit 0) (well_twice_x1_1 h) =
    some ([(.c (.bool false))], h) := by kernel_rfl
set_option maxRecDepth 100000 in
theorem well_twice_eq (C : CallF) (L : LoopF) (G : Glo) (x0 : Cell) (h0 : AHeap) :
    well_twice.body C L G [(.c x0)] h0 =
    lenK x0 fun n_1 => (L (well_twice_F1 C L G) (well_twice_s1 0 x0 n_1 0 h0)).bind fun p_12 => (well_twice_k3 C L G h0) p_12.1 p_12.2 := by kernel_rfl

/- jacquard/well.Check$1: 129 -/
set_option maxRecDepth 100000 in
theorem well_Check_1_eq (C : CallF) (L : LoopF) (G : Glo) (x0 : Cell) (h0 : AHeap) :
    well_Check_1.body C L G [(.c x0)] h0 =
    c1 (C 148 [(.c x0)] h0) fun y_2 h_1 => asB y_2 fun b_3 => some ([(.c (.bool (!b_3)))], h_1) := by kernel_rfl

/- jacquard/well.Check$2: 131 -/
set_option maxRecDepth 100000 in
theorem well_Check_2_eq (C : CallF) (L : LoopF) (G : Glo) (l0 : List Cell) (k1 : Nat) (N1 : Nat) (o1 : Nat) (h0 : AHeap) :
    well_Check_2.body C L G [(.agg l0), (.c (.ptr k1 N1 o1))] h0 =
    atK l0 0 fun q_1 => asI .i64 (.c q_1) fun n_2 => scK (n_2 != (-1)) true (atK l0 0 fun q_3 => asI .i64 (.c q_3) fun n_4 => rdH h0 k1 N1 fun l_5 => atK l_5 (o1 + 2) fun q_6 => lenK q_6 fun n_7 => some ((decide (n_4 ≥ n_7)), h0)) false h0 fun b_8 h_9 => some ([(.c (.bool b_8))], h_9) := by kernel_rfl

/- jacquard/well.letters: 133 -/
def well_letters_k2 (C : CallF) (L : LoopF) (G : Glo) (h0 : AHeap) : Ex → St → Option (List AV × AHeap) :=
  kSeq (fun st => well_letters_p1.exec C L G st (well_letters.fin G h0)) (well_letters.fin G h0)
def well_letters_k3 (C : CallF) (L : LoopF) (G : Glo) (h0 : AHeap) : Ex → St → Option (List AV × AHeap) :=
  kBlk 0 (well_letters_k2 C L G h0)
def well_letters_s1 (k3 : Nat) (N3 : Nat) (o3 : Nat) (x4 : Cell) (x17 : Cell) (a18 : Int) (a19 : Int) (s0 : List Cell) (h : AHeap) : St := ⟨[.top, .loc 0 0, .top, .v (.c (.ptr k3 N3 o3)), .v (.c x4), .top, .top, .top, .top, .top, .top, .top, .top, .top, .top, .top, .top, .v (.c x17), .v (.c (.int .i64 a18)), .v (.c (.int .i64 a19)), .top, .top, .top, .top, .top, .top, .top, .top, .top, .top, .top, .top, .top, .top, .top, .top, .top, .top, .top, .top, .top, .top, .top, .top, .top, .top, .top, .top, .top, .top, .top, .top, .top, .top, .top, .top, .top, .top, .top, .top, .top, .top, .top, .top, .top, .top, .top, .top], [some s0, none, none, none], h⟩
def well_letters_F1 (C : CallF) (L : LoopF) (G : Glo) : St → Option (Ex × St) :=
  roundF (fun st f => well_letters_b1.exec C L G st f) [1, 3, 4, 17, 18, 19] [0] [(1, [1, 3, 4], [0])]
def well_letters_x1_1 (k3 : Nat) (N3 : Nat) (o3 : Nat) (x4 : Cell) (s0 : List Cell) (h : AHeap) : St := ⟨[.top, .loc 0 0, .top, .v (.c (.ptr k3 N3 o3)), .v (.c x4), .top, .top, .top, .top, .top, .top, .top, .top, .top, .top, .top, .top, .top, .top, .top, .top, .top, .top, .top, .top, .top, .top, .top, .top, .top, .top, .top, .top, .top, .top, .top, .top, .top, .top, .top, .top, .top, .top, .top, .top, .top, .top, .top, .top, .top, .top, .top, .top, .top, .top, .top, .top, .top, .top, .top, .top, .top, .top, .top, .top, .top, .top, .top], [some s0, none, none, none], h⟩
def well_letters_k4 (C : CallF) (L : LoopF) (G : Glo) (h0 : AHeap) : Ex → St → Option (List AV × AHeap) :=
  kSeq (fun st => well_letters_p2.exec C L G st (well_letters.fin G h0)) (well_letters.fin G h0)
def well_letters_k5 (C : CallF) (L : LoopF) (G : Glo) (h0 : AHeap) : Ex → St → Option (List AV × AHeap) :=
  kBlk 2 (well_letters_k4 C L G h0)
def well_letters_s3 (k3 : Nat) (N3 : Nat) (o3 : Nat) (x4 : Cell) (x29 : Cell) (a30 : Int) (a31 : Int) (s0 : List Cell) (h : AHeap) : St := ⟨[.top, .loc 0 0, .top, .v (.c (.ptr k3 N3 o3)), .v (.c x4), .top, .top, .top, .top, .top, .top, .top, .top, .top, .top, .top, .top, .top, .top, .top, .top, .top, .top, .top, .top, .top, .top, .top, .top, .v (.c x29), .v (.c (.int .i64 a30)), .v (.c (.int .i64 a31)), .top, .top, .top, .top, .top, .top, .top, .top, .top, .top, .top, .top, .top, .top, .top, .top, .top, .top, .top, .top, .top, .top, .top, .top, .top, .top, .top, .top, .top, .top, .top, .top, .top, .top, .top, .top], [some s0, none, none, none], h⟩
def well_letters_F3 (C : CallF) (L : LoopF) (G : Glo) : St → Option (Ex × St) :=
  roundF (fun st f => well_letters_b3.exec C L G st f) [1, 3, 4, 29, 30, 31] [0] [(3, [1, 3, 4], [0])]
def well_letters_k6 (C : CallF) (L : LoopF) (G : Glo) : Ex → St → Option (Ex × St) :=
  kSeq (fun st => well_letters_p3.exec C L G st (kLoop [1, 3, 4, 29, 30, 31] [0] [(3, [1, 3, 4], [0])])) (kLoop [1, 3, 4, 29, 30, 31] [0] [(3, [1, 3, 4], [0])])
def well_letters_k7 (C : CallF) (L : LoopF) (G : Glo) : Ex → St → Option (Ex × St) :=
  kBlk 3 (well_letters_k6 C L G)
def well_letters_k8 (C : CallF) (L : LoopF) (G : Glo) : Ex → St → Option (Ex × St) :=
  kBlk 4 (well_letters_k7 C L G)
def well_letters_s2 (k3 : Nat) (N3 : Nat) (o3 : Nat) (x4 : Cell) (x29 : Cell) (a30 : Int) (a31 : Int) (x35 : Cell) (a36 : Int) (a37 : Int) (s0 : List Cell) (h : AHeap) : St := ⟨[.top, .loc 0 0, .top, .v (.c (.ptr k3 N3 o3)), .v (.c x4), .top, .top, .top, .top, .top, .top, .top, .top, .top, .top, .top, .top, .top, .top, .top, .top, .top, .top, .top, .top, .top, .top, .top, .top, .v (.c x29), .v (.c (.int .i64 a30)), .v (.c (.int .i64 a31)), .top, .top, .top, .v (.c x35), .v (.c (.int .i64 a36)), .v (.c (.int .i64 a37)), .top, .top, .top, .top, .top, .top, .top, .top, .top, .top, .top, .top, .top, .top, .top, .top, .top, .top, .top, .top, .top, .top, .top, .top, .top, .top, .top, .top, .top, .top], [some s0, none, none, none], h⟩
def well_letters_F2 (C : CallF) (L : LoopF) (G : Glo) : St → Option (Ex × St) :=
  roundF (fun st f => well_letters_b2.exec C L G st f) [1, 3, 4, 29, 30, 31, 35, 36, 37] [0] [(5, [1, 3, 4, 29, 30, 31], [0])]
def well_letters_x2_5 (k3 : Nat) (N3 : Nat) (o3 : Nat) (x4 : Cell) (x29 : Cell) (a30 : Int) (a31 : Int) (s0 : List Cell) (h : AHeap) : St := ⟨[.top, .loc 0 0, .top, .v (.c (.ptr k3 N3 o3)), .v (.c x4), .top, .top, .top, .top, .top, .top, .top, .top, .top, .top, .top, .top, .top, .top, .top, .top, .top, .top, .top, .top, .top, .top, .top, .top, .v (.c x29), .v (.c (.int .i64 a30)), .v (.c (.int .i64 a31)), .top, .top, .top, .top, .top, .top, .top, .top, .top, .top, .top, .top, .top, .top, .top, .top, .top, .top, .top, .top, .top, .top, .top, .top, .top, .top, .top, .top, .top, .top, .top, .top, .top, .top, .top, .top], [some s0, none, none, none], h⟩
def well_letters_x3_3 (k3 : Nat) (N3 : Nat) (o3 : Nat) (x4 : Cell) (s0 : List Cell) (h : AHeap) : St := ⟨[.top, .loc 0 0, .top, .v (.c (.ptr k3 N3 o3)), .v (.c x4), .top, .top, .top, .top, .top, .top, .top, .top, .top, .top, .top, .top, .top, .top, .top, .top, .top, .top, .top, .top, .top, .top, .top, .top, .top, .top, .top, .top, .top, .top, .top, .top, .top, .top, .top, .top, .top, .top, .top, .top, .top, .top, .top, .top, .top, .top, .top, .top, .top, .top, .top, .top, .top, .top, .top, .top, .top, .top, .top, .top, .top, .top, .top], [some s0, none, none, none], h⟩
def well_letters_k9 (C : CallF) (L : LoopF) (G : Glo) (h0 : AHeap) : Ex → St → Option (List AV × AHeap) :=
  kSeq (fun st => well_letters_p4.exec C L G st (well_letters.fin G h0)) (well_letters.fin G h0)
def well_letters_k10 (C : CallF) (L : LoopF) (G : Glo) (h0 : AHeap) : Ex → St → Option (List AV × AHeap) :=
  kBlk 6 (well_letters_k9 C L G h0)
def well_letters_s5 (k3 : Nat) (N3 : Nat) (o3 : Nat) (x4 : Cell) (x49 : Cell) (a50 : Int) (a51 : Int) (h : AHeap) : St := ⟨[.top, .top, .top, .v (.c (.ptr k3 N3 o3)), .v (.c x4), .top, .top, .top, .top, .top, .top, .top, .top, .top, .top, .top, .top, .top, .top, .top, .top, .top, .top, .top, .top, .top, .top, .top, .top, .top, .top, .top, .top, .top, .top, .top, .top, .top, .top, .top, .top, .top, .top, .top, .top, .top, .top, .top, .top, .v (.c x49), .v (.c (.int .i64 a50)), .v (.c (.int .i64 a51)), .top, .top, .top, .top, .top, .top, .top, .top, .top, .top, .top, .top, .top, .top, .top, .top], [none, none, none, none], h⟩
def well_letters_F5 (C : CallF) (L : LoopF) (G : Glo) : St → Option (Ex × St) :=
  roundF (fun st f => well_letters_b5.exec C L G st f) [3, 4, 49, 50, 51] [] [(7, [3], [])]
def well_letters_k11 (C : CallF) (L : LoopF) (G : Glo) : Ex → St → Option (Ex × St) :=
  kSeq (fun st => well_letters_p5.exec C L G st (kLoop [3, 4, 49, 50, 51] [] [(7, [3], [])])) (kLoop [3, 4, 49, 50, 51] [] [(7, [3], [])])
def well_letters_k12 (C : CallF) (L : LoopF) (G : Glo) : Ex → St → Option (Ex × St) :=
  kBlk 7 (well_letters_k11 C L G)
def well_letters_k13 (C : CallF) (L : LoopF) (G : Glo) : Ex → St → Option (Ex × St) :=
  kBlk 8 (well_letters_k12 C L G)
def well_letters_s4 (k3 : Nat) (N3 : Nat) (o3 : Nat) (x4 : Cell) (x49 : Cell) (a50 : Int) (a51 : Int) (x55 : Cell) (a56 : Int) (a57 : Int) (h : AHeap) : St := ⟨[.top, .top, .top, .v (.c (.ptr k3 N3 o3)), .v (.c x4), .top, .top, .top, .top, .top, .top, .top, .top, .top, .top, .top, .top, .top, .top, .top, .top, .top, .top, .top, .top, .top, .top, .top, .top, .top, .top, .top, .top, .top, .top, .top, .top, .top, .top, .top, .top, .top, .top, .top, .top, .top, .top, .top, .top, .v (.c x49), .v (.c (.int .i64 a50)), .v (.c (.int .i64 a51)), .top, .top, .top, .v (.c x55), .v (.c (.int .i64 a56)), .v (.c (.int .i64 a57)), .top, .top, .top, .top, .top, .top, .top, .top, .top, .top], [none, none, none, none], h⟩
def well_letters_F4 (C : CallF) (L : LoopF) (G : Glo) : St → Option (Ex × St) :=
  roundF (fun st f => well_letters_b4.exec C L G st f) [3, 4, 49, 50, 51, 55, 56, 57] [] [(9, [3, 4, 49, 50, 51], [])]
def well_letters_x4_9 (k3 : Nat) (N3 : Nat) (o3 : Nat) (x4 : Cell) (x49 : Cell) (a50 : Int) (a51 : Int) (h : AHeap) : St := ⟨[.top, .top, .top, .v (.c (.ptr k3 N3 o3)), .v (.c x4), .top, .top, .top, .top, .top, .top, .top, .top, .top, .top, .top, .top, .top, .top, .top, .top, .top, .top, .top, .top, .top, .top, .top, .top, .top, .top, .top, .top, .top, .top, .top, .top, .top, .top, .top, .top, .top, .top, .top, .top, .top, .top, .top, .top, .v (.c x49), .v (.c (.int .i64 a50)), .v (.c (.int .i64 a51)), .top, .top, .top, .top, .top, .top, .top, .top, .top, .top, .top, .top, .top, .top, .top, .top], [none, none, none, none], h⟩
def well_letters_x5_7 (k3 : Nat) (N3 : Nat) (o3 : Nat) (h : AHeap) : St := ⟨[.top, .top, .top, .v (.c (.ptr k3 N3 o3)), .top, .top, .top, .top, .top, .top, .top, .top, .top, .top, .top, .top, .top, .top, .top, .top, .top, .top, .top, .top, .top, .top, .top, .top, .top, .top, .top, .top, .top, .top, .top, .top, .top, .top, .top, .top, .top, .top, .top, .top, .top, .top, .top, .top, .top, .top, .top, .top, .top, .top, .top, .top, .top, .top, .top, .top, .top, .top, .top, .top, .top, .top, .top, .top], [none, none, none, none], h⟩
theorem well_letters_r1 (C : CallF) (L : LoopF) (G : Glo) (k3 : Nat) (N3 : Nat) (o3 : Nat) (x4 : Cell) (x17 : Cell) (a18 : Int) (a19 : Int) (s0 : List Cell) (h : AHeap) :
    well_letters_F1 C L G (well_letters_s1 k3 N3 o3 x4 x17 a18 a19 s0 h) =
    if (decide (a19 < a18)) = true then idxSK 2 x17 a19 fun k_3 N_4 o_5 => rdH h k_3 N_4 fun l_6 => if o_5 + 2 ≤ l_6.length then if 0 = 0 ∧ [Cell.int .i64 0, Cell.int .i64 0].length = 2 ∧ ((l_6.drop o_5).take 2).length = 2 then atK ((l_6.drop o_5).take 2) 0 fun q_7 => asI .i64 (.c q_7) fun n_8 => fnK x4 fun g_9 l_10 => c0 (C g_9 ([(.c (.int .i64 n_8))] ++ l_10) h) fun h_11 => some (.normal, (well_letters_s1 k3 N3 o3 x4 x17 a18 (G.wrap .i64 (a19 + 1)) s0 h_11)) else none else none else some ((.exit 0), (well_letters_x1_1 k3 N3 o3 x4 s0 h)) := by kernel_rfl
theorem well_letters_r2 (C : CallF) (L : LoopF) (G : Glo) (k3 : Nat) (N3 : Nat) (o3 : Nat) (x4 : Cell) (x29 : Cell) (a30 : Int) (a31 : Int) (x35 : Cell) (a36 : Int) (a37 : Int) (s0 : List Cell) (h : AHeap) :
    well_letters_F2 C L G (well_letters_s2 k3 N3 o3 x4 x29 a30 a31 x35 a36 a37 s0 h) =
    if (decide (a37 < a36)) = true then idxSK 9 x35 a37 fun k_20 N_21 o_22 => rdH h k_20 N_21 fun l_23 => if o_22 + 9 ≤ l_23.length then if 0 = 0 ∧ (List.replicate 9 (Cell.int .i64 0)).length = 9 ∧ ((l_23.drop o_22).take 9).length = 9 then atK ((l_23.drop o_22).take 9) 2 fun q_24 => asI .i64 (.c q_24) fun n_25 => fnK x4 fun g_26 l_27 => c0 (C g_26 ([(.c (.int .i64 n_25))] ++ l_27) h) fun h_28 => some (.normal, (well_letters_s2 k3 N3 o3 x4 x29 a30 a31 x35 a36 (G.wrap .i64 (a37 + 1)) s0 h_28)) else none else none else some ((.exit 4), (well_letters_x2_5 k3 N3 o3 x4 x29 a30 a31 s0 h)) := by kernel_rfl
theorem well_letters_e2_5 (C : CallF) (L : LoopF) (G : Glo) (k3 : Nat) (N3 : Nat) (o3 : Nat) (x4 : Cell) (x29 : Cell) (a30 : Int) (a31 : Int) (s0 : List Cell) (h : AHeap) :
    (well_letters_k8 C L G) (.exit 4) (well_letters_x2_5 k3 N3 o3 x4 x29 a30 a31 s0 h) =
    some (.normal, (well_letters_s3 k3 N3 o3 x4 x29 a30 (G.wrap .i64 (a31 + 1)) s0 h)) := by kernel_rfl
theorem well_letters_r3 (C : CallF) (L : LoopF) (G : Glo) (k3 : Nat) (N3 : Nat) (o3 : Nat) (x4 : Cell) (x29 : Cell) (a30 : Int) (a31 : Int) (s0 : List Cell) (h : AHeap) :
    well_letters_F3 C L G (well_letters_s3 k3 N3 o3 x4 x29 a30 a31 s0 h) =
    if (decide (a31 < a30)) = true then idxSK 1 x29 a31 fun k_14 N_15 o_16 => rdH h k_14 N_15 fun l_17 => atK l_17 o_16 fun q_18 => lenK q_18 fun n_19 => (L (well_letters_F2 C L G) (well_letters_s2 k3 N3 o3 x4 x29 a30 a31 q_18 n_19 0 s0 h)).bind fun p_29 => (well_letters_k8 C L G) p_29.1 p_29.2 else some ((.exit 2), (well_letters_x3_3 k3 N3 o3 x4 s0 h)) := by kernel_rfl
theorem well_letters_r4 (C : CallF) (L : LoopF) (G : Glo) (k3 : Nat) (N3 : Nat) (o3 : Nat) (x4 : Cell) (x49 : Cell) (a50 : Int) (a51 : Int) (x55 : Cell) (a56 : Int) (a57 : Int) (h : AHeap) :
    well_letters_F4 C L G (well_letters_s4 k3 N3 o3 x4 x49 a50 a51 x55 a56 a57 h) =
    if (decide (a57 < a56)) = true then idxSK 4 x55 a57 fun k_38 N_39 o_40 => rdH h k_38 N_39 fun l_41 => if o_40 + 4 ≤ l_41.length then if 0 = 0 ∧ [Cell.int .i64 0, Cell.int .i64 0, Cell.int .i64 0, Cell.int .i64 0].length = 4 ∧ ((l_41.drop o_40).take 4).length = 4 then atK ((l_41.drop o_40).take 4) 2 fun q_42 => asI .i64 (.c q_42) fun n_43 => fnK x4 fun g_44 l_45 => c0 (C g_44 ([(.c (.int .i64 n_43))] ++ l_45) h) fun h_46 => some (.normal, (well_letters_s4 k3 N3 o3 x4 x49 a50 a51 x55 a56 (G.wrap .i64 (a57 + 1)) h_46)) else none else none else some ((.exit 8), (well_letters_x4_9 k3 N3 o3 x4 x49 a50 a51 h)) := by kernel_rfl
theorem well_letters_e4_9 (C : CallF) (L : LoopF) (G : Glo) (k3 : Nat) (N3 : Nat) (o3 : Nat) (x4 : Cell) (x49 : Cell) (a50 : Int) (a51 : Int) (h : AHeap) :
    (well_letters_k13 C L G) (.exit 8) (well_letters_x4_9 k3 N3 o3 x4 x49 a50 a51 h) =
    some (.normal, (well_letters_s5 k3 N3 o3 x4 x49 a50 (G.wrap .i64 (a51 + 1)) h)) := by kernel_rfl
theorem well_letters_r5 (C : CallF) (L : LoopF) (G : Glo) (k3 : Nat) (N3 : Nat) (o3 : Nat) (x4 : Cell) (x49 : Cell) (a50 : Int) (a51 : Int) (h : AHeap) :
    well_letters_F5 C L G (well_letters_s5 k3 N3 o3 x4 x49 a50 a51 h) =
    if (decide (a51 < a50)) = true then idxSK 1 x49 a51 fun k_32 N_33 o_34 => rdH h k_32 N_33 fun l_35 => atK l_35 o_34 fun q_36 => lenK q_36 fun n_37 => (L (well_letters_F4 C L G) (well_letters_s4 k3 N3 o3 x4 x49 a50 a51 q_36 n_37 0 h)).bind fun p_47 => (well_letters_k13 C L G) p_47.1 p_47.2 else some ((.exit 6), (well_letters_x5_7 k3 N3 o3 h)) := by kernel_rfl
theorem well_letters_e5_7 (C : CallF) (L : LoopF) (G : Glo) (h0 : AHeap) (k3 : Nat) (N3 : Nat) (o3 : Nat) (h : AHeap) :
    (well_letters_k10 C L G h0) (.exit 6) (well_letters_x5_7 k3 N3 o3 h) =
    rdH h k3 N3 fun l_48 => atK l_48 o3 fun q_49 => asI .u64 (.c q_49) fun n_50 => finish true h0 [(.c (.int .u64 n_50))] h := by kernel_rfl
theorem well_letters_e3_3 (C : CallF) (L : LoopF) (G : Glo) (h0 : AHeap) (k3 : Nat) (N3 : Nat) (o3 : Nat) (x4 : Cell) (s0 : List Cell) (h : AHeap) :
    (well_letters_k5 C L G h0) (.exit 2) (well_letters_x3_3 k3 N3 o3 x4 s0 h) =
    atK s0 4 fun q_30 => lenK q_30 fun n_31 => (L (well_letters_F5 C L G) (well_letters_s5 k3 N3 o3 x4 q_30 n_31 0 h)).bind fun p_51 => (well_letters_k10 C L G h0) p_51.1 p_51.2 := by kernel_rfl
theorem well_letters_e1_1 (C : CallF) (L : LoopF) (G : Glo) (h0 : AHeap) (k3 : Nat) (N3 : Nat) (o3 : Nat) (x4 : Cell) (s0 : List Cell) (h : AHeap) :
    (well_letters_k3 C L G h0) (.exit 0) (well_letters_x1_1 k3 N3 o3 x4 s0 h) =
    atK s0 2 fun q_12 => lenK q_12 fun n_13 => (L (well_letters_F3 C L G) (well_letters_s3 k3 N3 o3 x4 q_12 n_13 0 s0 h)).bind fun p_52 => (well_letters_k5 C L G h0) p_52.1 p_52.2 := by kernel_rfl
set_option maxRecDepth 100000 in
theorem well_letters_eq (C : CallF) (L : LoopF) (G : Glo) (l0 : List Cell) (h0 : AHeap) :
    well_letters.body C L G [(.agg l0)] h0 =
    atK l0 1 fun q_1 => lenK q_1 fun n_2 => (L (well_letters_F1 C L G) (well_letters_s1 h0.length (([Cell.int .u64 0]).length) 0 (.fn 150 [(h0.length, ([Cell.int .u64 0]).length, 0)]) q_1 n_2 0 l0 (h0 ++ [some (Blk.mk true 0 ([Cell.int .u64 0]))]))).bind fun p_53 => (well_letters_k3 C L G h0) p_53.1 p_53.2 := by kernel_rfl

/- jacquard/well.big$1: 145 -/
set_option maxRecDepth 100000 in
theorem well_big_1_eq (C : CallF) (L : LoopF) (G : Glo) (x0 : Cell) (h0 : AHeap) :
    well_big_1.body C L G [(.c x0)] h0 =
    lenK x0 fun n_1 => some ([(.c (.bool (decide (n_1 > 8))))], h0) := by kernel_rfl

/- jacquard/well.Jumps: 148 -/
def well_Jumps_k2 (C : CallF) (L : LoopF) (G : Glo) (h0 : AHeap) : Ex → St → Option (List AV × AHeap) :=
  kSeq (fun st => well_Jumps_p1.exec C L G st (well_Jumps.fin G h0)) (well_Jumps.fin G h0)
def well_Jumps_k3 (C : CallF) (L : LoopF) (G : Glo) (h0 : AHeap) : Ex → St → Option (List AV × AHeap) :=
  kBlk 0 (well_Jumps_k2 C L G h0)
def well_Jumps_s1 (x0 : Cell) (x5 : Cell) (a6 : Int) (a7 : Int) (h : AHeap) : St := ⟨[.v (.c x0), .top, .top, .top, .top, .v (.c x5), .v (.c (.int .i64 a6)), .v (.c (.int .i64 a7)), .top, .top, .top, .top, .top, .top, .top, .top, .top, .top, .top, .top, .top, .top, .top, .top, .top, .top, .top, .top, .top, .top, .top], [none], h⟩
def well_Jumps_F1 (C : CallF) (L : LoopF) (G : Glo) : St → Option (Ex × St) :=
  roundF (fun st f => well_Jumps_b1.exec C L G st f) [0, 5, 6, 7] [] [(0, [2], []), (1, [], [])]
def well_Jumps_x1_0 (b2 : Bool) (h : AHeap) : St := ⟨[.top, .top, .v (.c (.bool b2)), .top, .top, .top, .top, .top, .top, .top, .top, .top, .top, .top, .top, .top, .top, .top, .top, .top, .top, .top, .top, .top, .top, .top, .top, .top, .top, .top, .top], [none], h⟩
def well_Jumps_x1_1 (h : AHeap) : St := ⟨[.top, .top, .top, .top, .top, .top, .top, .top, .top, .top, .top, .top, .top, .top, .top, .top, .top, .top, .top, .top, .top, .top, .top, .top, .top, .top, .top, .top, .top, .top, .top], [none], h⟩
theorem well_Jumps_r1 (C : CallF) (L : LoopF) (G : Glo) (x0 : Cell) (x5 : Cell) (a6 : Int) (a7 : Int) (h : AHeap) :
    well_Jumps_F1 C L G (well_Jumps_s1 x0 x5 a6 a7 h) =
    if (decide (a7 < a6)) = true then idxSK 9 x5 a7 fun k_2 N_3 o_4 => rdH h k_2 N_3 fun l_5 => if o_4 + 9 ≤ l_5.length then if 0 = 0 ∧ (List.replicate 9 (Cell.int .i64 0)).length = 9 ∧ ((l_5.drop o_4).take 9).length = 9 then atK ((l_5.drop o_4).take 9) 0 fun q_6 => asI .i64 (.c q_6) fun n_7 => scK (n_7 == 6) true (atK ((l_5.drop o_4).take 9) 8 fun q_8 => asI .i64 (.c q_8) fun n_9 => scK (decide (n_9 < 1)) false (atK ((l_5.drop o_4).take 9) 8 fun q_10 => asI .i64 (.c q_10) fun n_11 => lenK x0 fun n_12 => let v_13 : Int := (G.wrap .i64 ((G.wrap .i64 (n_12 - a7)) - 1)); some ((decide (n_11 > v_13)), h)) true h fun b_14 h_15 => some (b_14, h_15)) false h fun b_16 h_17 => if b_16 = true then some (.ret, (well_Jumps_x1_0 false h_17)) else some (.normal, (well_Jumps_s1 x0 x5 a6 (G.wrap .i64 (a7 + 1)) h_17)) else none else none else some ((.exit 0), (well_Jumps_x1_1 h)) := by kernel_rfl
theorem well_Jumps_e1_0 (C : CallF) (L : LoopF) (G : Glo) (h0 : AHeap) (b2 : Bool) (h : AHeap) :
    (well_Jumps_k3 C L G h0) .ret (well_Jumps_x1_0 b2 h) =
    some ([(.c (.bool b2))], h) := by kernel_rfl
theorem well_Jumps_e1_1 (C : CallF) (L : LoopF) (G : Glo) (h0 : AHeap) (h : AHeap) :
    (well_Jumps_k3 C L G h0) (.exit 0) (well_Jumps_x1_1 h) =
    some ([(.c (.bool true))], h) := by kernel_rfl
set_option maxRecDepth 100000 in
theorem well_Jumps_eq (C : CallF) (L : LoopF) (G : Glo) (x0 : Cell) (h0 : AHeap) :
    well_Jumps.body C L G [(.c x0)] h0 =
    lenK x0 fun n_1 => (L (well_Jumps_F1 C L G) (well_Jumps_s1 x0 x0 n_1 0 h0)).bind fun p_18 => (well_Jumps_k3 C L G h0) p_18.1 p_18.2 := by kernel_rfl

/- jacquard/well.letters$1: 150 -/
set_option maxRecDepth 100000 in
theorem well_letters_1_eq (C : CallF) (L : LoopF) (G : Glo) (a0 : Int) (k1 : Nat) (N1 : Nat) (o1 : Nat) (h0 : AHeap) :
    well_letters_1.body C L G [(.c (.int .i64 a0)), (.c (.ptr k1 N1 o1))] h0 =
    c1 (C 158 [(.c (.int .i64 a0))] h0) fun y_2 h_1 => asB y_2 fun b_3 => if b_3 = true then rdH h_1 k1 N1 fun l_4 => atK l_4 o1 fun q_5 => asI .u64 (.c q_5) fun n_6 => if (G.wrap .i64 (a0 - 97)) < 0 then none else let v_7 : Int := (G.bor .u64 n_6 (G.shl .u64 1 (G.wrap .i64 (a0 - 97)))); rdH h_1 k1 N1 fun l_8 => if o1 < l_8.length then putH h_1 k1 (l_8.set o1 (.int .u64 v_7)) fun h_9 => some ([], h_9) else none else some ([], h_1) := by kernel_rfl


end Jq

/- Is a test small enough? -/
namespace Jq
open Go

/-- Is a letter named, as it stands? -/
def thereW (T : PTest) (b : Nat) : Bool := (T.inits.any fun p => p.1 == (b : Int)) || (T.thr.any fun c => c.any fun i => i.loc == (b : Int)) || (T.any.any fun c => c.any fun a => a.loc == (b : Int))

def LtAt (h0 h : AHeap) (S : Nat → Bool) : Prop :=
  Kp h0.length h0 h ∧ ∃ m : Nat, m < 2 ^ 26 ∧ (∀ i, i < 26 → m.testBit i = S (97 + i)) ∧ blk? h h0.length = some ⟨true, 0, [.int .u64 (m : Int)]⟩

theorem LtAt.congr {h0 h : AHeap} {S S' : Nat → Bool} (v : LtAt h0 h S) (hs : ∀ b, 97 ≤ b → b ≤ 122 → S' b = S b) : LtAt h0 h S' := by
  obtain ⟨k, m, m1, m2, m3⟩ := v
  exact ⟨k, m, m1, fun i hi => by rw [m2 i hi, hs (97 + i) (by omega) (by omega)], m3⟩

section
variable {E : Env}

theorem rdw {α : Type} {h : AHeap} {k : Nat} {a : Cell} (hk : blk? h k = some ⟨true, 0, [a]⟩) {F : List Cell → Option α} : rdH h k 1 F = F [a] := rdH_ok hk rfl

theorem add_step (hE : well_letters_1_In E) {h0 h : AHeap} {S S' : Nat → Bool} (v : LtAt h0 h S) (n : Int) (hs : ∀ b, 97 ≤ b → b ≤ 122 → S' b = (S b || n == (b : Int))) :
    ∃ h', (∀ {α : Type} (F : AHeap → Option α), (fnK (.fn 150 [(h0.length, 1, 0)]) fun g l => c0 (R E g ([.c (.int .i64 n)] ++ l) h) F) = F h') ∧ LtAt h0 h' S' := by
  obtain ⟨k, m, m1, m2, m3⟩ := v
  by_cases hl : locB n = true
  · have hr : 97 ≤ n ∧ n ≤ 122 := by unfold locB at hl; simpa using hl
    obtain ⟨q, hq⟩ : ∃ q : Nat, n - 97 = (q : Int) := ⟨(n - 97).toNat, by omega⟩
    have hq26 : q < 26 := by omega
    have hp : 2 ^ q < 2 ^ 26 := Nat.pow_lt_pow_right (by omega) hq26
    have hor : m ||| 2 ^ q < 2 ^ 26 := Nat.or_lt_two_pow m1 hp
    refine ⟨setBlk h h0.length (some ⟨true, 0, [.int .u64 ((m ||| 2 ^ q : Nat) : Int)]⟩), fun F => ?_, k.trans (Kp.set (Nat.le_refl _) _), m ||| 2 ^ q, hor, fun i hi => ?_, blk_set_self (blk_lt' m3) _⟩
    · show c0 (R E 150 ([.c (.int .i64 n)] ++ [.c (.ptr h0.length 1 0)]) h) F = _
      have hb : R E 150 [.c (.int .i64 n), .c (.ptr h0.length 1 0)] h = some ([], setBlk h h0.length (some ⟨true, 0, [.int .u64 ((m ||| 2 ^ q : Nat) : Int)]⟩)) := by
        refine R_intro hE.fn ?_
        rw [well_letters_1_eq, IsLoc_R hE.c158, c1_ok, asB_ok, if_pos hl, rdw m3, atK_ok (i := 0) (c := .int .u64 (m : Int)) rfl, asI_ok, g_wrap_i64 (by omega) (by omega), hq, if_neg (by omega)]
        dsimp only
        rw [rdw m3, if_pos (by simp), putH_ok m3 rfl, g_shl_one (by omega), g_bor (by omega) (by omega)]
        rfl
      rw [show ([AV.c (.int .i64 n)] ++ [.c (.ptr h0.length 1 0)]) = [.c (.int .i64 n), .c (.ptr h0.length 1 0)] from rfl, hb]; rfl
    · rw [Nat.testBit_or, Nat.testBit_two_pow, m2 i hi, hs (97 + i) (by omega) (by omega)]
      congr 1
      rw [Bool.eq_iff_iff]; simp; omega
  · have hr : ¬ (97 ≤ n ∧ n ≤ 122) := by unfold locB at hl; simpa using hl
    have hl' : locB n = false := by simpa using hl
    refine ⟨h, fun F => ?_, k, m, m1, fun i hi => ?_, m3⟩
    · show c0 (R E 150 ([.c (.int .i64 n)] ++ [.c (.ptr h0.length 1 0)]) h) F = _
      have hb : R E 150 [.c (.int .i64 n), .c (.ptr h0.length 1 0)] h = some ([], h) := by
        refine R_intro hE.fn ?_
        rw [well_letters_1_eq, IsLoc_R hE.c158, c1_ok, asB_ok, hl', if_neg (by simp)]
      rw [show ([AV.c (.int .i64 n)] ++ [.c (.ptr h0.length 1 0)]) = [.c (.int .i64 n), .c (.ptr h0.length 1 0)] from rfl, hb]; rfl
    · rw [m2 i hi, hs (97 + i) (by omega) (by omega), show (n == ((97 + i : Nat) : Int)) = false by rw [beq_eq_false_iff_ne]; omega, Bool.or_false]

theorem letters_R (hE : well_letters_In E) {cs : List Cell} {T : PTest} {h : AHeap} (p : TestAt h cs T) (hs : T.fits) :
    ∃ m : Nat, R E 133 [.agg cs] h = some ([.c (.int .u64 (m : Int))], h) ∧ m < 2 ^ 26 ∧ ∀ i, i < 26 → m.testBit i = thereW T (97 + i) := by
  obtain ⟨a, b, c, rfl, ⟨ha, hal⟩, hb, hc⟩ := p
  have a1 : ∀ {α : Type} (f : Cell → Option α), atK [.str T.name, a, b, .int .i64 T.ck, c] 1 f = f a := fun _ => rfl
  have a2 : ∀ {α : Type} (f : Cell → Option α), atK [.str T.name, a, b, .int .i64 T.ck, c] 2 f = f b := fun _ => rfl
  have a4 : ∀ {α : Type} (f : Cell → Option α), atK [.str T.name, a, b, .int .i64 T.ck, c] 4 f = f c := fun _ => rfl
  have n1 := hs.inits
  have n2 := hs.thr
  have n3 := hs.any
  have v0 : LtAt h (h ++ [some ⟨true, 0, [.int .u64 0]⟩]) (fun _ => false) := ⟨Kp.app _ (Nat.le_refl _), 0, by omega, fun i _ => by simp, blk_new _ _⟩
  obtain ⟨st1, ⟨h1, rfl, v1⟩, hL1⟩ := Lim_inv (F := well_letters_F1 (R E) Lim E.glob) (fun i st => ∃ h1, st = well_letters_s1 h.length 1 0 (.fn 150 [(h.length, 1, 0)]) a T.inits.length (i : Int) [.str T.name, a, b, .int .i64 T.ck, c] h1 ∧ LtAt h h1 (fun q => (T.inits.take i).any fun p => p.1 == (q : Int))) 0 T.inits.length (by omega)
    (fun i st _ hi => by
      rintro ⟨h1, rfl, v⟩
      have hq : T.inits[i]? = some T.inits[i] := List.getElem?_eq_getElem hi
      generalize T.inits[i] = q at hq
      obtain ⟨off, cc, g1, g2, g3⟩ := (ha.keep hal v.1).pairG hq
      obtain ⟨h2, f1, v2⟩ := add_step hE.c150 (S' := fun r => (T.inits.take (i + 1)).any fun p => p.1 == (r : Int)) v q.1 (fun r _ _ => any_take_succ hq _)
      refine ⟨_, ?_, h2, rfl, v2⟩
      rw [well_letters_r1, if_pos (by simp; omega), g1, if_pos g2, g3, if_pos ⟨rfl, rfl, rfl⟩, show ∀ {α : Type} (f : Cell → Option α), atK (pairCs q) 0 f = f (.int .i64 q.1) from fun _ => rfl, asI_ok, f1, g_succ (by omega)]) (st := well_letters_s1 h.length 1 0 (.fn 150 [(h.length, 1, 0)]) a T.inits.length ((0 : Nat) : Int) [.str T.name, a, b, .int .i64 T.ck, c] (h ++ [some ⟨true, 0, [.int .u64 0]⟩])) ⟨_, rfl, v0.congr fun _ _ _ => rfl⟩
  have e1 : well_letters_F1 (R E) Lim E.glob (well_letters_s1 h.length 1 0 (.fn 150 [(h.length, 1, 0)]) a T.inits.length (T.inits.length : Int) [.str T.name, a, b, .int .i64 T.ck, c] h1) = some (.exit 0, well_letters_x1_1 h.length 1 0 (.fn 150 [(h.length, 1, 0)]) [.str T.name, a, b, .int .i64 T.ck, c] h1) := by
    rw [well_letters_r1, if_neg (by simp)]
  have hr1 := hL1 _ (Lim_exit e1)
  rw [List.take_of_length_le (Nat.le_refl _)] at v1
  obtain ⟨ts, t1, t2, t3⟩ := hb
  obtain ⟨us, u1, u2, u3⟩ := hc
  have mid : ∀ (t : Nat) (code : List Ins) (y : Cell), code ∈ T.thr → SlAt h y 9 (codeC code) code.length → Low h.length y → ∀ (h2 : AHeap) (S : Nat → Bool), LtAt h h2 S →
      ∃ h3, Lim (well_letters_F2 (R E) Lim E.glob) (well_letters_s2 h.length 1 0 (.fn 150 [(h.length, 1, 0)]) b T.thr.length (t : Int) y code.length ((0 : Nat) : Int) [.str T.name, a, b, .int .i64 T.ck, c] h2) = some (.exit 4, well_letters_x2_5 h.length 1 0 (.fn 150 [(h.length, 1, 0)]) b T.thr.length (t : Int) [.str T.name, a, b, .int .i64 T.ck, c] h3) ∧
        LtAt h h3 (fun q => S q || code.any fun i => i.loc == (q : Int)) := by
    intro t code y hm y2 y3 h2 S v
    have hcl := hs.code code hm
    obtain ⟨st, ⟨h3, rfl, v3⟩, hL⟩ := Lim_inv (F := well_letters_F2 (R E) Lim E.glob) (fun i st => ∃ h3, st = well_letters_s2 h.length 1 0 (.fn 150 [(h.length, 1, 0)]) b T.thr.length (t : Int) y code.length (i : Int) [.str T.name, a, b, .int .i64 T.ck, c] h3 ∧ LtAt h h3 (fun q => S q || (code.take i).any fun i => i.loc == (q : Int))) 0 code.length (by omega)
      (fun i st _ hi => by
        rintro ⟨h3, rfl, v⟩
        have hq : code[i]? = some code[i] := List.getElem?_eq_getElem hi
        generalize code[i] = q at hq
        obtain ⟨off, cc, g1, g2, g3⟩ := (y2.keep y3 v.1).insG hq
        obtain ⟨h4, f1, v2⟩ := add_step hE.c150 (S' := fun r => S r || (code.take (i + 1)).any fun p => p.loc == (r : Int)) v q.loc (fun r _ _ => by rw [any_take_succ hq, Bool.or_assoc])
        refine ⟨_, ?_, h4, rfl, v2⟩
        rw [well_letters_r2, if_pos (by simp; omega), g1, if_pos g2, g3, if_pos ⟨rfl, rfl, rfl⟩, ins_loc, asI_ok, f1, g_succ (by omega)]) (st := well_letters_s2 h.length 1 0 (.fn 150 [(h.length, 1, 0)]) b T.thr.length (t : Int) y code.length ((0 : Nat) : Int) [.str T.name, a, b, .int .i64 T.ck, c] h2) ⟨h2, rfl, v.congr fun _ _ _ => by simp⟩
    rw [List.take_of_length_le (Nat.le_refl _)] at v3
    refine ⟨h3, hL _ (Lim_exit ?_), v3⟩
    rw [well_letters_r2, if_neg (by simp)]
  have mid4 : ∀ (t : Nat) (row : List Atm) (y : Cell), row ∈ T.any → SlAt h y 4 (atmC row) row.length → Low h.length y → ∀ (h2 : AHeap) (S : Nat → Bool), LtAt h h2 S →
      ∃ h3, Lim (well_letters_F4 (R E) Lim E.glob) (well_letters_s4 h.length 1 0 (.fn 150 [(h.length, 1, 0)]) c T.any.length (t : Int) y row.length ((0 : Nat) : Int) h2) = some (.exit 8, well_letters_x4_9 h.length 1 0 (.fn 150 [(h.length, 1, 0)]) c T.any.length (t : Int) h3) ∧
        LtAt h h3 (fun q => S q || row.any fun i => i.loc == (q : Int)) := by
    intro t code y hm y2 y3 h2 S v
    have hcl := hs.row code hm
    obtain ⟨st, ⟨h3, rfl, v3⟩, hL⟩ := Lim_inv (F := well_letters_F4 (R E) Lim E.glob) (fun i st => ∃ h3, st = well_letters_s4 h.length 1 0 (.fn 150 [(h.length, 1, 0)]) c T.any.length (t : Int) y code.length (i : Int) h3 ∧ LtAt h h3 (fun q => S q || (code.take i).any fun i => i.loc == (q : Int))) 0 code.length (by omega)
      (fun i st _ hi => by
        rintro ⟨h3, rfl, v⟩
        have hq : code[i]? = some code[i] := List.getElem?_eq_getElem hi
        generalize code[i] = q at hq
        obtain ⟨off, cc, g1, g2, g3⟩ := (y2.keep y3 v.1).atmG hq
        obtain ⟨h4, f1, v2⟩ := add_step hE.c150 (S' := fun r => S r || (code.take (i + 1)).any fun p => p.loc == (r : Int)) v q.loc (fun r _ _ => by rw [any_take_succ hq, Bool.or_assoc])
        refine ⟨_, ?_, h4, rfl, v2⟩
        rw [well_letters_r4, if_pos (by simp; omega), g1, if_pos g2, g3, if_pos ⟨rfl, rfl, rfl⟩, show ∀ {α : Type} (f : Cell → Option α), atK q.cs 2 f = f (.int .i64 q.loc) from fun _ => rfl, asI_ok, f1, g_succ (by omega)]) (st := well_letters_s4 h.length 1 0 (.fn 150 [(h.length, 1, 0)]) c T.any.length (t : Int) y code.length ((0 : Nat) : Int) h2) ⟨h2, rfl, v.congr fun _ _ _ => by simp⟩
    rw [List.take_of_length_le (Nat.le_refl _)] at v3
    refine ⟨h3, hL _ (Lim_exit ?_), v3⟩
    rw [well_letters_r4, if_neg (by simp)]
  obtain ⟨st2, ⟨h2, rfl, v2⟩, hL2⟩ := Lim_inv (F := well_letters_F3 (R E) Lim E.glob) (fun i st => ∃ h2, st = well_letters_s3 h.length 1 0 (.fn 150 [(h.length, 1, 0)]) b T.thr.length (i : Int) [.str T.name, a, b, .int .i64 T.ck, c] h2 ∧ LtAt h h2 (fun q => (T.inits.any fun p => p.1 == (q : Int)) || (T.thr.take i).any fun c => c.any fun i => i.loc == (q : Int))) 0 T.thr.length (by omega)
    (fun i st _ hi => by
      rintro ⟨h2, rfl, v⟩
      have hq : T.thr[i]? = some T.thr[i] := List.getElem?_eq_getElem hi
      generalize T.thr[i] = code at hq
      obtain ⟨y, y1, y2, y3⟩ := t3 i code hq
      obtain ⟨h3, f1, v3⟩ := mid i code y (List.mem_of_getElem? hq) y2 y3 h2 _ v
      refine ⟨_, ?_, h3, rfl, v3.congr fun r _ _ => by rw [any_take_succ hq, Bool.or_assoc]⟩
      rw [well_letters_r3, if_pos (by simp; omega), (t1.keep t2 v.1).get1 hi y1, y2.len, show (0 : Int) = ((0 : Nat) : Int) from rfl, f1, bind_ok, well_letters_e2_5, g_succ (by omega)]) (st := well_letters_s3 h.length 1 0 (.fn 150 [(h.length, 1, 0)]) b T.thr.length ((0 : Nat) : Int) [.str T.name, a, b, .int .i64 T.ck, c] h1) ⟨h1, rfl, v1.congr fun _ _ _ => by simp⟩
  have e2 : well_letters_F3 (R E) Lim E.glob (well_letters_s3 h.length 1 0 (.fn 150 [(h.length, 1, 0)]) b T.thr.length (T.thr.length : Int) [.str T.name, a, b, .int .i64 T.ck, c] h2) = some (.exit 2, well_letters_x3_3 h.length 1 0 (.fn 150 [(h.length, 1, 0)]) [.str T.name, a, b, .int .i64 T.ck, c] h2) := by
    rw [well_letters_r3, if_neg (by simp)]
  have hr2 := hL2 _ (Lim_exit e2)
  rw [List.take_of_length_le (Nat.le_refl _)] at v2
  obtain ⟨st3, ⟨h3, rfl, v3⟩, hL3⟩ := Lim_inv (F := well_letters_F5 (R E) Lim E.glob) (fun i st => ∃ h2, st = well_letters_s5 h.length 1 0 (.fn 150 [(h.length, 1, 0)]) c T.any.length (i : Int) h2 ∧ LtAt h h2 (fun q => ((T.inits.any fun p => p.1 == (q : Int)) || (T.thr.any fun c => c.any fun i => i.loc == (q : Int))) || (T.any.take i).any fun c => c.any fun i => i.loc == (q : Int))) 0 T.any.length (by omega)
    (fun i st _ hi => by
      rintro ⟨h2, rfl, v⟩
      have hq : T.any[i]? = some T.any[i] := List.getElem?_eq_getElem hi
      generalize T.any[i] = code at hq
      obtain ⟨y, y1, y2, y3⟩ := u3 i code hq
      obtain ⟨h3, f1, v3⟩ := mid4 i code y (List.mem_of_getElem? hq) y2 y3 h2 _ v
      refine ⟨_, ?_, h3, rfl, v3.congr fun r _ _ => by rw [any_take_succ hq]; simp only [Bool.or_assoc]⟩
      rw [well_letters_r5, if_pos (by simp; omega), (u1.keep u2 v.1).get1 hi y1, y2.len, show (0 : Int) = ((0 : Nat) : Int) from rfl, f1, bind_ok, well_letters_e4_9, g_succ (by omega)]) (st := well_letters_s5 h.length 1 0 (.fn 150 [(h.length, 1, 0)]) c T.any.length ((0 : Nat) : Int) h2) ⟨h2, rfl, v2.congr fun _ _ _ => by simp⟩
  have e3 : well_letters_F5 (R E) Lim E.glob (well_letters_s5 h.length 1 0 (.fn 150 [(h.length, 1, 0)]) c T.any.length (T.any.length : Int) h3) = some (.exit 6, well_letters_x5_7 h.length 1 0 h3) := by
    rw [well_letters_r5, if_neg (by simp)]
  have hr3 := hL3 _ (Lim_exit e3)
  rw [List.take_of_length_le (Nat.le_refl _)] at v3
  obtain ⟨kk, m, m1, m2, m3⟩ := v3
  refine ⟨m, R_intro hE.fn ?_, m1, m2⟩
  rw [well_letters_eq, a1, ha.len, show ([Cell.int .u64 0] : List Cell).length = 1 from rfl, show (0 : Int) = ((0 : Nat) : Int) from rfl, show (Cell.int .u64 ((0 : Nat) : Int)) = .int .u64 0 from rfl, hr1, bind_ok, well_letters_e1_1, a2, t1.len, show (0 : Int) = ((0 : Nat) : Int) from rfl, hr2, bind_ok, well_letters_e3_3, a4, u1.len, show (0 : Int) = ((0 : Nat) : Int) from rfl, hr3, bind_ok, well_letters_e5_7, rdw m3, atK_ok (i := 0) (c := .int .u64 (m : Int)) rfl, asI_ok]
  exact finish_gc kk (by simp [avOk, AV.cells, idOk])

end
end Jq

/- A test's locations; is it too big; do its skips lead to where they may; the check. -/
namespace Jq
open Go

theorem testBit_and1 (m i : Nat) : (((m >>> i &&& 1 : Nat) : Int) == 1) = m.testBit i := by
  rw [Nat.testBit_eq_decide_div_mod_eq, Nat.and_one_is_mod, Nat.shiftRight_eq_div_pow, Bool.eq_iff_iff, beq_iff_eq, decide_eq_true_eq]
  omega

def locsW (T : PTest) : List Int := locsF (thereW T) 26
def jmpB (l : List Ins) : Bool := (List.range l.length).all fun k => match l[k]? with | some i => !(i.kind == 6 && (decide (i.n < 1) || decide (i.n > (l.length : Int) - k - 1))) | none => true
def sumL (l : List (List Ins)) : Int := ((l.map List.length).sum : Nat)
def bigB (T : PTest) : Bool := (T.thr.any fun c => decide ((c.length : Int) > 10)) || ((((((T.thr.length : Int) == 0 || decide ((T.thr.length : Int) > 4) || decide (sumL T.thr > 24)) || decide (((locsW T).length : Int) > 4)) || decide ((T.any.length : Int) > 8)) || (T.any.any fun r => decide ((r.length : Int) > 8))) || decide ((T.name.size : Int) > 20))
def twB (l : List (Int × Int)) : Bool := (List.range l.length).any fun k => match l[k]? with | some p => (l.take k).any (fun q => q.1 == p.1) | none => false
def outB (n : Nat) (a : Atm) : Bool := (a.thread != -1) && decide (a.thread ≥ (n : Int))
def checkT (T : PTest) : Int := if (!okT T) = true then 1 else if bigB T = true then 8 else if twB T.inits = true then 9 else if (T.thr.any fun c => !jmpB c) = true then 10 else if (T.any.any fun r => r.any (outB T.thr.length)) = true then 10 else 0

theorem PTest.small.fits {T : PTest} (s : T.small) (hn : T.name.size < 9223372036854775807) : T.fits :=
  ⟨hn, by have := s.inits; omega, by have := s.thr; omega, fun c hc => by have := s.code c hc; omega, by have := s.any; omega, fun c hc => by have := s.row c hc; omega⟩

section
variable {E : Env}

theorem Locs_R (hE : well_Locs_In E) {cs : List Cell} {T : PTest} {h : AHeap} (p : TestAt h cs T) (hs : T.fits) :
    ∃ y h', R E 117 [.agg cs] h = some ([.c y], h') ∧ Own h.length h' y 1 (intC .u8 (locsW T)) (locsW T).length ∧ Kp h.length h h' := by
  obtain ⟨m, hr, hm, hbit⟩ := letters_R hE.c133 p hs
  have hmb : maxBytes ≥ 100 := by unfold maxBytes; omega
  obtain ⟨st, ⟨y, h1, rfl, hy, hk⟩, hL⟩ := Lim_inv (F := well_Locs_F1 (R E) Lim E.glob) (fun i st => ∃ y h1, st = well_Locs_s1 y (m : Int) (i : Int) h1 ∧ Own h.length h1 y 1 (intC .u8 (locsF (thereW T) i)) (locsF (thereW T) i).length ∧ Kp h.length h h1) 0 26 (by omega)
    (fun i st _ hi => by
      rintro ⟨y, h1, rfl, hy, hk⟩
      have hlen := locsF_len (thereW T) i
      have hw8 : E.glob.wrap .u8 (97 + E.glob.wrap .u8 (i : Int)) = ((97 + i : Nat) : Int) := by
        show IntKind.wrap .u8 (97 + IntKind.wrap .u8 _) = _
        simp only [IntKind.wrap, IntKind.signed, IntKind.bits, Bool.false_and, Bool.false_eq_true, if_false]; omega
      have hrd : well_Locs_F1 (R E) Lim E.glob (well_Locs_s1 y (m : Int) (i : Int) h1) = if thereW T (97 + i) = true then appK 1 1 y [.int .u8 ((97 + i : Nat) : Int)] h1 fun x h' => some (.normal, well_Locs_s1 x (m : Int) ((i + 1 : Nat) : Int) h') else some (.normal, well_Locs_s1 y (m : Int) ((i + 1 : Nat) : Int) h1) := by
        have hsh : m >>> i < 2 ^ 64 := by
          rw [Nat.shiftRight_eq_div_pow]
          exact Nat.lt_of_le_of_lt (Nat.div_le_self _ _) (by omega)
        rw [well_Locs_r1, if_pos (by simp; omega), if_neg (by omega), g_shr (by omega), show (1 : Int) = ((1 : Nat) : Int) from rfl, g_band hsh (by omega), show ((1 : Nat) : Int) = 1 from rfl, testBit_and1, hbit i hi, hw8, g_succ (by omega)]
        rfl
      rw [hrd]
      by_cases ht : thereW T (97 + i) = true
      · obtain ⟨y2, h2, hap, hy2, hk2, _⟩ := hy.app (bytes := 1) (xs := [.int .u8 ((97 + i : Nat) : Int)]) hk.1 rfl (by omega) (by omega) (by omega)
        refine ⟨_, by rw [if_pos ht, hap], y2, h2, rfl, ?_, hk.trans hk2⟩
        rw [locsF_succ, if_pos ht, intC_snoc, List.length_append, List.length_singleton]; exact hy2
      · refine ⟨_, by rw [if_neg ht], y, h1, rfl, ?_, hk⟩
        rw [locsF_succ, if_neg ht]; exact hy) (st := well_Locs_s1 .nils (m : Int) ((0 : Nat) : Int) h) ⟨.nils, h, rfl, Own.nil _ _ _, Kp.refl _ _⟩
  have e1 : well_Locs_F1 (R E) Lim E.glob (well_Locs_s1 y (m : Int) ((26 : Nat) : Int) h1) = some (.exit 0, well_Locs_x1_1 y h1) := by
    rw [well_Locs_r1, if_neg (by simp)]
  have h3 := hL _ (Lim_exit e1)
  rw [show ((0 : Nat) : Int) = 0 from rfl] at h3
  refine ⟨y, h1, R_intro hE.fn ?_, hy, hk⟩
  rw [well_Locs_eq, if_pos ⟨rfl, p.len⟩, hr, c1_ok, asI_ok, h3, bind_ok, well_Locs_e1_1]

theorem Jumps_R (hE : well_Jumps_In E) {x : Cell} {l : List Ins} {h : AHeap} (hx : SlAt h x 9 (codeC l) l.length) (hl : l.length < 9223372036854775807) : R E 148 [.c x] h = some ([.c (.bool (jmpB l))], h) := by
  refine R_intro hE.fn ?_
  have loop : ∀ (n i : Nat), i + n = l.length → (Lim (well_Jumps_F1 (R E) Lim E.glob) (well_Jumps_s1 x x l.length (i : Int) h)).bind (fun q => well_Jumps_k3 (R E) Lim E.glob h q.1 q.2) =
      some ([.c (.bool ((List.range n).all fun k => match l[i + k]? with | some q => !(q.kind == 6 && (decide (q.n < 1) || decide (q.n > (l.length : Int) - ((i + k : Nat) : Int) - 1))) | none => true))], h) := by
    intro n
    induction n with
    | zero =>
      intro i hi
      have hr : well_Jumps_F1 (R E) Lim E.glob (well_Jumps_s1 x x l.length (i : Int) h) = some (.exit 0, well_Jumps_x1_1 h) := by rw [well_Jumps_r1, if_neg (by simp; omega)]
      rw [Lim_exit hr, bind_ok, well_Jumps_e1_1]; rfl
    | succ n ih =>
      intro i hi
      have hq : l[i]? = some l[i] := List.getElem?_eq_getElem (by omega)
      generalize l[i] = b at hq
      obtain ⟨off, cc, g1, g2, g3⟩ := hx.insG hq
      have hg : well_Jumps_F1 (R E) Lim E.glob (well_Jumps_s1 x x l.length (i : Int) h) = if (b.kind == 6 && (decide (b.n < 1) || decide (b.n > (l.length : Int) - (i : Int) - 1))) = true then some (.ret, well_Jumps_x1_0 false h) else some (.normal, well_Jumps_s1 x x l.length ((i + 1 : Nat) : Int) h) := by
        rw [well_Jumps_r1, if_pos (by simp; omega), g1, if_pos g2, g3, if_pos ⟨rfl, rfl, rfl⟩, ins_kind, asI_ok, ins_n, asI_ok, ins_n, asI_ok, hx.len]
        dsimp only
        rw [g_wrap_i64 (x := (l.length : Int) - (i : Int)) (by omega) (by omega), g_wrap_i64 (by omega) (by omega), scK_or, scK_and, g_succ (by omega)]
      rw [List.range_succ_eq_map, List.all_cons, List.all_map, Nat.add_zero, hq]
      dsimp only
      cases hb : (b.kind == 6 && (decide (b.n < 1) || decide (b.n > (l.length : Int) - (i : Int) - 1))) with
      | true =>
        rw [hb, if_pos rfl] at hg
        rw [Lim_ret hg, bind_ok, well_Jumps_e1_0]; rfl
      | false =>
        rw [hb, if_neg (by simp)] at hg
        have h1 := ih (i + 1) (by omega)
        rw [Bool.not_false, Bool.true_and]
        have he : ((List.range n).all ((fun k => match l[i + k]? with | some q => !(q.kind == 6 && (decide (q.n < 1) || decide (q.n > (l.length : Int) - ((i + k : Nat) : Int) - 1))) | none => true) ∘ Nat.succ)) = ((List.range n).all fun k => match l[i + 1 + k]? with | some q => !(q.kind == 6 && (decide (q.n < 1) || decide (q.n > (l.length : Int) - ((i + 1 + k : Nat) : Int) - 1))) | none => true) := by
          congr 1
          funext k
          show (match l[i + (k + 1)]? with | some q => !(q.kind == 6 && (decide (q.n < 1) || decide (q.n > (l.length : Int) - ((i + (k + 1) : Nat) : Int) - 1))) | none => true) = _
          rw [show i + (k + 1) = i + 1 + k by omega]
        rw [he]
        cases hL : Lim (well_Jumps_F1 (R E) Lim E.glob) (well_Jumps_s1 x x l.length ((i + 1 : Nat) : Int) h) with
        | none => rw [hL] at h1; cases h1
        | some w => rw [Lim_next hg hL]; rw [hL] at h1; exact h1
  have := loop l.length 0 (by omega)
  rw [well_Jumps_eq, hx.len]
  rw [show ((0 : Nat) : Int) = 0 from rfl] at this
  rw [this]
  unfold jmpB
  simp only [Nat.zero_add]

end
end Jq

/- Is a test too big; is a location begun twice; the check. -/
namespace Jq
open Go

section
variable {E : Env}

theorem big_1_R (hE : well_big_1_In E) {x : Cell} {l : List Atm} {h : AHeap} (hx : SlAt h x 4 (atmC l) l.length) : R E 145 [.c x] h = some ([.c (.bool (decide ((l.length : Int) > 8)))], h) := by
  refine R_intro hE.fn ?_
  rw [well_big_1_eq, hx.len]

theorem sumT_le (l : List (List Ins)) (h : ∀ c ∈ l, c.length ≤ 1000) : (l.map List.length).sum ≤ 1000 * l.length := by
  induction l with
  | nil => simp
  | cons a l ih =>
    have h1 := h a (by simp)
    have h2 := ih fun c hc => h c (by simp [hc])
    rw [List.map_cons, List.sum_cons, List.length_cons]; omega

theorem sumL_snoc (l : List (List Ins)) (c : List Ins) : sumL (l ++ [c]) = sumL l + c.length := by
  unfold sumL; rw [List.map_append, List.sum_append]; simp

theorem big_R (hE : well_big_In E) {cs : List Cell} {T : PTest} {h : AHeap} (p : TestAt h cs T) (hs : T.small) (hn : T.name.size < 9223372036854775807) :
    ∃ h', R E 127 [.agg cs] h = some ([.c (.bool (bigB T))], h') ∧ Kp h.length h h' := by
  have hfit := hs.fits hn
  obtain ⟨yl, hl1, rl, ol, kl⟩ := Locs_R hE.c117 p hfit
  have p' := p
  obtain ⟨a, b, c, rfl, ⟨ha, hal⟩, hb, hc⟩ := p'
  have a0 : ∀ {α : Type} (f : Cell → Option α), atK [.str T.name, a, b, .int .i64 T.ck, c] 0 f = f (.str T.name) := fun _ => rfl
  have a2 : ∀ {α : Type} (f : Cell → Option α), atK [.str T.name, a, b, .int .i64 T.ck, c] 2 f = f b := fun _ => rfl
  have a4 : ∀ {α : Type} (f : Cell → Option α), atK [.str T.name, a, b, .int .i64 T.ck, c] 4 f = f c := fun _ => rfl
  have n2 := hs.thr
  have loop : ∀ (n i : Nat), i + n = T.thr.length → ∃ st, Lim (well_big_F1 (R E) Lim E.glob) (well_big_s1 (sumL (T.thr.take i)) b T.thr.length (i : Int) [.str T.name, a, b, .int .i64 T.ck, c] h) = some st ∧
      (((T.thr.drop i).any fun c => decide ((c.length : Int) > 10)) = true ∧ st = (.ret, well_big_x1_0 true h) ∨ ((T.thr.drop i).any fun c => decide ((c.length : Int) > 10)) = false ∧ st = (.exit 0, well_big_x1_1 (sumL T.thr) [.str T.name, a, b, .int .i64 T.ck, c] h)) := by
    intro n
    induction n with
    | zero =>
      intro i hi
      have hr : well_big_F1 (R E) Lim E.glob (well_big_s1 (sumL (T.thr.take i)) b T.thr.length (i : Int) [.str T.name, a, b, .int .i64 T.ck, c] h) = some (.exit 0, well_big_x1_1 (sumL (T.thr.take i)) [.str T.name, a, b, .int .i64 T.ck, c] h) := by rw [well_big_r1, if_neg (by simp; omega)]
      refine ⟨_, Lim_exit hr, .inr ⟨by rw [List.drop_of_length_le (by omega)]; rfl, by rw [List.take_of_length_le (by omega)]⟩⟩
    | succ n ih =>
      intro i hi
      have hq : T.thr[i]? = some T.thr[i] := List.getElem?_eq_getElem (by omega)
      have hdr : T.thr.drop i = T.thr[i] :: T.thr.drop (i + 1) := List.drop_eq_getElem_cons (by omega)
      generalize T.thr[i] = q at hq hdr
      obtain ⟨y, y1, y2, y3⟩ := hb.get (β := Ex × St) hq
      have hsum := sumT_le (T.thr.take i) fun c hc => hs.code c (List.mem_of_mem_take hc)
      rw [List.length_take] at hsum
      have hql := hs.code q (List.mem_of_getElem? hq)
      have hw : E.glob.wrap .i64 (sumL (T.thr.take i) + (q.length : Int)) = sumL (T.thr.take (i + 1)) := by
        rw [takeI_succ hq, sumL_snoc]
        unfold sumL
        exact g_wrap_i64 (by omega) (by omega)
      rw [hdr, List.any_cons]
      cases hbb : decide ((q.length : Int) > 10) with
      | true =>
        have hr : well_big_F1 (R E) Lim E.glob (well_big_s1 (sumL (T.thr.take i)) b T.thr.length (i : Int) [.str T.name, a, b, .int .i64 T.ck, c] h) = some (.ret, well_big_x1_0 true h) := by
          rw [well_big_r1, if_pos (by simp; omega), y3, y1.len, hbb, if_pos rfl]
        exact ⟨_, Lim_ret hr, .inl ⟨Bool.true_or _, rfl⟩⟩
      | false =>
        have hr : well_big_F1 (R E) Lim E.glob (well_big_s1 (sumL (T.thr.take i)) b T.thr.length (i : Int) [.str T.name, a, b, .int .i64 T.ck, c] h) = some (.normal, well_big_s1 (sumL (T.thr.take (i + 1))) b T.thr.length ((i + 1 : Nat) : Int) [.str T.name, a, b, .int .i64 T.ck, c] h) := by
          rw [well_big_r1, if_pos (by simp; omega), y3, y1.len, hbb, if_neg (by simp), y1.len, hw, g_succ (by omega)]
        obtain ⟨st, h1, h2⟩ := ih (i + 1) (by omega)
        exact ⟨st, Lim_next hr h1, by rw [Bool.false_or]; exact h2⟩
  obtain ⟨st, h1, h2⟩ := loop T.thr.length 0 (by omega)
  rw [show sumL (T.thr.take 0) = 0 from rfl, show ((0 : Nat) : Int) = 0 from rfl] at h1
  rw [List.drop_zero] at h2
  rcases h2 with ⟨h2, rfl⟩ | ⟨h2, rfl⟩
  · refine ⟨h, R_intro hE.fn ?_, Kp.refl _ _⟩
    rw [well_big_eq, a2, hb.len, h1, bind_ok, well_big_e1_0]
    unfold bigB
    rw [h2, Bool.true_or]
  · have hcf := fun (H : AHeap) (k : Kp h.length h H) => any_ssAtom_sAtom_R hE.c146 (f := .fn 145 []) (h := H) (hc.keep k) (by have := hs.any; omega) (fun r => decide ((r.length : Int) > 8)) fun r hm y hy α F => by
      show c1 (R E 145 ([.c y] ++ []) H) F = _
      rw [List.append_nil, big_1_R hE.c145 hy, c1_ok]
    have s0 : ∀ {α : Type} (f : ByteArray → Option α), asS (.c (.str T.name)) f = f T.name := fun _ => rfl
    have s1 : ∀ {α : Type} (f : Int → Option α), lenSK (.str T.name) f = f T.name.size := fun _ => rfl
    have rest : ∀ (x : Bool) (H : AHeap), Kp h.length h H → ((scK x false (atK [.str T.name, a, b, .int .i64 T.ck, c] 4 fun q_24 => lenK q_24 fun n_25 => some ((decide (n_25 > 8)), H)) true H fun b_26 h_27 => scK b_26 false (atK [.str T.name, a, b, .int .i64 T.ck, c] 4 fun q_28 => c1 (R E 146 [(.c q_28), (.c (.fn 145 []))] h_27) fun y_30 h_29 => asB y_30 fun b_31 => some (b_31, h_29)) true h_27 fun b_32 h_33 => scK b_32 false (atK [.str T.name, a, b, .int .i64 T.ck, c] 0 fun q_34 => asS (.c q_34) fun z_35 => lenSK (.str z_35) fun n_36 => some ((decide (n_36 > 20)), h_33)) true h_33 fun b_37 h_38 => some ([(.c (.bool b_37))], h_38)) : Option (List AV × AHeap)) = some ([.c (.bool (((x || decide ((T.any.length : Int) > 8)) || (T.any.any fun r => decide ((r.length : Int) > 8))) || decide ((T.name.size : Int) > 20)))], H) := by
      intro x H k
      rw [a4, (hc.keep k).len, scK_or, a4, hcf H k, c1_ok, asB_ok, scK_or, a0, s0, s1, scK_or]
    have hfin : (((T.thr.length : Int) == 0 || decide ((T.thr.length : Int) > 4) || decide (sumL T.thr > 24)) = true ∧ well_big.body (R E) Lim E.glob [.agg [.str T.name, a, b, .int .i64 T.ck, c]] h = some ([.c (.bool (bigB T))], h)) ∨ (well_big.body (R E) Lim E.glob [.agg [.str T.name, a, b, .int .i64 T.ck, c]] h = some ([.c (.bool (bigB T))], hl1)) := by
      rw [well_big_eq, a2, hb.len, h1, bind_ok, well_big_e1_1, a2, hb.len, a2, hb.len, scK_or, scK_or]
      unfold bigB
      rw [h2, Bool.false_or]
      cases hx : ((T.thr.length : Int) == 0 || decide ((T.thr.length : Int) > 4) || decide (sumL T.thr > 24)) with
      | true =>
        refine .inl ⟨rfl, ?_⟩
        rw [scK_tf, rest true h (Kp.refl _ _)]
        simp only [Bool.true_or]
      | false =>
        refine .inr ?_
        rw [scK_ok, if_pos ⟨rfl, rfl⟩, rl, c1_ok, asC_ok, ol.at.len, bind_ok]
        dsimp only
        rw [rest _ hl1 kl, Bool.false_or]
    rcases hfin with ⟨_, hh⟩ | hh
    · exact ⟨h, R_intro hE.fn hh, Kp.refl _ _⟩
    · exact ⟨hl1, R_intro hE.fn hh, kl⟩

theorem twice_R (hE : well_twice_In E) {x : Cell} {l : List (Int × Int)} {h : AHeap} (hx : SlAt h x 2 (pairC l) l.length) (hl : l.length < 9223372036854775807) (hg : ∀ p ∈ l, locB p.1 = true) : R E 128 [.c x] h = some ([.c (.bool (twB l))], h) := by
  refine R_intro hE.fn ?_
  have loop : ∀ (n i m : Nat), i + n = l.length → m < 2 ^ 26 → (∀ j, j < 26 → m.testBit j = (l.take i).any fun q => q.1 == ((97 + j : Nat) : Int)) → (Lim (well_twice_F1 (R E) Lim E.glob) (well_twice_s1 (m : Int) x l.length (i : Int) h)).bind (fun q => well_twice_k3 (R E) Lim E.glob h q.1 q.2) =
      some ([.c (.bool ((List.range n).any fun k => match l[i + k]? with | some p => (l.take (i + k)).any (fun q => q.1 == p.1) | none => false))], h) := by
    intro n
    induction n with
    | zero =>
      intro i m hi _ _
      have hr : well_twice_F1 (R E) Lim E.glob (well_twice_s1 (m : Int) x l.length (i : Int) h) = some (.exit 0, well_twice_x1_1 h) := by rw [well_twice_r1, if_neg (by simp; omega)]
      rw [Lim_exit hr, bind_ok, well_twice_e1_1]; rfl
    | succ n ih =>
      intro i m hi hm hbit
      have hq : l[i]? = some l[i] := List.getElem?_eq_getElem (by omega)
      generalize l[i] = p at hq
      have hp := hg p (List.mem_of_getElem? hq)
      have hr97 : 97 ≤ p.1 ∧ p.1 ≤ 122 := by unfold locB at hp; simpa using hp
      obtain ⟨v, hv⟩ : ∃ v : Nat, p.1 - 97 = (v : Int) := ⟨(p.1 - 97).toNat, by omega⟩
      have hv26 : v < 26 := by omega
      have hpv : p.1 = ((97 + v : Nat) : Int) := by omega
      obtain ⟨off, cc, g1, g2, g3⟩ := hx.pairG hq
      have hsh : m >>> v < 2 ^ 64 := by
        rw [Nat.shiftRight_eq_div_pow]
        exact Nat.lt_of_le_of_lt (Nat.div_le_self _ _) (by omega)
      have hpw : 2 ^ v < 2 ^ 26 := Nat.pow_lt_pow_right (by omega) hv26
      have hor : m ||| 2 ^ v < 2 ^ 26 := Nat.or_lt_two_pow hm hpw
      have hstep : well_twice_F1 (R E) Lim E.glob (well_twice_s1 (m : Int) x l.length (i : Int) h) = if ((l.take i).any fun q => q.1 == p.1) = true then some (.ret, well_twice_x1_0 true h) else some (.normal, well_twice_s1 ((m ||| 2 ^ v : Nat) : Int) x l.length ((i + 1 : Nat) : Int) h) := by
        have a0 : ∀ {α : Type} (f : Cell → Option α), atK (pairCs p) 0 f = f (.int .i64 p.1) := fun _ => rfl
        rw [well_twice_r1, if_pos (by simp; omega), g1, if_pos g2, g3, if_pos ⟨rfl, rfl, rfl⟩, a0, asI_ok, g_wrap_i64 (x := p.1 - 97) (by omega) (by omega), hv, if_neg (by omega)]
        dsimp only
        rw [g_shr (by omega), show (1 : Int) = ((1 : Nat) : Int) from rfl, g_band hsh (by omega), show ((1 : Nat) : Int) = 1 from rfl, testBit_and1, hbit v hv26, ← hpv, a0, asI_ok, g_wrap_i64 (x := p.1 - 97) (by omega) (by omega), hv, if_neg (show ¬ ((v : Int) < 0) by omega)]
        rw [g_shl_one (by omega), g_bor (by omega) (by omega), g_succ (by omega)]
      rw [List.range_succ_eq_map, List.any_cons, List.any_map, Nat.add_zero, hq]
      dsimp only
      cases hb : ((l.take i).any fun q => q.1 == p.1) with
      | true =>
        rw [hb, if_pos rfl] at hstep
        rw [Lim_ret hstep, bind_ok, well_twice_e1_0]; rfl
      | false =>
        rw [hb, if_neg (by simp)] at hstep
        have h1 := ih (i + 1) (m ||| 2 ^ v) (by omega) hor (fun j hj => by
          rw [Nat.testBit_or, Nat.testBit_two_pow, hbit j hj, any_take_succ hq, hpv]
          congr 1
          rw [Bool.eq_iff_iff]; simp; omega)
        rw [Bool.false_or]
        have he : ((List.range n).any ((fun k => match l[i + k]? with | some p => (l.take (i + k)).any (fun q => q.1 == p.1) | none => false) ∘ Nat.succ)) = ((List.range n).any fun k => match l[i + 1 + k]? with | some p => (l.take (i + 1 + k)).any (fun q => q.1 == p.1) | none => false) := by
          congr 1
          funext k
          show (match l[i + (k + 1)]? with | some p => (l.take (i + (k + 1))).any (fun q => q.1 == p.1) | none => false) = _
          rw [show i + (k + 1) = i + 1 + k by omega]
        rw [he]
        cases hL : Lim (well_twice_F1 (R E) Lim E.glob) (well_twice_s1 ((m ||| 2 ^ v : Nat) : Int) x l.length ((i + 1 : Nat) : Int) h) with
        | none => rw [hL] at h1; cases h1
        | some w => rw [Lim_next hstep hL]; rw [hL] at h1; exact h1
  have := loop l.length 0 0 (by omega) (by omega) (fun j _ => by simp)
  rw [well_twice_eq, hx.len]
  rw [show ((0 : Nat) : Int) = 0 from rfl] at this
  rw [this]
  unfold twB
  simp only [Nat.zero_add]
  all_goals rfl

theorem Check_1_R (hE : well_Check_1_In E) {x : Cell} {l : List Ins} {h : AHeap} (hx : SlAt h x 9 (codeC l) l.length) (hl : l.length < 9223372036854775807) : R E 129 [.c x] h = some ([.c (.bool (!jmpB l))], h) := by
  refine R_intro hE.fn ?_
  rw [well_Check_1_eq, Jumps_R hE.c148 hx hl, c1_ok, asB_ok]

theorem okT_locs {T : PTest} (h : okT T = true) : ∀ p ∈ T.inits, locB p.1 = true := by
  unfold okT at h
  simp only [Bool.and_eq_true, Bool.not_eq_true', List.any_eq_false] at h
  intro p hp
  have := h.1.1.2 p hp
  simpa using this

theorem Check_R (hE : well_Check_In E) {cs : List Cell} {T : PTest} {h : AHeap} (p : TestAt h cs T) (hs : T.small) (hn : T.name.size < 9223372036854775807) :
    R E 116 [.agg cs] h = some ([.c (.int .i64 (checkT T))], h) := by
  have hfit := hs.fits hn
  refine R_intro hE.fn ?_
  have hlen := p.len
  have k1 : Kp h.length h (h ++ [some ⟨true, 0, cs⟩]) := Kp.app _ (Nat.le_refl _)
  have b1 : blk? (h ++ [some ⟨true, 0, cs⟩]) h.length = some ⟨true, 0, cs⟩ := blk_new _ _
  have hcell : AV.cells (.agg cs) = cs := rfl
  have n1 : h.length < (h ++ [some (Blk.mk true 0 cs)]).length := by simp
  rw [well_Check_eq]
  simp only [hcell]
  generalize h ++ [some (Blk.mk true 0 cs)] = h1 at *
  have p1 := p.keep k1
  obtain ⟨h2, r2, k2⟩ := big_R hE.c127 p1 hs hn
  have b2 : blk? h2 h.length = some ⟨true, 0, cs⟩ := by rw [k2.blk n1]; exact b1
  have kk : Kp h.length h h2 := k1.trans (k2.mono k1.1)
  have p2 := p1.keep k2
  have fin : ∀ (h' : AHeap) (n : Int), Kp h.length h h' → finish true h [.c (.int .i64 n)] h' = some ([.c (.int .i64 n)], h) := fun h' n hk => finish_gc hk (by simp [avOk, AV.cells, idOk])
  have hinl : okT T = true → ∀ p ∈ T.inits, locB p.1 = true := okT_locs
  rw [rdH_ok b1 rfl, if_pos ⟨trivial, hlen⟩, print_Ok_R hE.c126 p1 hfit, c1_ok, asB_ok]
  unfold checkT
  by_cases ho : (!okT T) = true
  · rw [if_pos ho, if_pos ho, fin _ _ k1]
  have ho' : okT T = true := by simpa using ho
  rw [if_neg ho, if_neg ho, rdH_ok b1 rfl, if_pos ⟨trivial, hlen⟩, r2, c1_ok, asB_ok]
  by_cases hbg : bigB T = true
  · rw [if_pos hbg, if_pos hbg, fin _ _ kk]
  rw [if_neg hbg, if_neg hbg, rdH_ok b2 rfl]
  dsimp only
  obtain ⟨a, b, c, rfl, ⟨ha, hal⟩, hb, hc⟩ := p2
  have a1 : ∀ {α : Type} (f : Cell → Option α), atK [.str T.name, a, b, .int .i64 T.ck, c] 1 f = f a := fun _ => rfl
  have a2 : ∀ {α : Type} (f : Cell → Option α), atK [.str T.name, a, b, .int .i64 T.ck, c] 2 f = f b := fun _ => rfl
  have a4 : ∀ {α : Type} (f : Cell → Option α), atK [.str T.name, a, b, .int .i64 T.ck, c] 4 f = f c := fun _ => rfl
  have cj := any_ssIns_sIns_R hE.c130 (f := .fn 129 []) hb hfit.thr (fun c => !jmpB c) fun r hm y hy α F => by
    show c1 (R E 129 ([.c y] ++ []) h2) F = _
    rw [List.append_nil, Check_1_R hE.c129 hy (hfit.code r hm), c1_ok]
  rw [a1, twice_R hE.c128 ha hfit.inits (hinl ho'), c1_ok, asB_ok]
  by_cases htw : twB T.inits = true
  · rw [if_pos htw, if_pos htw, fin _ _ kk]
  rw [if_neg htw, if_neg htw, rdH_ok b2 rfl]
  dsimp only
  rw [a2, cj, c1_ok, asB_ok]
  by_cases hj : (T.thr.any fun c => !jmpB c) = true
  · rw [if_pos hj, if_pos hj, fin _ _ kk]
  rw [if_neg hj, if_neg hj, rdH_ok b2 rfl]
  dsimp only
  rw [a4, hc.len]
  have hatm : ∀ (r : List Atm) (y : Cell), r ∈ T.any → SlAt h2 y 4 (atmC r) r.length → R E 132 [.c y, .c (.fn 131 [(h.length, ([Cell.str T.name, a, b, .int .i64 T.ck, c] : List Cell).length, 0)])] h2 = some ([.c (.bool (r.any (outB T.thr.length)))], h2) := by
    intro r y hm hy
    refine any_sAtom_Atom_R hE.c132 hy (hfit.row r hm) (outB T.thr.length) fun i _ α F => ?_
    show c1 (R E 131 ([.agg i.cs] ++ [.c (.ptr h.length _ 0)]) h2) F = _
    have : R E 131 ([.agg i.cs] ++ [.c (.ptr h.length ([Cell.str T.name, a, b, .int .i64 T.ck, c] : List Cell).length 0)]) h2 = some ([.c (.bool (outB T.thr.length i))], h2) := by
      refine R_intro hE.c131.fn ?_
      have q0 : ∀ {α : Type} (f : Cell → Option α), atK i.cs 0 f = f (.int .i64 i.thread) := fun _ => rfl
      show well_Check_2.body (R E) Lim E.glob [.agg i.cs, .c (.ptr h.length _ 0)] h2 = _
      rw [well_Check_2_eq, q0, asI_ok, q0, asI_ok, rdH_ok b2 rfl]
      dsimp only
      rw [show 0 + 2 = 2 from rfl, a2, hb.len, scK_and]; rfl
    rw [this, c1_ok]
  have loop : ∀ (n i : Nat), i + n = T.any.length → (Lim (well_Check_F1 (R E) Lim E.glob) (well_Check_s1 h.length ([Cell.str T.name, a, b, .int .i64 T.ck, c] : List Cell).length 0 c T.any.length (i : Int) h2)).bind (fun q => well_Check_k3 (R E) Lim E.glob h q.1 q.2) =
      some ([.c (.int .i64 (if ((T.any.drop i).any fun r => r.any (outB T.thr.length)) = true then 10 else 0))], h) := by
    intro n
    induction n with
    | zero =>
      intro i hi
      have hr : well_Check_F1 (R E) Lim E.glob (well_Check_s1 h.length ([Cell.str T.name, a, b, .int .i64 T.ck, c] : List Cell).length 0 c T.any.length (i : Int) h2) = some (.exit 1, well_Check_x1_2 h2) := by rw [well_Check_r1, if_neg (by simp; omega)]
      rw [Lim_exit hr, bind_ok, well_Check_e1_2, List.drop_of_length_le (by omega), fin _ _ kk]; rfl
    | succ n ih =>
      intro i hi
      have hal := hs.any
      have hq : T.any[i]? = some T.any[i] := List.getElem?_eq_getElem (by omega)
      have hdr : T.any.drop i = T.any[i] :: T.any.drop (i + 1) := List.drop_eq_getElem_cons (by omega)
      generalize T.any[i] = q at hq hdr
      obtain ⟨y, y1, y2, y3⟩ := hc.get (β := Ex × St) hq
      have hp := hatm q y (List.mem_of_getElem? hq) y1
      rw [hdr, List.any_cons]
      cases hbb : q.any (outB T.thr.length) with
      | true =>
        have hr : well_Check_F1 (R E) Lim E.glob (well_Check_s1 h.length ([Cell.str T.name, a, b, .int .i64 T.ck, c] : List Cell).length 0 c T.any.length (i : Int) h2) = some (.ret, well_Check_x1_0 10 h2) := by
          rw [well_Check_r1, if_pos (by simp; omega), y3, hp, c1_ok, asB_ok, hbb, if_pos rfl]
        rw [Lim_ret hr, bind_ok, well_Check_e1_0, fin _ _ kk]; rfl
      | false =>
        have hr : well_Check_F1 (R E) Lim E.glob (well_Check_s1 h.length ([Cell.str T.name, a, b, .int .i64 T.ck, c] : List Cell).length 0 c T.any.length (i : Int) h2) = some (.normal, well_Check_s1 h.length ([Cell.str T.name, a, b, .int .i64 T.ck, c] : List Cell).length 0 c T.any.length ((i + 1 : Nat) : Int) h2) := by
          rw [well_Check_r1, if_pos (by simp; omega), y3, hp, c1_ok, asB_ok, hbb, if_neg (by simp), g_succ (by omega)]
        have h1 := ih (i + 1) (by omega)
        rw [Bool.false_or]
        cases hL : Lim (well_Check_F1 (R E) Lim E.glob) (well_Check_s1 h.length ([Cell.str T.name, a, b, .int .i64 T.ck, c] : List Cell).length 0 c T.any.length ((i + 1 : Nat) : Int) h2) with
        | none => rw [hL] at h1; cases h1
        | some w => rw [Lim_next hr hL]; rw [hL] at h1; exact h1
  have := loop T.any.length 0 (by omega)
  rw [show ((0 : Nat) : Int) = 0 from rfl, List.drop_zero] at this
  exact this

end
end Jq

namespace Jq
open Go

/- jacquard/jacquardlaw3.Small: 97 -/
def jacquardlaw3_Small_k2 (C : CallF) (L : LoopF) (G : Glo) (h0 : AHeap) : Ex → St → Option (List AV × AHeap) :=
  kSeq (fun st => jacquardlaw3_Small_p1.exec C L G st (jacquardlaw3_Small.fin G h0)) (jacquardlaw3_Small.fin G h0)
def jacquardlaw3_Small_c1 (a1 : Int) (x7 : Cell) (a8 : Int) (a9 : Int) (s0 : List Cell) (s1 : List Cell) (h : AHeap) : St := ⟨[.top, .v (.c (.int .i64 a1)), .top, .top, .loc 0 0, .loc 1 0, .top, .v (.c x7), .v (.c (.int .i64 a8)), .v (.c (.int .i64 a9)), .top, .top, .top, .top, .top, .top, .top, .top, .top, .top, .top, .top, .top, .top, .top, .top, .top, .top, .top, .top, .top, .top, .top, .top, .top, .top, .top, .top, .top, .top, .top, .top, .top, .top, .top, .top, .top, .top, .top, .top, .top, .top, .top, .top, .top, .top, .top, .top, .top, .top, .top, .top, .top, .top, .top, .top, .top, .top, .top, .top, .top, .top, .top, .top, .top, .top, .top, .top, .top, .top, .top, .top, .top, .top, .top, .top, .top, .top, .top, .top, .top, .top, .top, .top, .top, .top, .top, .top, .top, .top, .top, .top, .top, .top, .top, .top, .top, .top, .top, .top, .top, .top, .top, .top, .top, .top, .top, .top, .top, .top, .top, .top, .top, .top, .top, .top, .top, .top, .top, .top, .top, .top, .top, .top, .top, .top, .top, .top, .top, .top, .top, .top, .top, .top, .top, .top, .top, .top, .top, .top, .top, .top, .top, .top, .top, .top, .top, .top, .top, .top, .top, .top, .top, .top, .top, .top, .top, .top, .top, .top, .top, .top, .top, .top, .top, .top, .top, .top, .top, .top, .top, .top, .top, .top], [some s0, some s1, none], h⟩
def jacquardlaw3_Small_k3 (C : CallF) (L : LoopF) (G : Glo) (h0 : AHeap) : Ex → St → Option (List AV × AHeap) :=
  kSeq (fun st => jacquardlaw3_Small_p2.exec C L G st (jacquardlaw3_Small.fin G h0)) (jacquardlaw3_Small.fin G h0)
def jacquardlaw3_Small_k4 (C : CallF) (L : LoopF) (G : Glo) (h0 : AHeap) : Ex → St → Option (List AV × AHeap) :=
  kBlk 0 (jacquardlaw3_Small_k3 C L G h0)
def jacquardlaw3_Small_s2 (a1 : Int) (x7 : Cell) (a8 : Int) (a9 : Int) (a10 : Int) (a11 : Int) (s0 : List Cell) (s1 : List Cell) (h : AHeap) : St := ⟨[.top, .v (.c (.int .i64 a1)), .top, .top, .loc 0 0, .loc 1 0, .top, .v (.c x7), .v (.c (.int .i64 a8)), .v (.c (.int .i64 a9)), .v (.c (.int .i64 a10)), .v (.c (.int .i64 a11)), .top, .top, .top, .top, .top, .top, .top, .top, .top, .top, .top, .top, .top, .top, .top, .top, .top, .top, .top, .top, .top, .top, .top, .top, .top, .top, .top, .top, .top, .top, .top, .top, .top, .top, .top, .top, .top, .top, .top, .top, .top, .top, .top, .top, .top, .top, .top, .top, .top, .top, .top, .top, .top, .top, .top, .top, .top, .top, .top, .top, .top, .top, .top, .top, .top, .top, .top, .top, .top, .top, .top, .top, .top, .top, .top, .top, .top, .top, .top, .top, .top, .top, .top, .top, .top, .top, .top, .top, .top, .top, .top, .top, .top, .top, .top, .top, .top, .top, .top, .top, .top, .top, .top, .top, .top, .top, .top, .top, .top, .top, .top, .top, .top, .top, .top, .top, .top, .top, .top, .top, .top, .top, .top, .top, .top, .top, .top, .top, .top, .top, .top, .top, .top, .top, .top, .top, .top, .top, .top, .top, .top, .top, .top, .top, .top, .top, .top, .top, .top, .top, .top, .top, .top, .top, .top, .top, .top, .top, .top, .top, .top, .top, .top, .top, .top, .top, .top, .top, .top, .top, .top, .top], [some s0, some s1, none], h⟩
def jacquardlaw3_Small_F2 (C : CallF) (L : LoopF) (G : Glo) : St → Option (Ex × St) :=
  roundF (fun st f => jacquardlaw3_Small_b2.exec C L G st f) [1, 4, 5, 7, 8, 9, 10, 11] [0, 1] [(1, [4, 5, 7], [0, 1])]
def jacquardlaw3_Small_k5 (C : CallF) (L : LoopF) (G : Glo) : Ex → St → Option (Ex × St) :=
  kSeq (fun st => jacquardlaw3_Small_p3.exec C L G st (kLoop [1, 4, 5, 7, 8, 9, 10, 11] [0, 1] [(1, [4, 5, 7], [0, 1])])) (kLoop [1, 4, 5, 7, 8, 9, 10, 11] [0, 1] [(1, [4, 5, 7], [0, 1])])
def jacquardlaw3_Small_k6 (C : CallF) (L : LoopF) (G : Glo) : Ex → St → Option (Ex × St) :=
  kBlk 1 (jacquardlaw3_Small_k5 C L G)
def jacquardlaw3_Small_k7 (C : CallF) (L : LoopF) (G : Glo) : Ex → St → Option (Ex × St) :=
  kSeq (fun st => jacquardlaw3_Small_p4.exec C L G st (jacquardlaw3_Small_k6 C L G)) (jacquardlaw3_Small_k6 C L G)
def jacquardlaw3_Small_k8 (C : CallF) (L : LoopF) (G : Glo) : Ex → St → Option (Ex × St) :=
  kBlk 2 (jacquardlaw3_Small_k7 C L G)
def jacquardlaw3_Small_s1 (a1 : Int) (x7 : Cell) (a8 : Int) (a9 : Int) (a10 : Int) (a11 : Int) (x12 : Cell) (a13 : Int) (s0 : List Cell) (s1 : List Cell) (h : AHeap) : St := ⟨[.top, .v (.c (.int .i64 a1)), .top, .top, .loc 0 0, .loc 1 0, .top, .v (.c x7), .v (.c (.int .i64 a8)), .v (.c (.int .i64 a9)), .v (.c (.int .i64 a10)), .v (.c (.int .i64 a11)), .v (.c x12), .v (.c (.int .i64 a13)), .top, .top, .top, .top, .top, .top, .top, .top, .top, .top, .top, .top, .top, .top, .top, .top, .top, .top, .top, .top, .top, .top, .top, .top, .top, .top, .top, .top, .top, .top, .top, .top, .top, .top, .top, .top, .top, .top, .top, .top, .top, .top, .top, .top, .top, .top, .top, .top, .top, .top, .top, .top, .top, .top, .top, .top, .top, .top, .top, .top, .top, .top, .top, .top, .top, .top, .top, .top, .top, .top, .top, .top, .top, .top, .top, .top, .top, .top, .top, .top, .top, .top, .top, .top, .top, .top, .top, .top, .top, .top, .top, .top, .top, .top, .top, .top, .top, .top, .top, .top, .top, .top, .top, .top, .top, .top, .top, .top, .top, .top, .top, .top, .top, .top, .top, .top, .top, .top, .top, .top, .top, .top, .top, .top, .top, .top, .top, .top, .top, .top, .top, .top, .top, .top, .top, .top, .top, .top, .top, .top, .top, .top, .top, .top, .top, .top, .top, .top, .top, .top, .top, .top, .top, .top, .top, .top, .top, .top, .top, .top, .top, .top, .top, .top, .top, .top, .top, .top, .top, .top], [some s0, some s1, none], h⟩
def jacquardlaw3_Small_F1 (C : CallF) (L : LoopF) (G : Glo) : St → Option (Ex × St) :=
  roundF (fun st f => jacquardlaw3_Small_b1.exec C L G st f) [1, 4, 5, 7, 8, 9, 10, 11, 12, 13] [0, 1] [(3, [1, 4, 5, 7, 8, 9, 10, 11, 12], [0, 1])]
def jacquardlaw3_Small_k9 (C : CallF) (L : LoopF) (G : Glo) : Ex → St → Option (Ex × St) :=
  kSeq (fun st => jacquardlaw3_Small_p5.exec C L G st (kLoop [1, 4, 5, 7, 8, 9, 10, 11, 12, 13] [0, 1] [(3, [1, 4, 5, 7, 8, 9, 10, 11, 12], [0, 1])])) (kLoop [1, 4, 5, 7, 8, 9, 10, 11, 12, 13] [0, 1] [(3, [1, 4, 5, 7, 8, 9, 10, 11, 12], [0, 1])])
def jacquardlaw3_Small_k10 (C : CallF) (L : LoopF) (G : Glo) : Ex → St → Option (Ex × St) :=
  kBlk 3 (jacquardlaw3_Small_k9 C L G)
def jacquardlaw3_Small_k11 (C : CallF) (L : LoopF) (G : Glo) : Ex → St → Option (Ex × St) :=
  kSeq (fun st => jacquardlaw3_Small_p6.exec C L G st (jacquardlaw3_Small_k10 C L G)) (jacquardlaw3_Small_k10 C L G)
def jacquardlaw3_Small_c2 (a1 : Int) (x7 : Cell) (a8 : Int) (a9 : Int) (a10 : Int) (a11 : Int) (x12 : Cell) (a13 : Int) (a14 : Int) (a15 : Int) (s0 : List Cell) (s1 : List Cell) (s2 : List Cell) (h : AHeap) : St := ⟨[.top, .v (.c (.int .i64 a1)), .top, .top, .loc 0 0, .loc 1 0, .top, .v (.c x7), .v (.c (.int .i64 a8)), .v (.c (.int .i64 a9)), .v (.c (.int .i64 a10)), .v (.c (.int .i64 a11)), .v (.c x12), .v (.c (.int .i64 a13)), .v (.c (.int .i64 a14)), .v (.c (.int .i64 a15)), .loc 2 0, .top, .top, .top, .top, .top, .top, .top, .top, .top, .top, .top, .top, .top, .top, .top, .top, .top, .top, .top, .top, .top, .top, .top, .top, .top, .top, .top, .top, .top, .top, .top, .top, .top, .top, .top, .top, .top, .top, .top, .top, .top, .top, .top, .top, .top, .top, .top, .top, .top, .top, .top, .top, .top, .top, .top, .top, .top, .top, .top, .top, .top, .top, .top, .top, .top, .top, .top, .top, .top, .top, .top, .top, .top, .top, .top, .top, .top, .top, .top, .top, .top, .top, .top, .top, .top, .top, .top, .top, .top, .top, .top, .top, .top, .top, .top, .top, .top, .top, .top, .top, .top, .top, .top, .top, .top, .top, .top, .top, .top, .top, .top, .top, .top, .top, .top, .top, .top, .top, .top, .top, .top, .top, .top, .top, .top, .top, .top, .top, .top, .top, .top, .top, .top, .top, .top, .top, .top, .top, .top, .top, .top, .top, .top, .top, .top, .top, .top, .top, .top, .top, .top, .top, .top, .top, .top, .top, .top, .top, .top, .top, .top, .top, .top, .top, .top, .top, .top], [some s0, some s1, some s2], h⟩
def jacquardlaw3_Small_k12 (C : CallF) (L : LoopF) (G : Glo) : Ex → St → Option (Ex × St) :=
  kBlk 4 (jacquardlaw3_Small_k10 C L G)
def jacquardlaw3_Small_k13 (C : CallF) (L : LoopF) (G : Glo) : Ex → St → Option (Ex × St) :=
  kSeq (fun st => jacquardlaw3_Small_p7.exec C L G st (jacquardlaw3_Small_k12 C L G)) (jacquardlaw3_Small_k12 C L G)
def jacquardlaw3_Small_c3 (a1 : Int) (x7 : Cell) (a8 : Int) (a9 : Int) (a10 : Int) (a11 : Int) (x12 : Cell) (a13 : Int) (a15 : Int) (a17 : Int) (a83 : Int) (b95 : Bool) (s0 : List Cell) (s1 : List Cell) (s2 : List Cell) (h : AHeap) : St := ⟨[.top, .v (.c (.int .i64 a1)), .top, .top, .loc 0 0, .loc 1 0, .top, .v (.c x7), .v (.c (.int .i64 a8)), .v (.c (.int .i64 a9)), .v (.c (.int .i64 a10)), .v (.c (.int .i64 a11)), .v (.c x12), .v (.c (.int .i64 a13)), .top, .v (.c (.int .i64 a15)), .loc 2 0, .v (.c (.int .i64 a17)), .top, .top, .top, .top, .top, .top, .top, .top, .top, .top, .top, .top, .top, .top, .top, .top, .top, .top, .top, .top, .top, .top, .top, .top, .top, .top, .top, .top, .top, .top, .top, .top, .top, .top, .top, .top, .top, .top, .top, .top, .top, .top, .top, .top, .top, .top, .top, .top, .top, .top, .top, .top, .top, .top, .top, .top, .top, .top, .top, .top, .top, .top, .top, .top, .top, .v (.c (.int .i64 a83)), .top, .top, .top, .top, .top, .top, .top, .top, .top, .top, .top, .v (.c (.bool b95)), .top, .top, .top, .top, .top, .top, .top, .top, .top, .top, .top, .top, .top, .top, .top, .top, .top, .top, .top, .top, .top, .top, .top, .top, .top, .top, .top, .top, .top, .top, .top, .top, .top, .top, .top, .top, .top, .top, .top, .top, .top, .top, .top, .top, .top, .top, .top, .top, .top, .top, .top, .top, .top, .top, .top, .top, .top, .top, .top, .top, .top, .top, .top, .top, .top, .top, .top, .top, .top, .top, .top, .top, .top, .top, .top, .top, .top, .top, .top, .top, .top, .top, .top, .top, .top, .top, .top, .top], [some s0, some s1, some s2], h⟩
def jacquardlaw3_Small_k14 (C : CallF) (L : LoopF) (G : Glo) : Ex → St → Option (Ex × St) :=
  kSeq (fun st => jacquardlaw3_Small_p8.exec C L G st (jacquardlaw3_Small_k12 C L G)) (jacquardlaw3_Small_k12 C L G)
def jacquardlaw3_Small_c4 (a1 : Int) (x7 : Cell) (a8 : Int) (a9 : Int) (a10 : Int) (a11 : Int) (x12 : Cell) (a13 : Int) (a15 : Int) (a17 : Int) (a83 : Int) (b108 : Bool) (s0 : List Cell) (s1 : List Cell) (s2 : List Cell) (h : AHeap) : St := ⟨[.top, .v (.c (.int .i64 a1)), .top, .top, .loc 0 0, .loc 1 0, .top, .v (.c x7), .v (.c (.int .i64 a8)), .v (.c (.int .i64 a9)), .v (.c (.int .i64 a10)), .v (.c (.int .i64 a11)), .v (.c x12), .v (.c (.int .i64 a13)), .top, .v (.c (.int .i64 a15)), .loc 2 0, .v (.c (.int .i64 a17)), .top, .top, .top, .top, .top, .top, .top, .top, .top, .top, .top, .top, .top, .top, .top, .top, .top, .top, .top, .top, .top, .top, .top, .top, .top, .top, .top, .top, .top, .top, .top, .top, .top, .top, .top, .top, .top, .top, .top, .top, .top, .top, .top, .top, .top, .top, .top, .top, .top, .top, .top, .top, .top, .top, .top, .top, .top, .top, .top, .top, .top, .top, .top, .top, .top, .v (.c (.int .i64 a83)), .top, .top, .top, .top, .top, .top, .top, .top, .top, .top, .top, .top, .top, .top, .top, .top, .top, .top, .top, .top, .top, .top, .top, .top, .v (.c (.bool b108)), .top, .top, .top, .top, .top, .top, .top, .top, .top, .top, .top, .top, .top, .top, .top, .top, .top, .top, .top, .top, .top, .top, .top, .top, .top, .top, .top, .top, .top, .top, .top, .top, .top, .top, .top, .top, .top, .top, .top, .top, .top, .top, .top, .top, .top, .top, .top, .top, .top, .top, .top, .top, .top, .top, .top, .top, .top, .top, .top, .top, .top, .top, .top, .top, .top, .top, .top, .top, .top, .top, .top, .top, .top, .top, .top], [some s0, some s1, some s2], h⟩
def jacquardlaw3_Small_x1_3 (a1 : Int) (x7 : Cell) (a8 : Int) (a9 : Int) (a10 : Int) (a11 : Int) (x12 : Cell) (s0 : List Cell) (s1 : List Cell) (h : AHeap) : St := ⟨[.top, .v (.c (.int .i64 a1)), .top, .top, .loc 0 0, .loc 1 0, .top, .v (.c x7), .v (.c (.int .i64 a8)), .v (.c (.int .i64 a9)), .v (.c (.int .i64 a10)), .v (.c (.int .i64 a11)), .v (.c x12), .top, .top, .top, .top, .top, .top, .top, .top, .top, .top, .top, .top, .top, .top, .top, .top, .top, .top, .top, .top, .top, .top, .top, .top, .top, .top, .top, .top, .top, .top, .top, .top, .top, .top, .top, .top, .top, .top, .top, .top, .top, .top, .top, .top, .top, .top, .top, .top, .top, .top, .top, .top, .top, .top, .top, .top, .top, .top, .top, .top, .top, .top, .top, .top, .top, .top, .top, .top, .top, .top, .top, .top, .top, .top, .top, .top, .top, .top, .top, .top, .top, .top, .top, .top, .top, .top, .top, .top, .top, .top, .top, .top, .top, .top, .top, .top, .top, .top, .top, .top, .top, .top, .top, .top, .top, .top, .top, .top, .top, .top, .top, .top, .top, .top, .top, .top, .top, .top, .top, .top, .top, .top, .top, .top, .top, .top, .top, .top, .top, .top, .top, .top, .top, .top, .top, .top, .top, .top, .top, .top, .top, .top, .top, .top, .top, .top, .top, .top, .top, .top, .top, .top, .top, .top, .top, .top, .top, .top, .top, .top, .top, .top, .top, .top, .top, .top, .top, .top, .top, .top, .top], [some s0, some s1, none], h⟩
def jacquardlaw3_Small_x2_1 (x7 : Cell) (s0 : List Cell) (s1 : List Cell) (h : AHeap) : St := ⟨[.top, .top, .top, .top, .loc 0 0, .loc 1 0, .top, .v (.c x7), .top, .top, .top, .top, .top, .top, .top, .top, .top, .top, .top, .top, .top, .top, .top, .top, .top, .top, .top, .top, .top, .top, .top, .top, .top, .top, .top, .top, .top, .top, .top, .top, .top, .top, .top, .top, .top, .top, .top, .top, .top, .top, .top, .top, .top, .top, .top, .top, .top, .top, .top, .top, .top, .top, .top, .top, .top, .top, .top, .top, .top, .top, .top, .top, .top, .top, .top, .top, .top, .top, .top, .top, .top, .top, .top, .top, .top, .top, .top, .top, .top, .top, .top, .top, .top, .top, .top, .top, .top, .top, .top, .top, .top, .top, .top, .top, .top, .top, .top, .top, .top, .top, .top, .top, .top, .top, .top, .top, .top, .top, .top, .top, .top, .top, .top, .top, .top, .top, .top, .top, .top, .top, .top, .top, .top, .top, .top, .top, .top, .top, .top, .top, .top, .top, .top, .top, .top, .top, .top, .top, .top, .top, .top, .top, .top, .top, .top, .top, .top, .top, .top, .top, .top, .top, .top, .top, .top, .top, .top, .top, .top, .top, .top, .top, .top, .top, .top, .top, .top, .top, .top, .top, .top, .top, .top, .top], [some s0, some s1, none], h⟩
theorem jacquardlaw3_Small_ec4_n (C : CallF) (L : LoopF) (G : Glo) (a1 : Int) (x7 : Cell) (a8 : Int) (a9 : Int) (a10 : Int) (a11 : Int) (x12 : Cell) (a13 : Int) (a15 : Int) (a17 : Int) (a83 : Int) (b108 : Bool) (s0 : List Cell) (s1 : List Cell) (s2 : List Cell) (h : AHeap) :
    (jacquardlaw3_Small_k14 C L G) .normal (jacquardlaw3_Small_c4 a1 x7 a8 a9 a10 a11 x12 a13 a15 a17 a83 b108 s0 s1 s2 h) =
    if b108 = true then if (splice (splice (splice (List.replicate 9 (Cell.int .i64 0)) 0 ([(.int .i64 2)] : List Cell)) 1 ([(.int .i64 a17)] : List Cell)) 2 ([(.int .i64 a15)] : List Cell)).length = 9 ∧ 0 + 9 ≤ (List.replicate 9 (Cell.int .i64 0)).length then if (splice (List.replicate 9 (Cell.int .i64 0)) 0 (splice (splice (splice (List.replicate 9 (Cell.int .i64 0)) 0 ([(.int .i64 2)] : List Cell)) 1 ([(.int .i64 a17)] : List Cell)) 2 ([(.int .i64 a15)] : List Cell))).length = 1 * 9 then appK 9 72 x12 (splice (List.replicate 9 (Cell.int .i64 0)) 0 (splice (splice (splice (List.replicate 9 (Cell.int .i64 0)) 0 ([(.int .i64 2)] : List Cell)) 1 ([(.int .i64 a17)] : List Cell)) 2 ([(.int .i64 a15)] : List Cell))) h fun x_41 h_42 => some (.normal, (jacquardlaw3_Small_s1 a1 x7 a8 a9 (G.wrap .i64 (a10 + 1)) a11 x_41 (G.wrap .i64 (a13 - 1)) s0 s1 h_42)) else none else none else if (a83 == 8) = true then if (splice (List.replicate 9 (Cell.int .i64 0)) 0 ([(.int .i64 3)] : List Cell)).length = 9 ∧ 0 + 9 ≤ (List.replicate 9 (Cell.int .i64 0)).length then if (splice (List.replicate 9 (Cell.int .i64 0)) 0 (splice (List.replicate 9 (Cell.int .i64 0)) 0 ([(.int .i64 3)] : List Cell))).length = 1 * 9 then appK 9 72 x12 (splice (List.replicate 9 (Cell.int .i64 0)) 0 (splice (List.replicate 9 (Cell.int .i64 0)) 0 ([(.int .i64 3)] : List Cell))) h fun x_43 h_44 => some (.normal, (jacquardlaw3_Small_s1 a1 x7 a8 a9 a10 a11 x_43 (G.wrap .i64 (a13 - 1)) s0 s1 h_44)) else none else none else if (a83 == 9) = true then if 0 = 0 ∧ s2.length = 2 then if s2.length = 2 ∧ 3 + 2 ≤ (splice (splice (splice (List.replicate 9 (Cell.int .i64 0)) 0 ([(.int .i64 4)] : List Cell)) 1 ([(.int .i64 a17)] : List Cell)) 2 ([(.int .i64 a15)] : List Cell)).length then if (splice (splice [Cell.int .i64 0, Cell.int .i64 0] 0 ([(.int .i64 (-1))] : List Cell)) 1 ([(.int .i64 1)] : List Cell)).length = 2 ∧ 6 + 2 ≤ (splice (splice (splice (splice (List.replicate 9 (Cell.int .i64 0)) 0 ([(.int .i64 4)] : List Cell)) 1 ([(.int .i64 a17)] : List Cell)) 2 ([(.int .i64 a15)] : List Cell)) 3 s2).length then if (splice (splice (splice (splice (splice (List.replicate 9 (Cell.int .i64 0)) 0 ([(.int .i64 4)] : List Cell)) 1 ([(.int .i64 a17)] : List Cell)) 2 ([(.int .i64 a15)] : List Cell)) 3 s2) 6 (splice (splice [Cell.int .i64 0, Cell.int .i64 0] 0 ([(.int .i64 (-1))] : List Cell)) 1 ([(.int .i64 1)] : List Cell))).length = 9 ∧ 0 + 9 ≤ (List.replicate 9 (Cell.int .i64 0)).length then if (splice (List.replicate 9 (Cell.int .i64 0)) 0 (splice (splice (splice (splice (splice (List.replicate 9 (Cell.int .i64 0)) 0 ([(.int .i64 4)] : List Cell)) 1 ([(.int .i64 a17)] : List Cell)) 2 ([(.int .i64 a15)] : List Cell)) 3 s2) 6 (splice (splice [Cell.int .i64 0, Cell.int .i64 0] 0 ([(.int .i64 (-1))] : List Cell)) 1 ([(.int .i64 1)] : List Cell)))).length = 1 * 9 then appK 9 72 x12 (splice (List.replicate 9 (Cell.int .i64 0)) 0 (splice (splice (splice (splice (splice (List.replicate 9 (Cell.int .i64 0)) 0 ([(.int .i64 4)] : List Cell)) 1 ([(.int .i64 a17)] : List Cell)) 2 ([(.int .i64 a15)] : List Cell)) 3 s2) 6 (splice (splice [Cell.int .i64 0, Cell.int .i64 0] 0 ([(.int .i64 (-1))] : List Cell)) 1 ([(.int .i64 1)] : List Cell)))) h fun x_45 h_46 => some (.normal, (jacquardlaw3_Small_s1 a1 x7 a8 a9 (G.wrap .i64 (a10 + 1)) a11 x_45 (G.wrap .i64 (a13 - 1)) s0 s1 h_46)) else none else none else none else none else none else if (a83 == 10) = true then if 0 = 0 ∧ s2.length = 2 then if s2.length = 2 ∧ 3 + 2 ≤ (splice (splice (List.replicate 9 (Cell.int .i64 0)) 0 ([(.int .i64 5)] : List Cell)) 1 ([(.int .i64 a17)] : List Cell)).length then if ([(.int .i64 6)] : List Cell).length = 1 ∧ 5 + 1 ≤ (splice (splice (splice (List.replicate 9 (Cell.int .i64 0)) 0 ([(.int .i64 5)] : List Cell)) 1 ([(.int .i64 a17)] : List Cell)) 3 s2).length then if (splice (splice [Cell.int .i64 0, Cell.int .i64 0] 0 ([(.int .i64 (-1))] : List Cell)) 1 ([(.int .i64 1)] : List Cell)).length = 2 ∧ 6 + 2 ≤ (splice (splice (splice (splice (List.replicate 9 (Cell.int .i64 0)) 0 ([(.int .i64 5)] : List Cell)) 1 ([(.int .i64 a17)] : List Cell)) 3 s2) 5 ([(.int .i64 6)] : List Cell)).length then if (splice (splice (splice (splice (splice (List.replicate 9 (Cell.int .i64 0)) 0 ([(.int .i64 5)] : List Cell)) 1 ([(.int .i64 a17)] : List Cell)) 3 s2) 5 ([(.int .i64 6)] : List Cell)) 6 (splice (splice [Cell.int .i64 0, Cell.int .i64 0] 0 ([(.int .i64 (-1))] : List Cell)) 1 ([(.int .i64 1)] : List Cell))).length = 9 ∧ 0 + 9 ≤ (List.replicate 9 (Cell.int .i64 0)).length then if (splice (List.replicate 9 (Cell.int .i64 0)) 0 (splice (splice (splice (splice (splice (List.replicate 9 (Cell.int .i64 0)) 0 ([(.int .i64 5)] : List Cell)) 1 ([(.int .i64 a17)] : List Cell)) 3 s2) 5 ([(.int .i64 6)] : List Cell)) 6 (splice (splice [Cell.int .i64 0, Cell.int .i64 0] 0 ([(.int .i64 (-1))] : List Cell)) 1 ([(.int .i64 1)] : List Cell)))).length = 1 * 9 then appK 9 72 x12 (splice (List.replicate 9 (Cell.int .i64 0)) 0 (splice (splice (splice (splice (splice (List.replicate 9 (Cell.int .i64 0)) 0 ([(.int .i64 5)] : List Cell)) 1 ([(.int .i64 a17)] : List Cell)) 3 s2) 5 ([(.int .i64 6)] : List Cell)) 6 (splice (splice [Cell.int .i64 0, Cell.int .i64 0] 0 ([(.int .i64 (-1))] : List Cell)) 1 ([(.int .i64 1)] : List Cell)))) h fun x_47 h_48 => some (.normal, (jacquardlaw3_Small_s1 a1 x7 a8 a9 a10 a11 x_47 (G.wrap .i64 (a13 - 1)) s0 s1 h_48)) else none else none else none else none else none else none else if 0 = 0 ∧ s2.length = 2 then if s2.length = 2 ∧ 3 + 2 ≤ (splice (List.replicate 9 (Cell.int .i64 0)) 0 ([(.int .i64 6)] : List Cell)).length then if (splice [Cell.int .i64 0, Cell.int .i64 0] 0 ([(.int .i64 (-1))] : List Cell)).length = 2 ∧ 6 + 2 ≤ (splice (splice (List.replicate 9 (Cell.int .i64 0)) 0 ([(.int .i64 6)] : List Cell)) 3 s2).length then if ([(.int .i64 1)] : List Cell).length = 1 ∧ 8 + 1 ≤ (splice (splice (splice (List.replicate 9 (Cell.int .i64 0)) 0 ([(.int .i64 6)] : List Cell)) 3 s2) 6 (splice [Cell.int .i64 0, Cell.int .i64 0] 0 ([(.int .i64 (-1))] : List Cell))).length then if (splice (splice [Cell.int .i64 0, Cell.int .i64 0] 0 ([(.int .i64 (-1))] : List Cell)) 1 ([(.int .i64 2)] : List Cell)).length = 2 ∧ 3 + 2 ≤ (splice (splice (List.replicate 9 (Cell.int .i64 0)) 0 ([(.int .i64 1)] : List Cell)) 2 ([(.int .i64 a15)] : List Cell)).length then if (splice (splice (splice (splice (List.replicate 9 (Cell.int .i64 0)) 0 ([(.int .i64 6)] : List Cell)) 3 s2) 6 (splice [Cell.int .i64 0, Cell.int .i64 0] 0 ([(.int .i64 (-1))] : List Cell))) 8 ([(.int .i64 1)] : List Cell)).length = 9 ∧ 0 + 9 ≤ (List.replicate 18 (Cell.int .i64 0)).length then if (splice (splice (splice (List.replicate 9 (Cell.int .i64 0)) 0 ([(.int .i64 1)] : List Cell)) 2 ([(.int .i64 a15)] : List Cell)) 3 (splice (splice [Cell.int .i64 0, Cell.int .i64 0] 0 ([(.int .i64 (-1))] : List Cell)) 1 ([(.int .i64 2)] : List Cell))).length = 9 ∧ 9 + 9 ≤ (splice (List.replicate 18 (Cell.int .i64 0)) 0 (splice (splice (splice (splice (List.replicate 9 (Cell.int .i64 0)) 0 ([(.int .i64 6)] : List Cell)) 3 s2) 6 (splice [Cell.int .i64 0, Cell.int .i64 0] 0 ([(.int .i64 (-1))] : List Cell))) 8 ([(.int .i64 1)] : List Cell))).length then if (splice (splice (List.replicate 18 (Cell.int .i64 0)) 0 (splice (splice (splice (splice (List.replicate 9 (Cell.int .i64 0)) 0 ([(.int .i64 6)] : List Cell)) 3 s2) 6 (splice [Cell.int .i64 0, Cell.int .i64 0] 0 ([(.int .i64 (-1))] : List Cell))) 8 ([(.int .i64 1)] : List Cell))) 9 (splice (splice (splice (List.replicate 9 (Cell.int .i64 0)) 0 ([(.int .i64 1)] : List Cell)) 2 ([(.int .i64 a15)] : List Cell)) 3 (splice (splice [Cell.int .i64 0, Cell.int .i64 0] 0 ([(.int .i64 (-1))] : List Cell)) 1 ([(.int .i64 2)] : List Cell)))).length = 2 * 9 then appK 9 72 x12 (splice (splice (List.replicate 18 (Cell.int .i64 0)) 0 (splice (splice (splice (splice (List.replicate 9 (Cell.int .i64 0)) 0 ([(.int .i64 6)] : List Cell)) 3 s2) 6 (splice [Cell.int .i64 0, Cell.int .i64 0] 0 ([(.int .i64 (-1))] : List Cell))) 8 ([(.int .i64 1)] : List Cell))) 9 (splice (splice (splice (List.replicate 9 (Cell.int .i64 0)) 0 ([(.int .i64 1)] : List Cell)) 2 ([(.int .i64 a15)] : List Cell)) 3 (splice (splice [Cell.int .i64 0, Cell.int .i64 0] 0 ([(.int .i64 (-1))] : List Cell)) 1 ([(.int .i64 2)] : List Cell)))) h fun x_49 h_50 => some (.normal, (jacquardlaw3_Small_s1 a1 x7 a8 a9 (G.wrap .i64 (a10 + 1)) a11 x_49 (G.wrap .i64 (a13 - 1)) s0 s1 h_50)) else none else none else none else none else none else none else none else none := by kernel_rfl
theorem jacquardlaw3_Small_ec3_n (C : CallF) (L : LoopF) (G : Glo) (a1 : Int) (x7 : Cell) (a8 : Int) (a9 : Int) (a10 : Int) (a11 : Int) (x12 : Cell) (a13 : Int) (a15 : Int) (a17 : Int) (a83 : Int) (b95 : Bool) (s0 : List Cell) (s1 : List Cell) (s2 : List Cell) (h : AHeap) :
    (jacquardlaw3_Small_k13 C L G) .normal (jacquardlaw3_Small_c3 a1 x7 a8 a9 a10 a11 x12 a13 a15 a17 a83 b95 s0 s1 s2 h) =
    if b95 = true then if 0 = 0 ∧ s2.length = 2 then if s2.length = 2 ∧ 3 + 2 ≤ (splice (splice (List.replicate 9 (Cell.int .i64 0)) 0 ([(.int .i64 1)] : List Cell)) 2 ([(.int .i64 a15)] : List Cell)).length then if (splice (splice (splice (List.replicate 9 (Cell.int .i64 0)) 0 ([(.int .i64 1)] : List Cell)) 2 ([(.int .i64 a15)] : List Cell)) 3 s2).length = 9 ∧ 0 + 9 ≤ (List.replicate 9 (Cell.int .i64 0)).length then if (splice (List.replicate 9 (Cell.int .i64 0)) 0 (splice (splice (splice (List.replicate 9 (Cell.int .i64 0)) 0 ([(.int .i64 1)] : List Cell)) 2 ([(.int .i64 a15)] : List Cell)) 3 s2)).length = 1 * 9 then appK 9 72 x12 (splice (List.replicate 9 (Cell.int .i64 0)) 0 (splice (splice (splice (List.replicate 9 (Cell.int .i64 0)) 0 ([(.int .i64 1)] : List Cell)) 2 ([(.int .i64 a15)] : List Cell)) 3 s2)) h fun x_39 h_40 => some (.normal, (jacquardlaw3_Small_s1 a1 x7 a8 a9 (G.wrap .i64 (a10 + 1)) a11 x_39 (G.wrap .i64 (a13 - 1)) s0 s1 h_40)) else none else none else none else none else (if (a83 == 4) = true then some (.normal, (jacquardlaw3_Small_c4 a1 x7 a8 a9 a10 a11 x12 a13 a15 a17 a83 (a83 == 4) s0 s1 s2 h)) else if (a83 == 5) = true then some (.normal, (jacquardlaw3_Small_c4 a1 x7 a8 a9 a10 a11 x12 a13 a15 a17 a83 (a83 == 5) s0 s1 s2 h)) else if (a83 == 6) = true then some (.normal, (jacquardlaw3_Small_c4 a1 x7 a8 a9 a10 a11 x12 a13 a15 a17 a83 (a83 == 6) s0 s1 s2 h)) else some (.normal, (jacquardlaw3_Small_c4 a1 x7 a8 a9 a10 a11 x12 a13 a15 a17 a83 (a83 == 7) s0 s1 s2 h)) : Option (Ex × St)).bind fun p_51 => (jacquardlaw3_Small_k14 C L G) p_51.1 p_51.2 := by kernel_rfl
theorem jacquardlaw3_Small_ec2_n (C : CallF) (L : LoopF) (G : Glo) (a1 : Int) (x7 : Cell) (a8 : Int) (a9 : Int) (a10 : Int) (a11 : Int) (x12 : Cell) (a13 : Int) (a14 : Int) (a15 : Int) (s0 : List Cell) (s1 : List Cell) (s2 : List Cell) (h : AHeap) :
    (jacquardlaw3_Small_k11 C L G) .normal (jacquardlaw3_Small_c2 a1 x7 a8 a9 a10 a11 x12 a13 a14 a15 s0 s1 s2 h) =
    (if ((G.rem .i64 a14 12) == 0) = true then some (.normal, (jacquardlaw3_Small_c3 a1 x7 a8 a9 a10 a11 x12 a13 a15 (G.band .i64 (G.shr .i64 a14 11) 1) (G.rem .i64 a14 12) ((G.rem .i64 a14 12) == 0) s0 s1 s2 h)) else if ((G.rem .i64 a14 12) == 1) = true then some (.normal, (jacquardlaw3_Small_c3 a1 x7 a8 a9 a10 a11 x12 a13 a15 (G.band .i64 (G.shr .i64 a14 11) 1) (G.rem .i64 a14 12) ((G.rem .i64 a14 12) == 1) s0 s1 s2 h)) else if ((G.rem .i64 a14 12) == 2) = true then some (.normal, (jacquardlaw3_Small_c3 a1 x7 a8 a9 a10 a11 x12 a13 a15 (G.band .i64 (G.shr .i64 a14 11) 1) (G.rem .i64 a14 12) ((G.rem .i64 a14 12) == 2) s0 s1 s2 h)) else some (.normal, (jacquardlaw3_Small_c3 a1 x7 a8 a9 a10 a11 x12 a13 a15 (G.band .i64 (G.shr .i64 a14 11) 1) (G.rem .i64 a14 12) ((G.rem .i64 a14 12) == 3) s0 s1 s2 h)) : Option (Ex × St)).bind fun p_52 => (jacquardlaw3_Small_k13 C L G) p_52.1 p_52.2 := by kernel_rfl
theorem jacquardlaw3_Small_r1 (C : CallF) (L : LoopF) (G : Glo) (a1 : Int) (x7 : Cell) (a8 : Int) (a9 : Int) (a10 : Int) (a11 : Int) (x12 : Cell) (a13 : Int) (s0 : List Cell) (s1 : List Cell) (h : AHeap) :
    jacquardlaw3_Small_F1 C L G (jacquardlaw3_Small_s1 a1 x7 a8 a9 a10 a11 x12 a13 s0 s1 h) =
    scK (decide (a13 > 0)) true (some ((decide (a10 < a1)), h)) false h fun b_31 h_32 => if b_31 = true then fnK x7 fun g_33 l_34 => c1 (C g_33 ([] ++ l_34) h_32) fun y_36 h_35 => asI .i64 y_36 fun n_37 => if a9 = 0 then none else let v_38 : Int := (G.wrap .i64 (120 + (G.rem .i64 (G.shr .i64 n_37 4) a9))); if 0 = 0 ∧ [Cell.int .i64 0, Cell.int .i64 0].length = 2 ∧ (splice (splice [Cell.int .i64 0, Cell.int .i64 0] 0 ([(.int .i64 (-1))] : List Cell)) 1 ([(.int .i64 (G.rem .i64 (G.shr .i64 n_37 6) 3))] : List Cell)).length = 2 then (if ((G.rem .i64 (G.shr .i64 n_37 8) 3) == 0) = true then if 0 = 0 ∧ (splice (splice [Cell.int .i64 0, Cell.int .i64 0] 0 ([(.int .i64 (-1))] : List Cell)) 1 ([(.int .i64 (G.rem .i64 (G.shr .i64 n_37 6) 3))] : List Cell)).length = 2 ∧ (splice [Cell.int .i64 0, Cell.int .i64 0] 0 ([(.int .i64 (G.band .i64 (G.shr .i64 n_37 10) 1))] : List Cell)).length = 2 then some (.normal, (jacquardlaw3_Small_c2 a1 x7 a8 a9 a10 a11 x12 a13 n_37 v_38 s0 s1 (splice [Cell.int .i64 0, Cell.int .i64 0] 0 ([(.int .i64 (G.band .i64 (G.shr .i64 n_37 10) 1))] : List Cell)) h_35)) else none else some (.normal, (jacquardlaw3_Small_c2 a1 x7 a8 a9 a10 a11 x12 a13 n_37 v_38 s0 s1 (splice (splice [Cell.int .i64 0, Cell.int .i64 0] 0 ([(.int .i64 (-1))] : List Cell)) 1 ([(.int .i64 (G.rem .i64 (G.shr .i64 n_37 6) 3))] : List Cell)) h_35)) : Option (Ex × St)).bind fun p_53 => (jacquardlaw3_Small_k11 C L G) p_53.1 p_53.2 else none else some ((.exit 2), (jacquardlaw3_Small_x1_3 a1 x7 a8 a9 a10 a11 x12 s0 s1 h_32)) := by kernel_rfl
theorem jacquardlaw3_Small_e1_3 (C : CallF) (L : LoopF) (G : Glo) (a1 : Int) (x7 : Cell) (a8 : Int) (a9 : Int) (a10 : Int) (a11 : Int) (x12 : Cell) (s0 : List Cell) (s1 : List Cell) (h : AHeap) :
    (jacquardlaw3_Small_k8 C L G) (.exit 2) (jacquardlaw3_Small_x1_3 a1 x7 a8 a9 a10 a11 x12 s0 s1 h) =
    atK s1 2 fun q_54 => if (splice [Cell.nils] 0 ([x12] : List Cell)).length = 1 * 1 then appK 1 24 q_54 (splice [Cell.nils] 0 ([x12] : List Cell)) h fun x_55 h_56 => if 2 < s1.length then some (.normal, (jacquardlaw3_Small_s2 a1 x7 a8 a9 a10 (G.wrap .i64 (a11 + 1)) s0 (s1.set 2 x_55) h_56)) else none else none := by kernel_rfl
theorem jacquardlaw3_Small_r2 (C : CallF) (L : LoopF) (G : Glo) (a1 : Int) (x7 : Cell) (a8 : Int) (a9 : Int) (a10 : Int) (a11 : Int) (s0 : List Cell) (s1 : List Cell) (h : AHeap) :
    jacquardlaw3_Small_F2 C L G (jacquardlaw3_Small_s2 a1 x7 a8 a9 a10 a11 s0 s1 h) =
    if (decide (a11 < a8)) = true then fnK x7 fun g_26 l_27 => c1 (C g_26 ([] ++ l_27) h) fun y_29 h_28 => asI .i64 y_29 fun n_30 => (L (jacquardlaw3_Small_F1 C L G) (jacquardlaw3_Small_s1 a1 x7 a8 a9 a10 a11 .nils (G.wrap .i64 ((G.rem .i64 n_30 3) + 1)) s0 s1 h_28)).bind fun p_57 => (jacquardlaw3_Small_k8 C L G) p_57.1 p_57.2 else some ((.exit 0), (jacquardlaw3_Small_x2_1 x7 s0 s1 h)) := by kernel_rfl
theorem jacquardlaw3_Small_e2_1 (C : CallF) (L : LoopF) (G : Glo) (h0 : AHeap) (x7 : Cell) (s0 : List Cell) (s1 : List Cell) (h : AHeap) :
    (jacquardlaw3_Small_k4 C L G h0) (.exit 0) (jacquardlaw3_Small_x2_1 x7 s0 s1 h) =
    fnK x7 fun g_58 l_59 => c1 (C g_58 ([] ++ l_59) h) fun y_61 h_60 => asI .i64 y_61 fun n_62 => if ((G.rem .i64 n_62 3) == 0) = true then let v_63 : Int := (G.wrap .i64 ((G.rem .i64 (G.quo .i64 n_62 3) 2) + 1)); if (splice (splice (splice [Cell.int .i64 0, Cell.int .i64 0, Cell.int .i64 0, Cell.int .i64 0] 0 ([(.int .i64 0)] : List Cell)) 1 ([(.int .i64 (G.band .i64 (G.shr .i64 n_62 3) 1))] : List Cell)) 3 ([(.int .i64 (G.band .i64 (G.shr .i64 n_62 4) 1))] : List Cell)).length = 4 ∧ 0 + 4 ≤ [Cell.int .i64 0, Cell.int .i64 0, Cell.int .i64 0, Cell.int .i64 0].length then if (splice [Cell.int .i64 0, Cell.int .i64 0, Cell.int .i64 0, Cell.int .i64 0] 0 (splice (splice (splice [Cell.int .i64 0, Cell.int .i64 0, Cell.int .i64 0, Cell.int .i64 0] 0 ([(.int .i64 0)] : List Cell)) 1 ([(.int .i64 (G.band .i64 (G.shr .i64 n_62 3) 1))] : List Cell)) 3 ([(.int .i64 (G.band .i64 (G.shr .i64 n_62 4) 1))] : List Cell))).length = 1 * 4 then if (splice (splice (splice [Cell.int .i64 0, Cell.int .i64 0, Cell.int .i64 0, Cell.int .i64 0] 0 ([(.int .i64 (-1))] : List Cell)) 2 ([(.int .i64 120)] : List Cell)) 3 ([(.int .i64 (G.rem .i64 (G.shr .i64 n_62 5) 3))] : List Cell)).length = 4 ∧ 0 + 4 ≤ (List.replicate 8 (Cell.int .i64 0)).length then if (splice (splice (splice [Cell.int .i64 0, Cell.int .i64 0, Cell.int .i64 0, Cell.int .i64 0] 0 ([(.int .i64 1)] : List Cell)) 1 ([(.int .i64 0)] : List Cell)) 3 ([(.int .i64 (G.band .i64 (G.shr .i64 n_62 7) 1))] : List Cell)).length = 4 ∧ 4 + 4 ≤ (splice (List.replicate 8 (Cell.int .i64 0)) 0 (splice (splice (splice [Cell.int .i64 0, Cell.int .i64 0, Cell.int .i64 0, Cell.int .i64 0] 0 ([(.int .i64 (-1))] : List Cell)) 2 ([(.int .i64 120)] : List Cell)) 3 ([(.int .i64 (G.rem .i64 (G.shr .i64 n_62 5) 3))] : List Cell))).length then if (splice (splice (List.replicate 8 (Cell.int .i64 0)) 0 (splice (splice (splice [Cell.int .i64 0, Cell.int .i64 0, Cell.int .i64 0, Cell.int .i64 0] 0 ([(.int .i64 (-1))] : List Cell)) 2 ([(.int .i64 120)] : List Cell)) 3 ([(.int .i64 (G.rem .i64 (G.shr .i64 n_62 5) 3))] : List Cell))) 4 (splice (splice (splice [Cell.int .i64 0, Cell.int .i64 0, Cell.int .i64 0, Cell.int .i64 0] 0 ([(.int .i64 1)] : List Cell)) 1 ([(.int .i64 0)] : List Cell)) 3 ([(.int .i64 (G.band .i64 (G.shr .i64 n_62 7) 1))] : List Cell))).length = 2 * 4 then if (splice (splice [Cell.nils, Cell.nils] 0 ([(.sl h_60.length ((splice [Cell.int .i64 0, Cell.int .i64 0, Cell.int .i64 0, Cell.int .i64 0] 0 (splice (splice (splice [Cell.int .i64 0, Cell.int .i64 0, Cell.int .i64 0, Cell.int .i64 0] 0 ([(.int .i64 0)] : List Cell)) 1 ([(.int .i64 (G.band .i64 (G.shr .i64 n_62 3) 1))] : List Cell)) 3 ([(.int .i64 (G.band .i64 (G.shr .i64 n_62 4) 1))] : List Cell))).length) 0 1)] : List Cell)) 1 ([(.sl ((h_60 ++ [some (Blk.mk true 4 (splice [Cell.int .i64 0, Cell.int .i64 0, Cell.int .i64 0, Cell.int .i64 0] 0 (splice (splice (splice [Cell.int .i64 0, Cell.int .i64 0, Cell.int .i64 0, Cell.int .i64 0] 0 ([(.int .i64 0)] : List Cell)) 1 ([(.int .i64 (G.band .i64 (G.shr .i64 n_62 3) 1))] : List Cell)) 3 ([(.int .i64 (G.band .i64 (G.shr .i64 n_62 4) 1))] : List Cell))))]).length) ((splice (splice (List.replicate 8 (Cell.int .i64 0)) 0 (splice (splice (splice [Cell.int .i64 0, Cell.int .i64 0, Cell.int .i64 0, Cell.int .i64 0] 0 ([(.int .i64 (-1))] : List Cell)) 2 ([(.int .i64 120)] : List Cell)) 3 ([(.int .i64 (G.rem .i64 (G.shr .i64 n_62 5) 3))] : List Cell))) 4 (splice (splice (splice [Cell.int .i64 0, Cell.int .i64 0, Cell.int .i64 0, Cell.int .i64 0] 0 ([(.int .i64 1)] : List Cell)) 1 ([(.int .i64 0)] : List Cell)) 3 ([(.int .i64 (G.band .i64 (G.shr .i64 n_62 7) 1))] : List Cell))).length) 0 2)] : List Cell)).length = 2 * 1 then if 3 + 2 ≤ s1.length ∧ (splice (splice [Cell.int .i64 0, Cell.nils] 0 ([(.int .i64 v_63)] : List Cell)) 1 ([(.sl (((h_60 ++ [some (Blk.mk true 4 (splice [Cell.int .i64 0, Cell.int .i64 0, Cell.int .i64 0, Cell.int .i64 0] 0 (splice (splice (splice [Cell.int .i64 0, Cell.int .i64 0, Cell.int .i64 0, Cell.int .i64 0] 0 ([(.int .i64 0)] : List Cell)) 1 ([(.int .i64 (G.band .i64 (G.shr .i64 n_62 3) 1))] : List Cell)) 3 ([(.int .i64 (G.band .i64 (G.shr .i64 n_62 4) 1))] : List Cell))))]) ++ [some (Blk.mk true 4 (splice (splice (List.replicate 8 (Cell.int .i64 0)) 0 (splice (splice (splice [Cell.int .i64 0, Cell.int .i64 0, Cell.int .i64 0, Cell.int .i64 0] 0 ([(.int .i64 (-1))] : List Cell)) 2 ([(.int .i64 120)] : List Cell)) 3 ([(.int .i64 (G.rem .i64 (G.shr .i64 n_62 5) 3))] : List Cell))) 4 (splice (splice (splice [Cell.int .i64 0, Cell.int .i64 0, Cell.int .i64 0, Cell.int .i64 0] 0 ([(.int .i64 1)] : List Cell)) 1 ([(.int .i64 0)] : List Cell)) 3 ([(.int .i64 (G.band .i64 (G.shr .i64 n_62 7) 1))] : List Cell))))]).length) ((splice (splice [Cell.nils, Cell.nils] 0 ([(.sl h_60.length ((splice [Cell.int .i64 0, Cell.int .i64 0, Cell.int .i64 0, Cell.int .i64 0] 0 (splice (splice (splice [Cell.int .i64 0, Cell.int .i64 0, Cell.int .i64 0, Cell.int .i64 0] 0 ([(.int .i64 0)] : List Cell)) 1 ([(.int .i64 (G.band .i64 (G.shr .i64 n_62 3) 1))] : List Cell)) 3 ([(.int .i64 (G.band .i64 (G.shr .i64 n_62 4) 1))] : List Cell))).length) 0 1)] : List Cell)) 1 ([(.sl ((h_60 ++ [some (Blk.mk true 4 (splice [Cell.int .i64 0, Cell.int .i64 0, Cell.int .i64 0, Cell.int .i64 0] 0 (splice (splice (splice [Cell.int .i64 0, Cell.int .i64 0, Cell.int .i64 0, Cell.int .i64 0] 0 ([(.int .i64 0)] : List Cell)) 1 ([(.int .i64 (G.band .i64 (G.shr .i64 n_62 3) 1))] : List Cell)) 3 ([(.int .i64 (G.band .i64 (G.shr .i64 n_62 4) 1))] : List Cell))))]).length) ((splice (splice (List.replicate 8 (Cell.int .i64 0)) 0 (splice (splice (splice [Cell.int .i64 0, Cell.int .i64 0, Cell.int .i64 0, Cell.int .i64 0] 0 ([(.int .i64 (-1))] : List Cell)) 2 ([(.int .i64 120)] : List Cell)) 3 ([(.int .i64 (G.rem .i64 (G.shr .i64 n_62 5) 3))] : List Cell))) 4 (splice (splice (splice [Cell.int .i64 0, Cell.int .i64 0, Cell.int .i64 0, Cell.int .i64 0] 0 ([(.int .i64 1)] : List Cell)) 1 ([(.int .i64 0)] : List Cell)) 3 ([(.int .i64 (G.band .i64 (G.shr .i64 n_62 7) 1))] : List Cell))).length) 0 2)] : List Cell)).length) 0 2)] : List Cell)).length = 2 then if 0 = 0 ∧ (splice s1 3 (splice (splice [Cell.int .i64 0, Cell.nils] 0 ([(.int .i64 v_63)] : List Cell)) 1 ([(.sl (((h_60 ++ [some (Blk.mk true 4 (splice [Cell.int .i64 0, Cell.int .i64 0, Cell.int .i64 0, Cell.int .i64 0] 0 (splice (splice (splice [Cell.int .i64 0, Cell.int .i64 0, Cell.int .i64 0, Cell.int .i64 0] 0 ([(.int .i64 0)] : List Cell)) 1 ([(.int .i64 (G.band .i64 (G.shr .i64 n_62 3) 1))] : List Cell)) 3 ([(.int .i64 (G.band .i64 (G.shr .i64 n_62 4) 1))] : List Cell))))]) ++ [some (Blk.mk true 4 (splice (splice (List.replicate 8 (Cell.int .i64 0)) 0 (splice (splice (splice [Cell.int .i64 0, Cell.int .i64 0, Cell.int .i64 0, Cell.int .i64 0] 0 ([(.int .i64 (-1))] : List Cell)) 2 ([(.int .i64 120)] : List Cell)) 3 ([(.int .i64 (G.rem .i64 (G.shr .i64 n_62 5) 3))] : List Cell))) 4 (splice (splice (splice [Cell.int .i64 0, Cell.int .i64 0, Cell.int .i64 0, Cell.int .i64 0] 0 ([(.int .i64 1)] : List Cell)) 1 ([(.int .i64 0)] : List Cell)) 3 ([(.int .i64 (G.band .i64 (G.shr .i64 n_62 7) 1))] : List Cell))))]).length) ((splice (splice [Cell.nils, Cell.nils] 0 ([(.sl h_60.length ((splice [Cell.int .i64 0, Cell.int .i64 0, Cell.int .i64 0, Cell.int .i64 0] 0 (splice (splice (splice [Cell.int .i64 0, Cell.int .i64 0, Cell.int .i64 0, Cell.int .i64 0] 0 ([(.int .i64 0)] : List Cell)) 1 ([(.int .i64 (G.band .i64 (G.shr .i64 n_62 3) 1))] : List Cell)) 3 ([(.int .i64 (G.band .i64 (G.shr .i64 n_62 4) 1))] : List Cell))).length) 0 1)] : List Cell)) 1 ([(.sl ((h_60 ++ [some (Blk.mk true 4 (splice [Cell.int .i64 0, Cell.int .i64 0, Cell.int .i64 0, Cell.int .i64 0] 0 (splice (splice (splice [Cell.int .i64 0, Cell.int .i64 0, Cell.int .i64 0, Cell.int .i64 0] 0 ([(.int .i64 0)] : List Cell)) 1 ([(.int .i64 (G.band .i64 (G.shr .i64 n_62 3) 1))] : List Cell)) 3 ([(.int .i64 (G.band .i64 (G.shr .i64 n_62 4) 1))] : List Cell))))]).length) ((splice (splice (List.replicate 8 (Cell.int .i64 0)) 0 (splice (splice (splice [Cell.int .i64 0, Cell.int .i64 0, Cell.int .i64 0, Cell.int .i64 0] 0 ([(.int .i64 (-1))] : List Cell)) 2 ([(.int .i64 120)] : List Cell)) 3 ([(.int .i64 (G.rem .i64 (G.shr .i64 n_62 5) 3))] : List Cell))) 4 (splice (splice (splice [Cell.int .i64 0, Cell.int .i64 0, Cell.int .i64 0, Cell.int .i64 0] 0 ([(.int .i64 1)] : List Cell)) 1 ([(.int .i64 0)] : List Cell)) 3 ([(.int .i64 (G.band .i64 (G.shr .i64 n_62 7) 1))] : List Cell))).length) 0 2)] : List Cell)).length) 0 2)] : List Cell))).length = 5 then if 0 = 0 ∧ s0.length = 5 ∧ (splice s1 3 (splice (splice [Cell.int .i64 0, Cell.nils] 0 ([(.int .i64 v_63)] : List Cell)) 1 ([(.sl (((h_60 ++ [some (Blk.mk true 4 (splice [Cell.int .i64 0, Cell.int .i64 0, Cell.int .i64 0, Cell.int .i64 0] 0 (splice (splice (splice [Cell.int .i64 0, Cell.int .i64 0, Cell.int .i64 0, Cell.int .i64 0] 0 ([(.int .i64 0)] : List Cell)) 1 ([(.int .i64 (G.band .i64 (G.shr .i64 n_62 3) 1))] : List Cell)) 3 ([(.int .i64 (G.band .i64 (G.shr .i64 n_62 4) 1))] : List Cell))))]) ++ [some (Blk.mk true 4 (splice (splice (List.replicate 8 (Cell.int .i64 0)) 0 (splice (splice (splice [Cell.int .i64 0, Cell.int .i64 0, Cell.int .i64 0, Cell.int .i64 0] 0 ([(.int .i64 (-1))] : List Cell)) 2 ([(.int .i64 120)] : List Cell)) 3 ([(.int .i64 (G.rem .i64 (G.shr .i64 n_62 5) 3))] : List Cell))) 4 (splice (splice (splice [Cell.int .i64 0, Cell.int .i64 0, Cell.int .i64 0, Cell.int .i64 0] 0 ([(.int .i64 1)] : List Cell)) 1 ([(.int .i64 0)] : List Cell)) 3 ([(.int .i64 (G.band .i64 (G.shr .i64 n_62 7) 1))] : List Cell))))]).length) ((splice (splice [Cell.nils, Cell.nils] 0 ([(.sl h_60.length ((splice [Cell.int .i64 0, Cell.int .i64 0, Cell.int .i64 0, Cell.int .i64 0] 0 (splice (splice (splice [Cell.int .i64 0, Cell.int .i64 0, Cell.int .i64 0, Cell.int .i64 0] 0 ([(.int .i64 0)] : List Cell)) 1 ([(.int .i64 (G.band .i64 (G.shr .i64 n_62 3) 1))] : List Cell)) 3 ([(.int .i64 (G.band .i64 (G.shr .i64 n_62 4) 1))] : List Cell))).length) 0 1)] : List Cell)) 1 ([(.sl ((h_60 ++ [some (Blk.mk true 4 (splice [Cell.int .i64 0, Cell.int .i64 0, Cell.int .i64 0, Cell.int .i64 0] 0 (splice (splice (splice [Cell.int .i64 0, Cell.int .i64 0, Cell.int .i64 0, Cell.int .i64 0] 0 ([(.int .i64 0)] : List Cell)) 1 ([(.int .i64 (G.band .i64 (G.shr .i64 n_62 3) 1))] : List Cell)) 3 ([(.int .i64 (G.band .i64 (G.shr .i64 n_62 4) 1))] : List Cell))))]).length) ((splice (splice (List.replicate 8 (Cell.int .i64 0)) 0 (splice (splice (splice [Cell.int .i64 0, Cell.int .i64 0, Cell.int .i64 0, Cell.int .i64 0] 0 ([(.int .i64 (-1))] : List Cell)) 2 ([(.int .i64 120)] : List Cell)) 3 ([(.int .i64 (G.rem .i64 (G.shr .i64 n_62 5) 3))] : List Cell))) 4 (splice (splice (splice [Cell.int .i64 0, Cell.int .i64 0, Cell.int .i64 0, Cell.int .i64 0] 0 ([(.int .i64 1)] : List Cell)) 1 ([(.int .i64 0)] : List Cell)) 3 ([(.int .i64 (G.band .i64 (G.shr .i64 n_62 7) 1))] : List Cell))).length) 0 2)] : List Cell)).length) 0 2)] : List Cell))).length = 5 then if 0 = 0 ∧ (splice s1 3 (splice (splice [Cell.int .i64 0, Cell.nils] 0 ([(.int .i64 v_63)] : List Cell)) 1 ([(.sl (((h_60 ++ [some (Blk.mk true 4 (splice [Cell.int .i64 0, Cell.int .i64 0, Cell.int .i64 0, Cell.int .i64 0] 0 (splice (splice (splice [Cell.int .i64 0, Cell.int .i64 0, Cell.int .i64 0, Cell.int .i64 0] 0 ([(.int .i64 0)] : List Cell)) 1 ([(.int .i64 (G.band .i64 (G.shr .i64 n_62 3) 1))] : List Cell)) 3 ([(.int .i64 (G.band .i64 (G.shr .i64 n_62 4) 1))] : List Cell))))]) ++ [some (Blk.mk true 4 (splice (splice (List.replicate 8 (Cell.int .i64 0)) 0 (splice (splice (splice [Cell.int .i64 0, Cell.int .i64 0, Cell.int .i64 0, Cell.int .i64 0] 0 ([(.int .i64 (-1))] : List Cell)) 2 ([(.int .i64 120)] : List Cell)) 3 ([(.int .i64 (G.rem .i64 (G.shr .i64 n_62 5) 3))] : List Cell))) 4 (splice (splice (splice [Cell.int .i64 0, Cell.int .i64 0, Cell.int .i64 0, Cell.int .i64 0] 0 ([(.int .i64 1)] : List Cell)) 1 ([(.int .i64 0)] : List Cell)) 3 ([(.int .i64 (G.band .i64 (G.shr .i64 n_62 7) 1))] : List Cell))))]).length) ((splice (splice [Cell.nils, Cell.nils] 0 ([(.sl h_60.length ((splice [Cell.int .i64 0, Cell.int .i64 0, Cell.int .i64 0, Cell.int .i64 0] 0 (splice (splice (splice [Cell.int .i64 0, Cell.int .i64 0, Cell.int .i64 0, Cell.int .i64 0] 0 ([(.int .i64 0)] : List Cell)) 1 ([(.int .i64 (G.band .i64 (G.shr .i64 n_62 3) 1))] : List Cell)) 3 ([(.int .i64 (G.band .i64 (G.shr .i64 n_62 4) 1))] : List Cell))).length) 0 1)] : List Cell)) 1 ([(.sl ((h_60 ++ [some (Blk.mk true 4 (splice [Cell.int .i64 0, Cell.int .i64 0, Cell.int .i64 0, Cell.int .i64 0] 0 (splice (splice (splice [Cell.int .i64 0, Cell.int .i64 0, Cell.int .i64 0, Cell.int .i64 0] 0 ([(.int .i64 0)] : List Cell)) 1 ([(.int .i64 (G.band .i64 (G.shr .i64 n_62 3) 1))] : List Cell)) 3 ([(.int .i64 (G.band .i64 (G.shr .i64 n_62 4) 1))] : List Cell))))]).length) ((splice (splice (List.replicate 8 (Cell.int .i64 0)) 0 (splice (splice (splice [Cell.int .i64 0, Cell.int .i64 0, Cell.int .i64 0, Cell.int .i64 0] 0 ([(.int .i64 (-1))] : List Cell)) 2 ([(.int .i64 120)] : List Cell)) 3 ([(.int .i64 (G.rem .i64 (G.shr .i64 n_62 5) 3))] : List Cell))) 4 (splice (splice (splice [Cell.int .i64 0, Cell.int .i64 0, Cell.int .i64 0, Cell.int .i64 0] 0 ([(.int .i64 1)] : List Cell)) 1 ([(.int .i64 0)] : List Cell)) 3 ([(.int .i64 (G.band .i64 (G.shr .i64 n_62 7) 1))] : List Cell))).length) 0 2)] : List Cell)).length) 0 2)] : List Cell))).length = 5 then some ([(.agg (splice s1 3 (splice (splice [Cell.int .i64 0, Cell.nils] 0 ([(.int .i64 v_63)] : List Cell)) 1 ([(.sl (((h_60 ++ [some (Blk.mk true 4 (splice [Cell.int .i64 0, Cell.int .i64 0, Cell.int .i64 0, Cell.int .i64 0] 0 (splice (splice (splice [Cell.int .i64 0, Cell.int .i64 0, Cell.int .i64 0, Cell.int .i64 0] 0 ([(.int .i64 0)] : List Cell)) 1 ([(.int .i64 (G.band .i64 (G.shr .i64 n_62 3) 1))] : List Cell)) 3 ([(.int .i64 (G.band .i64 (G.shr .i64 n_62 4) 1))] : List Cell))))]) ++ [some (Blk.mk true 4 (splice (splice (List.replicate 8 (Cell.int .i64 0)) 0 (splice (splice (splice [Cell.int .i64 0, Cell.int .i64 0, Cell.int .i64 0, Cell.int .i64 0] 0 ([(.int .i64 (-1))] : List Cell)) 2 ([(.int .i64 120)] : List Cell)) 3 ([(.int .i64 (G.rem .i64 (G.shr .i64 n_62 5) 3))] : List Cell))) 4 (splice (splice (splice [Cell.int .i64 0, Cell.int .i64 0, Cell.int .i64 0, Cell.int .i64 0] 0 ([(.int .i64 1)] : List Cell)) 1 ([(.int .i64 0)] : List Cell)) 3 ([(.int .i64 (G.band .i64 (G.shr .i64 n_62 7) 1))] : List Cell))))]).length) ((splice (splice [Cell.nils, Cell.nils] 0 ([(.sl h_60.length ((splice [Cell.int .i64 0, Cell.int .i64 0, Cell.int .i64 0, Cell.int .i64 0] 0 (splice (splice (splice [Cell.int .i64 0, Cell.int .i64 0, Cell.int .i64 0, Cell.int .i64 0] 0 ([(.int .i64 0)] : List Cell)) 1 ([(.int .i64 (G.band .i64 (G.shr .i64 n_62 3) 1))] : List Cell)) 3 ([(.int .i64 (G.band .i64 (G.shr .i64 n_62 4) 1))] : List Cell))).length) 0 1)] : List Cell)) 1 ([(.sl ((h_60 ++ [some (Blk.mk true 4 (splice [Cell.int .i64 0, Cell.int .i64 0, Cell.int .i64 0, Cell.int .i64 0] 0 (splice (splice (splice [Cell.int .i64 0, Cell.int .i64 0, Cell.int .i64 0, Cell.int .i64 0] 0 ([(.int .i64 0)] : List Cell)) 1 ([(.int .i64 (G.band .i64 (G.shr .i64 n_62 3) 1))] : List Cell)) 3 ([(.int .i64 (G.band .i64 (G.shr .i64 n_62 4) 1))] : List Cell))))]).length) ((splice (splice (List.replicate 8 (Cell.int .i64 0)) 0 (splice (splice (splice [Cell.int .i64 0, Cell.int .i64 0, Cell.int .i64 0, Cell.int .i64 0] 0 ([(.int .i64 (-1))] : List Cell)) 2 ([(.int .i64 120)] : List Cell)) 3 ([(.int .i64 (G.rem .i64 (G.shr .i64 n_62 5) 3))] : List Cell))) 4 (splice (splice (splice [Cell.int .i64 0, Cell.int .i64 0, Cell.int .i64 0, Cell.int .i64 0] 0 ([(.int .i64 1)] : List Cell)) 1 ([(.int .i64 0)] : List Cell)) 3 ([(.int .i64 (G.band .i64 (G.shr .i64 n_62 7) 1))] : List Cell))).length) 0 2)] : List Cell)).length) 0 2)] : List Cell))))], (((h_60 ++ [some (Blk.mk true 4 (splice [Cell.int .i64 0, Cell.int .i64 0, Cell.int .i64 0, Cell.int .i64 0] 0 (splice (splice (splice [Cell.int .i64 0, Cell.int .i64 0, Cell.int .i64 0, Cell.int .i64 0] 0 ([(.int .i64 0)] : List Cell)) 1 ([(.int .i64 (G.band .i64 (G.shr .i64 n_62 3) 1))] : List Cell)) 3 ([(.int .i64 (G.band .i64 (G.shr .i64 n_62 4) 1))] : List Cell))))]) ++ [some (Blk.mk true 4 (splice (splice (List.replicate 8 (Cell.int .i64 0)) 0 (splice (splice (splice [Cell.int .i64 0, Cell.int .i64 0, Cell.int .i64 0, Cell.int .i64 0] 0 ([(.int .i64 (-1))] : List Cell)) 2 ([(.int .i64 120)] : List Cell)) 3 ([(.int .i64 (G.rem .i64 (G.shr .i64 n_62 5) 3))] : List Cell))) 4 (splice (splice (splice [Cell.int .i64 0, Cell.int .i64 0, Cell.int .i64 0, Cell.int .i64 0] 0 ([(.int .i64 1)] : List Cell)) 1 ([(.int .i64 0)] : List Cell)) 3 ([(.int .i64 (G.band .i64 (G.shr .i64 n_62 7) 1))] : List Cell))))]) ++ [some (Blk.mk true 1 (splice (splice [Cell.nils, Cell.nils] 0 ([(.sl h_60.length ((splice [Cell.int .i64 0, Cell.int .i64 0, Cell.int .i64 0, Cell.int .i64 0] 0 (splice (splice (splice [Cell.int .i64 0, Cell.int .i64 0, Cell.int .i64 0, Cell.int .i64 0] 0 ([(.int .i64 0)] : List Cell)) 1 ([(.int .i64 (G.band .i64 (G.shr .i64 n_62 3) 1))] : List Cell)) 3 ([(.int .i64 (G.band .i64 (G.shr .i64 n_62 4) 1))] : List Cell))).length) 0 1)] : List Cell)) 1 ([(.sl ((h_60 ++ [some (Blk.mk true 4 (splice [Cell.int .i64 0, Cell.int .i64 0, Cell.int .i64 0, Cell.int .i64 0] 0 (splice (splice (splice [Cell.int .i64 0, Cell.int .i64 0, Cell.int .i64 0, Cell.int .i64 0] 0 ([(.int .i64 0)] : List Cell)) 1 ([(.int .i64 (G.band .i64 (G.shr .i64 n_62 3) 1))] : List Cell)) 3 ([(.int .i64 (G.band .i64 (G.shr .i64 n_62 4) 1))] : List Cell))))]).length) ((splice (splice (List.replicate 8 (Cell.int .i64 0)) 0 (splice (splice (splice [Cell.int .i64 0, Cell.int .i64 0, Cell.int .i64 0, Cell.int .i64 0] 0 ([(.int .i64 (-1))] : List Cell)) 2 ([(.int .i64 120)] : List Cell)) 3 ([(.int .i64 (G.rem .i64 (G.shr .i64 n_62 5) 3))] : List Cell))) 4 (splice (splice (splice [Cell.int .i64 0, Cell.int .i64 0, Cell.int .i64 0, Cell.int .i64 0] 0 ([(.int .i64 1)] : List Cell)) 1 ([(.int .i64 0)] : List Cell)) 3 ([(.int .i64 (G.band .i64 (G.shr .i64 n_62 7) 1))] : List Cell))).length) 0 2)] : List Cell)))])) else none else none else none else none else none else none else none else none else none else none else if 0 = 0 ∧ s1.length = 5 then if 0 = 0 ∧ s0.length = 5 ∧ s1.length = 5 then if 0 = 0 ∧ s1.length = 5 then some ([(.agg s1)], h_60) else none else none else none := by kernel_rfl
theorem jacquardlaw3_Small_ec1_n (C : CallF) (L : LoopF) (G : Glo) (h0 : AHeap) (a1 : Int) (x7 : Cell) (a8 : Int) (a9 : Int) (s0 : List Cell) (s1 : List Cell) (h : AHeap) :
    (jacquardlaw3_Small_k2 C L G h0) .normal (jacquardlaw3_Small_c1 a1 x7 a8 a9 s0 s1 h) =
    (L (jacquardlaw3_Small_F2 C L G) (jacquardlaw3_Small_s2 a1 x7 a8 a9 0 0 s0 s1 h)).bind fun p_64 => (jacquardlaw3_Small_k4 C L G h0) p_64.1 p_64.2 := by kernel_rfl
set_option maxRecDepth 100000 in
theorem jacquardlaw3_Small_eq (C : CallF) (L : LoopF) (G : Glo) (x0 : Cell) (a1 : Int) (h0 : AHeap) :
    jacquardlaw3_Small.body C L G [(.c x0), (.c (.int .i64 a1))] h0 =
    if 0 = 0 ∧ [Cell.str (ByteArray.mk #[]), Cell.nils, Cell.nils, Cell.int .i64 0, Cell.nils].length = 5 ∧ (splice [Cell.str (ByteArray.mk #[]), Cell.nils, Cell.nils, Cell.int .i64 0, Cell.nils] 0 ([(.str (ByteArray.mk #[116]))] : List Cell)).length = 5 then rdH ((h0 ++ [some (Blk.mk true 0 (AV.cells (.c x0)))]) ++ [some (Blk.mk true 0 ([Cell.int .i64 0]))]) ((h0 ++ [some (Blk.mk true 0 (AV.cells (.c x0)))]).length) (([Cell.int .i64 0]).length) fun l_1 => if 0 < l_1.length then putH ((h0 ++ [some (Blk.mk true 0 (AV.cells (.c x0)))]) ++ [some (Blk.mk true 0 ([Cell.int .i64 0]))]) ((h0 ++ [some (Blk.mk true 0 (AV.cells (.c x0)))]).length) (l_1.set 0 (.int .i64 0)) fun h_2 => fnK (.fn 115 [((h0 ++ [some (Blk.mk true 0 (AV.cells (.c x0)))]).length, ([Cell.int .i64 0]).length, 0), (h0.length, (AV.cells (.c x0)).length, 0)]) fun g_3 l_4 => c1 (C g_3 ([] ++ l_4) h_2) fun y_6 h_5 => asI .i64 y_6 fun n_7 => fnK (.fn 115 [((h0 ++ [some (Blk.mk true 0 (AV.cells (.c x0)))]).length, ([Cell.int .i64 0]).length, 0), (h0.length, (AV.cells (.c x0)).length, 0)]) fun g_8 l_9 => c1 (C g_8 ([] ++ l_9) h_5) fun y_11 h_10 => asI .i64 y_11 fun n_12 => (fnK (.fn 115 [((h0 ++ [some (Blk.mk true 0 (AV.cells (.c x0)))]).length, ([Cell.int .i64 0]).length, 0), (h0.length, (AV.cells (.c x0)).length, 0)]) fun g_13 l_14 => c1 (C g_13 ([] ++ l_14) h_10) fun y_16 h_15 => asI .i64 y_16 fun n_17 => if ((G.rem .i64 n_17 4) == 0) = true then atK (splice [Cell.str (ByteArray.mk #[]), Cell.nils, Cell.nils, Cell.int .i64 0, Cell.nils] 0 ([(.str (ByteArray.mk #[116]))] : List Cell)) 1 fun q_18 => fnK (.fn 115 [((h0 ++ [some (Blk.mk true 0 (AV.cells (.c x0)))]).length, ([Cell.int .i64 0]).length, 0), (h0.length, (AV.cells (.c x0)).length, 0)]) fun g_19 l_20 => c1 (C g_19 ([] ++ l_20) h_15) fun y_22 h_21 => asI .i64 y_22 fun n_23 => if (splice (splice [Cell.int .i64 0, Cell.int .i64 0] 0 ([(.int .i64 120)] : List Cell)) 1 ([(.int .i64 (G.rem .i64 n_23 3))] : List Cell)).length = 2 ∧ 0 + 2 ≤ [Cell.int .i64 0, Cell.int .i64 0].length then if (splice [Cell.int .i64 0, Cell.int .i64 0] 0 (splice (splice [Cell.int .i64 0, Cell.int .i64 0] 0 ([(.int .i64 120)] : List Cell)) 1 ([(.int .i64 (G.rem .i64 n_23 3))] : List Cell))).length = 1 * 2 then appK 2 16 q_18 (splice [Cell.int .i64 0, Cell.int .i64 0] 0 (splice (splice [Cell.int .i64 0, Cell.int .i64 0] 0 ([(.int .i64 120)] : List Cell)) 1 ([(.int .i64 (G.rem .i64 n_23 3))] : List Cell))) h_21 fun x_24 h_25 => if 1 < (splice [Cell.str (ByteArray.mk #[]), Cell.nils, Cell.nils, Cell.int .i64 0, Cell.nils] 0 ([(.str (ByteArray.mk #[116]))] : List Cell)).length then some (.normal, (jacquardlaw3_Small_c1 a1 (.fn 115 [((h0 ++ [some (Blk.mk true 0 (AV.cells (.c x0)))]).length, ([Cell.int .i64 0]).length, 0), (h0.length, (AV.cells (.c x0)).length, 0)]) (G.wrap .i64 ((G.rem .i64 n_7 2) + 2)) (G.wrap .i64 ((G.rem .i64 n_12 2) + 2)) [Cell.str (ByteArray.mk #[]), Cell.nils, Cell.nils, Cell.int .i64 0, Cell.nils] ((splice [Cell.str (ByteArray.mk #[]), Cell.nils, Cell.nils, Cell.int .i64 0, Cell.nils] 0 ([(.str (ByteArray.mk #[116]))] : List Cell)).set 1 x_24) h_25)) else none else none else none else some (.normal, (jacquardlaw3_Small_c1 a1 (.fn 115 [((h0 ++ [some (Blk.mk true 0 (AV.cells (.c x0)))]).length, ([Cell.int .i64 0]).length, 0), (h0.length, (AV.cells (.c x0)).length, 0)]) (G.wrap .i64 ((G.rem .i64 n_7 2) + 2)) (G.wrap .i64 ((G.rem .i64 n_12 2) + 2)) [Cell.str (ByteArray.mk #[]), Cell.nils, Cell.nils, Cell.int .i64 0, Cell.nils] (splice [Cell.str (ByteArray.mk #[]), Cell.nils, Cell.nils, Cell.int .i64 0, Cell.nils] 0 ([(.str (ByteArray.mk #[116]))] : List Cell)) h_15)) : Option (Ex × St)).bind fun p_65 => (jacquardlaw3_Small_k2 C L G h0) p_65.1 p_65.2 else none else none := by kernel_rfl

/- jacquard/jacquardlaw3.Small$1: 115 -/
set_option maxRecDepth 100000 in
theorem jacquardlaw3_Small_1_eq (C : CallF) (L : LoopF) (G : Glo) (k0 : Nat) (N0 : Nat) (o0 : Nat) (k1 : Nat) (N1 : Nat) (o1 : Nat) (h0 : AHeap) :
    jacquardlaw3_Small_1.body C L G [(.c (.ptr k0 N0 o0)), (.c (.ptr k1 N1 o1))] h0 =
    rdH h0 k0 N0 fun l_1 => atK l_1 o0 fun q_2 => asI .i64 (.c q_2) fun n_3 => rdH h0 k0 N0 fun l_4 => if o0 < l_4.length then putH h0 k0 (l_4.set o0 (.int .i64 (G.wrap .i64 (n_3 + 1)))) fun h_5 => rdH h_5 k0 N0 fun l_6 => atK l_6 o0 fun q_7 => asI .i64 (.c q_7) fun n_8 => rdH h_5 k1 N1 fun l_9 => atK l_9 o1 fun q_10 => lenK q_10 fun n_11 => if (decide (n_8 > n_11)) = true then some ([(.c (.int .i64 0))], h_5) else rdH h_5 k1 N1 fun l_12 => atK l_12 o1 fun q_13 => rdH h_5 k0 N0 fun l_14 => atK l_14 o0 fun q_15 => asI .i64 (.c q_15) fun n_16 => idxSK 1 q_13 (G.wrap .i64 (n_16 - 1)) fun k_17 N_18 o_19 => rdH h_5 k_17 N_18 fun l_20 => atK l_20 o_19 fun q_21 => asI .i64 (.c q_21) fun n_22 => some ([(.c (.int .i64 (G.band .i64 n_22 65535)))], h_5) else none := by kernel_rfl


end Jq

