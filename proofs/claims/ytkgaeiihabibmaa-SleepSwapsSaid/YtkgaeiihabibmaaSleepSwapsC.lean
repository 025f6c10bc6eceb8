/- YtkgaeiihabibmaaSleepSwapsC: a part of the proof; no conditions of its own. -/
import Derived.KernelRfl
import Derived.Test.YtkgaeiihabibmaaSleepSwapsB
set_option linter.unusedVariables false
set_option linter.unusedSimpArgs false

namespace Jq
open Go

/- jacquard/jacquardlaw3.Small: 97 -/
def jacquardlaw3_Small_k2 (C : CallF) (L : LoopF) (G : Glo) (h0 : AHeap) : Ex → St → Option (List AV × AHeap) :=
  kSeq (fun st => jacquardlaw3_Small_p1.exec C L G st (jacquardlaw3_Small.fin G h0)) (jacquardlaw3_Small.fin G h0)
def jacquardlaw3_Small_c1 (a1 : Int) (x7 : Cell) (a8 : Int) (a9 : Int) (s0 : List Cell) (s1 : List Cell) (h : AHeap) : St := ⟨[.top, .v (.c (.int .i64 a1)), .top, .top, .loc 0 0, .loc 1 0, .top, .v (.c x7), .v (.c (.int .i64 a8)), .v (.c (.int .i64 a9)), .top, .top, .top, .top, .top, .top, .top, .top, .top, .top, .top, .top, .top, .top, .top, .top, .top, .top, .top, .top, .top, .top, .top, .top, .top, .top, .top, .top, .top, .top, .top, .top, .top, .top, .top, .top, .top, .top, .top, .top, .top, .top, .top, .top, .top, .top, .top, .top, .top, .top, .top, .top, .top, .top, .top, .top, .top, .top, .top, .top, .top, .top, .top, .top, .top, .top, .top, .top, .top, .top, .top, .top, .top, .top, .top, .top, .top, .top, .top, .top, .top, .top, .top, .top, .top, .top, .top, .top, .top, .top, .top, .top, .top, .top, .top, .top, .top, .top, .top, .top, .top, .top, .top, .top, .top, .top, .top, .top, .top, .top, .top, .top, .top, .top, .top, .top, .top, .top, .top, .top, .top, .top, .top, .top, .top, .top, .top, .top, .top, .top, .top, .top, .top, .top, .top, .top, .top, .top, .top, .top, .top, .top, .top, .top, .top, .top, .top, .top, .top, .top, .top, .top, .top, .top, .top, .top, .top, .top, .top, .top, .top, .top, .top, .top, .top, .top, .top, .top, .top, .top, .top, .top, .top, .top], [some s0, some s1, none], h⟩
def jacquardlaw3_Small_k3 (C : CallF) (L : LoopF) (G : Glo) (h0 : AHeap) : Ex → St → Option (List AV × AHeap) :=
  kSeq (fun st => jacquardlaw3_Small_p2.exec C L G st (jacquardlaw3_Small.fin G h0)) (jacquardlaw3_Small.fin G h0)
def jacquardlaw3_Small_k4 (C : CallF) (L : LoopF) (G : Glo) (h0 : AHeap) : Ex → St → Option (List AV × AHeap) :=
  kBlk 0 (jacquardlaw3_Small_k3 C L G h0)
def jacquardlaw3_Small_s2 (a1 : Int) (x7 : Cell) (a8 : Int) (a9 : Int) (a10 : Int) (a11 : Int) (s0 : List Cell) (s1 : List Cell) (h : AHeap) : St := ⟨[.top, .v (.c (.int .i64 a1)), .top, .top, .loc 0 0, .loc 1 0, .top, .v (.c x7), .v (.c (.int .i64 a8)), .v (.c (.int .i64 a9)), .v (.c (.int .i64 a10)), .v (.c (.int .i64 a11)), .top, .top, .top, .top, .top, .top, .top, .top, .top, .top, .top, .top, .top, .top, .top, .top, .top, .top, .top, .top, .top, .top, .top, .top, .top, .top, .top, .top, .top, .top, .top, .top, .top, .top, .top, .top, .top, .top, .top, .top, .top, .top, .top, .top, .top, .top, .top, .top, .top, .top, .top, .top, .top, .top, .top, .top, .top, .top, .top, .top, .top, .top, .top, .top, .top, .top, .top, .top, .top, .top, .top, .top, .top, .top, .top, .top, .top, .top, .top, .top, .top, .top, .top, .top, .top, .top, .top, .top, .top, .top, .top, .top, .top, .top, .top, .top, .top, .top, .top, .top, .top, .top, .top, .top, .top, .top, .top, .top, .top, .top, .top, .top, .top, .top, .top, .top, .top, .top, .top, .top, .top, .top, .top, .top, .top, .top, .top, .top, .top, .top, .top, .top, .top, .top, .top, .top, .top, .top, .top, .top, .top, .top, .top, .top, .top, .top, .top, .top, .top, .top, .top, .top, .top, .top, .top, .top, .top, .top, .top, .top, .top, .top, .top, .top, .top, .top, .top, .top, .top, .top, .top, .top], [some s0, some s1, none], h⟩
def jacquardlaw3_Small_F2 (C : CallF) (L : LoopF) (G : Glo) : St → Option (Ex × St) :=
  roundF (fun st f => jacquardlaw3_Small_b2.exec C L G st f) [1, 4, 5, 7, 8, 9, 10, 11] [0, 1] [(1, [4, 5, 7], [0, 1])]
def jacquardlaw3_Small_k5 (C : CallF) (L : LoopF) (G : Glo) : Ex → St → Option (Ex × St) :=
  kSeq (fun st => jacquardlaw3_Small_p3.exec C L G st (kLoop [1, 4, 5, 7, 8, 9, 10, 11] [0, 1] [(1, [4, 5, 7], [0, 1])])) (kLoop [1, 4, 5, 7, 8, 9, 10, 11] [0, 1] [(1, [4, 5, 7], [0, 1])])
def jacquardlaw3_Small_k6 (C : CallF) (L : LoopF) (G : Glo) : Ex → St → Option (Ex × St) :=
  kBlk 1 (jacquardlaw3_Small_k5 C L G)
def jacquardlaw3_Small_k7 (C : CallF) (L : LoopF) (G : Glo) : Ex → St → Option (Ex × St) :=
  kSeq (fun st => jacquardlaw3_Small_p4.exec C L G st (jacquardlaw3_Small_k6 C L G)) (jacquardlaw3_Small_k6 C L G)
def jacquardlaw3_Small_k8 (C : CallF) (L : LoopF) (G : Glo) : Ex → St → Option (Ex × St) :=
  kBlk 2 (jacquardlaw3_Small_k7 C L G)
def jacquardlaw3_Small_s1 (a1 : Int) (x7 : Cell) (a8 : Int) (a9 : Int) (a10 : Int) (a11 : Int) (x12 : Cell) (a13 : Int) (s0 : List Cell) (s1 : List Cell) (h : AHeap) : St := ⟨[.top, .v (.c (.int .i64 a1)), .top, .top, .loc 0 0, .loc 1 0, .top, .v (.c x7), .v (.c (.int .i64 a8)), .v (.c (.int .i64 a9)), .v (.c (.int .i64 a10)), .v (.c (.int .i64 a11)), .v (.c x12), .v (.c (.int .i64 a13)), .top, .top, .top, .top, .top, .top, .top, .top, .top, .top, .top, .top, .top, .top, .top, .top, .top, .top, .top, .top, .top, .top, .top, .top, .top, .top, .top, .top, .top, .top, .top, .top, .top, .top, .top, .top, .top, .top, .top, .top, .top, .top, .top, .top, .top, .top, .top, .top, .top, .top, .top, .top, .top, .top, .top, .top, .top, .top, .top, .top, .top, .top, .top, .top, .top, .top, .top, .top, .top, .top, .top, .top, .top, .top, .top, .top, .top, .top, .top, .top, .top, .top, .top, .top, .top, .top, .top, .top, .top, .top, .top, .top, .top, .top, .top, .top, .top, .top, .top, .top, .top, .top, .top, .top, .top, .top, .top, .top, .top, .top, .top, .top, .top, .top, .top, .top, .top, .top, .top, .top, .top, .top, .top, .top, .top, .top, .top, .top, .top, .top, .top, .top, .top, .top, .top, .top, .top, .top, .top, .top, .top, .top, .top, .top, .top, .top, .top, .top, .top, .top, .top, .top, .top, .top, .top, .top, .top, .top, .top, .top, .top, .top, .top, .top, .top, .top, .top, .top, .top, .top], [some s0, some s1, none], h⟩
def jacquardlaw3_Small_F1 (C : CallF) (L : LoopF) (G : Glo) : St → Option (Ex × St) :=
  roundF (fun st f => jacquardlaw3_Small_b1.exec C L G st f) [1, 4, 5, 7, 8, 9, 10, 11, 12, 13] [0, 1] [(3, [1, 4, 5, 7, 8, 9, 10, 11, 12], [0, 1])]
def jacquardlaw3_Small_k9 (C : CallF) (L : LoopF) (G : Glo) : Ex → St → Option (Ex × St) :=
  kSeq (fun st => jacquardlaw3_Small_p5.exec C L G st (kLoop [1, 4, 5, 7, 8, 9, 10, 11, 12, 13] [0, 1] [(3, [1, 4, 5, 7, 8, 9, 10, 11, 12], [0, 1])])) (kLoop [1, 4, 5, 7, 8, 9, 10, 11, 12, 13] [0, 1] [(3, [1, 4, 5, 7, 8, 9, 10, 11, 12], [0, 1])])
def jacquardlaw3_Small_k10 (C : CallF) (L : LoopF) (G : Glo) : Ex → St → Option (Ex × St) :=
  kBlk 3 (jacquardlaw3_Small_k9 C L G)
def jacquardlaw3_Small_k11 (C : CallF) (L : LoopF) (G : Glo) : Ex → St → Option (Ex × St) :=
  kSeq (fun st => jacquardlaw3_Small_p6.exec C L G st (jacquardlaw3_Small_k10 C L G)) (jacquardlaw3_Small_k10 C L G)
def jacquardlaw3_Small_c2 (a1 : Int) (x7 : Cell) (a8 : Int) (a9 : Int) (a10 : Int) (a11 : Int) (x12 : Cell) (a13 : Int) (a14 : Int) (a15 : Int) (s0 : List Cell) (s1 : List Cell) (s2 : List Cell) (h : AHeap) : St := ⟨[.top, .v (.c (.int .i64 a1)), .top, .top, .loc 0 0, .loc 1 0, .top, .v (.c x7), .v (.c (.int .i64 a8)), .v (.c (.int .i64 a9)), .v (.c (.int .i64 a10)), .v (.c (.int .i64 a11)), .v (.c x12), .v (.c (.int .i64 a13)), .v (.c (.int .i64 a14)), .v (.c (.int .i64 a15)), .loc 2 0, .top, .top, .top, .top, .top, .top, .top, .top, .top, .top, .top, .top, .top, .top, .top, .top, .top, .top, .top, .top, .top, .top, .top, .top, .top, .top, .top, .top, .top, .top, .top, .top, .top, .top, .top, .top, .top, .top, .top, .top, .top, .top, .top, .top, .top, .top, .top, .top, .top, .top, .top, .top, .top, .top, .top, .top, .top, .top, .top, .top, .top, .top, .top, .top, .top, .top, .top, .top, .top, .top, .top, .top, .top, .top, .top, .top, .top, .top, .top, .top, .top, .top, .top, .top, .top, .top, .top, .top, .top, .top, .top, .top, .top, .top, .top, .top, .top, .top, .top, .top, .top, .top, .top, .top, .top, .top, .top, .top, .top, .top, .top, .top, .top, .top, .top, .top, .top, .top, .top, .top, .top, .top, .top, .top, .top, .top, .top, .top, .top, .top, .top, .top, .top, .top, .top, .top, .top, .top, .top, .top, .top, .top, .top, .top, .top, .top, .top, .top, .top, .top, .top, .top, .top, .top, .top, .top, .top, .top, .top, .top, .top, .top, .top, .top, .top, .top, .top], [some s0, some s1, some s2], h⟩
def jacquardlaw3_Small_k12 (C : CallF) (L : LoopF) (G : Glo) : Ex → St → Option (Ex × St) :=
  kBlk 4 (jacquardlaw3_Small_k10 C L G)
def jacquardlaw3_Small_k13 (C : CallF) (L : LoopF) (G : Glo) : Ex → St → Option (Ex × St) :=
  kSeq (fun st => jacquardlaw3_Small_p7.exec C L G st (jacquardlaw3_Small_k12 C L G)) (jacquardlaw3_Small_k12 C L G)
def jacquardlaw3_Small_c3 (a1 : Int) (x7 : Cell) (a8 : Int) (a9 : Int) (a10 : Int) (a11 : Int) (x12 : Cell) (a13 : Int) (a15 : Int) (a17 : Int) (a83 : Int) (b95 : Bool) (s0 : List Cell) (s1 : List Cell) (s2 : List Cell) (h : AHeap) : St := ⟨[.top, .v (.c (.int .i64 a1)), .top, .top, .loc 0 0, .loc 1 0, .top, .v (.c x7), .v (.c (.int .i64 a8)), .v (.c (.int .i64 a9)), .v (.c (.int .i64 a10)), .v (.c (.int .i64 a11)), .v (.c x12), .v (.c (.int .i64 a13)), .top, .v (.c (.int .i64 a15)), .loc 2 0, .v (.c (.int .i64 a17)), .top, .top, .top, .top, .top, .top, .top, .top, .top, .top, .top, .top, .top, .top, .top, .top, .top, .top, .top, .top, .top, .top, .top, .top, .top, .top, .top, .top, .top, .top, .top, .top, .top, .top, .top, .top, .top, .top, .top, .top, .top, .top, .top, .top, .top, .top, .top, .top, .top, .top, .top, .top, .top, .top, .top, .top, .top, .top, .top, .top, .top, .top, .top, .top, .top, .v (.c (.int .i64 a83)), .top, .top, .top, .top, .top, .top, .top, .top, .top, .top, .top, .v (.c (.bool b95)), .top, .top, .top, .top, .top, .top, .top, .top, .top, .top, .top, .top, .top, .top, .top, .top, .top, .top, .top, .top, .top, .top, .top, .top, .top, .top, .top, .top, .top, .top, .top, .top, .top, .top, .top, .top, .top, .top, .top, .top, .top, .top, .top, .top, .top, .top, .top, .top, .top, .top, .top, .top, .top, .top, .top, .top, .top, .top, .top, .top, .top, .top, .top, .top, .top, .top, .top, .top, .top, .top, .top, .top, .top, .top, .top, .top, .top, .top, .top, .top, .top, .top, .top, .top, .top, .top, .top, .top], [some s0, some s1, some s2], h⟩
def jacquardlaw3_Small_k14 (C : CallF) (L : LoopF) (G : Glo) : Ex → St → Option (Ex × St) :=
  kSeq (fun st => jacquardlaw3_Small_p8.exec C L G st (jacquardlaw3_Small_k12 C L G)) (jacquardlaw3_Small_k12 C L G)
def jacquardlaw3_Small_c4 (a1 : Int) (x7 : Cell) (a8 : Int) (a9 : Int) (a10 : Int) (a11 : Int) (x12 : Cell) (a13 : Int) (a15 : Int) (a17 : Int) (a83 : Int) (b108 : Bool) (s0 : List Cell) (s1 : List Cell) (s2 : List Cell) (h : AHeap) : St := ⟨[.top, .v (.c (.int .i64 a1)), .top, .top, .loc 0 0, .loc 1 0, .top, .v (.c x7), .v (.c (.int .i64 a8)), .v (.c (.int .i64 a9)), .v (.c (.int .i64 a10)), .v (.c (.int .i64 a11)), .v (.c x12), .v (.c (.int .i64 a13)), .top, .v (.c (.int .i64 a15)), .loc 2 0, .v (.c (.int .i64 a17)), .top, .top, .top, .top, .top, .top, .top, .top, .top, .top, .top, .top, .top, .top, .top, .top, .top, .top, .top, .top, .top, .top, .top, .top, .top, .top, .top, .top, .top, .top, .top, .top, .top, .top, .top, .top, .top, .top, .top, .top, .top, .top, .top, .top, .top, .top, .top, .top, .top, .top, .top, .top, .top, .top, .top, .top, .top, .top, .top, .top, .top, .top, .top, .top, .top, .v (.c (.int .i64 a83)), .top, .top, .top, .top, .top, .top, .top, .top, .top, .top, .top, .top, .top, .top, .top, .top, .top, .top, .top, .top, .top, .top, .top, .top, .v (.c (.bool b108)), .top, .top, .top, .top, .top, .top, .top, .top, .top, .top, .top, .top, .top, .top, .top, .top, .top, .top, .top, .top, .top, .top, .top, .top, .top, .top, .top, .top, .top, .top, .top, .top, .top, .top, .top, .top, .top, .top, .top, .top, .top, .top, .top, .top, .top, .top, .top, .top, .top, .top, .top, .top, .top, .top, .top, .top, .top, .top, .top, .top, .top, .top, .top, .top, .top, .top, .top, .top, .top, .top, .top, .top, .top, .top, .top], [some s0, some s1, some s2], h⟩
def jacquardlaw3_Small_x1_3 (a1 : Int) (x7 : Cell) (a8 : Int) (a9 : Int) (a10 : Int) (a11 : Int) (x12 : Cell) (s0 : List Cell) (s1 : List Cell) (h : AHeap) : St := ⟨[.top, .v (.c (.int .i64 a1)), .top, .top, .loc 0 0, .loc 1 0, .top, .v (.c x7), .v (.c (.int .i64 a8)), .v (.c (.int .i64 a9)), .v (.c (.int .i64 a10)), .v (.c (.int .i64 a11)), .v (.c x12), .top, .top, .top, .top, .top, .top, .top, .top, .top, .top, .top, .top, .top, .top, .top, .top, .top, .top, .top, .top, .top, .top, .top, .top, .top, .top, .top, .top, .top, .top, .top, .top, .top, .top, .top, .top, .top, .top, .top, .top, .top, .top, .top, .top, .top, .top, .top, .top, .top, .top, .top, .top, .top, .top, .top, .top, .top, .top, .top, .top, .top, .top, .top, .top, .top, .top, .top, .top, .top, .top, .top, .top, .top, .top, .top, .top, .top, .top, .top, .top, .top, .top, .top, .top, .top, .top, .top, .top, .top, .top, .top, .top, .top, .top, .top, .top, .top, .top, .top, .top, .top, .top, .top, .top, .top, .top, .top, .top, .top, .top, .top, .top, .top, .top, .top, .top, .top, .top, .top, .top, .top, .top, .top, .top, .top, .top, .top, .top, .top, .top, .top, .top, .top, .top, .top, .top, .top, .top, .top, .top, .top, .top, .top, .top, .top, .top, .top, .top, .top, .top, .top, .top, .top, .top, .top, .top, .top, .top, .top, .top, .top, .top, .top, .top, .top, .top, .top, .top, .top, .top, .top], [some s0, some s1, none], h⟩
def jacquardlaw3_Small_x2_1 (x7 : Cell) (s0 : List Cell) (s1 : List Cell) (h : AHeap) : St := ⟨[.top, .top, .top, .top, .loc 0 0, .loc 1 0, .top, .v (.c x7), .top, .top, .top, .top, .top, .top, .top, .top, .top, .top, .top, .top, .top, .top, .top, .top, .top, .top, .top, .top, .top, .top, .top, .top, .top, .top, .top, .top, .top, .top, .top, .top, .top, .top, .top, .top, .top, .top, .top, .top, .top, .top, .top, .top, .top, .top, .top, .top, .top, .top, .top, .top, .top, .top, .top, .top, .top, .top, .top, .top, .top, .top, .top, .top, .top, .top, .top, .top, .top, .top, .top, .top, .top, .top, .top, .top, .top, .top, .top, .top, .top, .top, .top, .top, .top, .top, .top, .top, .top, .top, .top, .top, .top, .top, .top, .top, .top, .top, .top, .top, .top, .top, .top, .top, .top, .top, .top, .top, .top, .top, .top, .top, .top, .top, .top, .top, .top, .top, .top, .top, .top, .top, .top, .top, .top, .top, .top, .top, .top, .top, .top, .top, .top, .top, .top, .top, .top, .top, .top, .top, .top, .top, .top, .top, .top, .top, .top, .top, .top, .top, .top, .top, .top, .top, .top, .top, .top, .top, .top, .top, .top, .top, .top, .top, .top, .top, .top, .top, .top, .top, .top, .top, .top, .top, .top, .top], [some s0, some s1, none], h⟩
theorem jacquardlaw3_Small_ec4_n (C : CallF) (L : LoopF) (G : Glo) (a1 : Int) (x7 : Cell) (a8 : Int) (a9 : Int) (a10 : Int) (a11 : Int) (x12 : Cell) (a13 : Int) (a15 : Int) (a17 : Int) (a83 : Int) (b108 : Bool) (s0 : List Cell) (s1 : List Cell) (s2 : List Cell) (h : AHeap) :
    (jacquardlaw3_Small_k14 C L G) .normal (jacquardlaw3_Small_c4 a1 x7 a8 a9 a10 a11 x12 a13 a15 a17 a83 b108 s0 s1 s2 h) =
    if b108 = true then if (splice (splice (splice (List.replicate 9 (Cell.int .i64 0)) 0 ([(.int .i64 2)] : List Cell)) 1 ([(.int .i64 a17)] : List Cell)) 2 ([(.int .i64 a15)] : List Cell)).length = 9 ∧ 0 + 9 ≤ (List.replicate 9 (Cell.int .i64 0)).length then if (splice (List.replicate 9 (Cell.int .i64 0)) 0 (splice (splice (splice (List.replicate 9 (Cell.int .i64 0)) 0 ([(.int .i64 2)] : List Cell)) 1 ([(.int .i64 a17)] : List Cell)) 2 ([(.int .i64 a15)] : List Cell))).length = 1 * 9 then appK 9 72 x12 (splice (List.replicate 9 (Cell.int .i64 0)) 0 (splice (splice (splice (List.replicate 9 (Cell.int .i64 0)) 0 ([(.int .i64 2)] : List Cell)) 1 ([(.int .i64 a17)] : List Cell)) 2 ([(.int .i64 a15)] : List Cell))) h fun x_41 h_42 => some (.normal, (jacquardlaw3_Small_s1 a1 x7 a8 a9 (G.wrap .i64 (a10 + 1)) a11 x_41 (G.wrap .i64 (a13 - 1)) s0 s1 h_42)) else none else none else if (a83 == 8) = true then if (splice (List.replicate 9 (Cell.int .i64 0)) 0 ([(.int .i64 3)] : List Cell)).length = 9 ∧ 0 + 9 ≤ (List.replicate 9 (Cell.int .i64 0)).length then if (splice (List.replicate 9 (Cell.int .i64 0)) 0 (splice (List.replicate 9 (Cell.int .i64 0)) 0 ([(.int .i64 3)] : List Cell))).length = 1 * 9 then appK 9 72 x12 (splice (List.replicate 9 (Cell.int .i64 0)) 0 (splice (List.replicate 9 (Cell.int .i64 0)) 0 ([(.int .i64 3)] : List Cell))) h fun x_43 h_44 => some (.normal, (jacquardlaw3_Small_s1 a1 x7 a8 a9 a10 a11 x_43 (G.wrap .i64 (a13 - 1)) s0 s1 h_44)) else none else none else if (a83 == 9) = true then if 0 = 0 ∧ s2.length = 2 then if s2.length = 2 ∧ 3 + 2 ≤ (splice (splice (splice (List.replicate 9 (Cell.int .i64 0)) 0 ([(.int .i64 4)] : List Cell)) 1 ([(.int .i64 a17)] : List Cell)) 2 ([(.int .i64 a15)] : List Cell)).length then if (splice (splice [Cell.int .i64 0, Cell.int .i64 0] 0 ([(.int .i64 (-1))] : List Cell)) 1 ([(.int .i64 1)] : List Cell)).length = 2 ∧ 6 + 2 ≤ (splice (splice (splice (splice (List.replicate 9 (Cell.int .i64 0)) 0 ([(.int .i64 4)] : List Cell)) 1 ([(.int .i64 a17)] : List Cell)) 2 ([(.int .i64 a15)] : List Cell)) 3 s2).length then if (splice (splice (splice (splice (splice (List.replicate 9 (Cell.int .i64 0)) 0 ([(.int .i64 4)] : List Cell)) 1 ([(.int .i64 a17)] : List Cell)) 2 ([(.int .i64 a15)] : List Cell)) 3 s2) 6 (splice (splice [Cell.int .i64 0, Cell.int .i64 0] 0 ([(.int .i64 (-1))] : List Cell)) 1 ([(.int .i64 1)] : List Cell))).length = 9 ∧ 0 + 9 ≤ (List.replicate 9 (Cell.int .i64 0)).length then if (splice (List.replicate 9 (Cell.int .i64 0)) 0 (splice (splice (splice (splice (splice (List.replicate 9 (Cell.int .i64 0)) 0 ([(.int .i64 4)] : List Cell)) 1 ([(.int .i64 a17)] : List Cell)) 2 ([(.int .i64 a15)] : List Cell)) 3 s2) 6 (splice (splice [Cell.int .i64 0, Cell.int .i64 0] 0 ([(.int .i64 (-1))] : List Cell)) 1 ([(.int .i64 1)] : List Cell)))).length = 1 * 9 then appK 9 72 x12 (splice (List.replicate 9 (Cell.int .i64 0)) 0 (splice (splice (splice (splice (splice (List.replicate 9 (Cell.int .i64 0)) 0 ([(.int .i64 4)] : List Cell)) 1 ([(.int .i64 a17)] : List Cell)) 2 ([(.int .i64 a15)] : List Cell)) 3 s2) 6 (splice (splice [Cell.int .i64 0, Cell.int .i64 0] 0 ([(.int .i64 (-1))] : List Cell)) 1 ([(.int .i64 1)] : List Cell)))) h fun x_45 h_46 => some (.normal, (jacquardlaw3_Small_s1 a1 x7 a8 a9 (G.wrap .i64 (a10 + 1)) a11 x_45 (G.wrap .i64 (a13 - 1)) s0 s1 h_46)) else none else none else none else none else none else if (a83 == 10) = true then if 0 = 0 ∧ s2.length = 2 then if s2.length = 2 ∧ 3 + 2 ≤ (splice (splice (List.replicate 9 (Cell.int .i64 0)) 0 ([(.int .i64 5)] : List Cell)) 1 ([(.int .i64 a17)] : List Cell)).length then if ([(.int .i64 6)] : List Cell).length = 1 ∧ 5 + 1 ≤ (splice (splice (splice (List.replicate 9 (Cell.int .i64 0)) 0 ([(.int .i64 5)] : List Cell)) 1 ([(.int .i64 a17)] : List Cell)) 3 s2).length then if (splice (splice [Cell.int .i64 0, Cell.int .i64 0] 0 ([(.int .i64 (-1))] : List Cell)) 1 ([(.int .i64 1)] : List Cell)).length = 2 ∧ 6 + 2 ≤ (splice (splice (splice (splice (List.replicate 9 (Cell.int .i64 0)) 0 ([(.int .i64 5)] : List Cell)) 1 ([(.int .i64 a17)] : List Cell)) 3 s2) 5 ([(.int .i64 6)] : List Cell)).length then if (splice (splice (splice (splice (splice (List.replicate 9 (Cell.int .i64 0)) 0 ([(.int .i64 5)] : List Cell)) 1 ([(.int .i64 a17)] : List Cell)) 3 s2) 5 ([(.int .i64 6)] : List Cell)) 6 (splice (splice [Cell.int .i64 0, Cell.int .i64 0] 0 ([(.int .i64 (-1))] : List Cell)) 1 ([(.int .i64 1)] : List Cell))).length = 9 ∧ 0 + 9 ≤ (List.replicate 9 (Cell.int .i64 0)).length then if (splice (List.replicate 9 (Cell.int .i64 0)) 0 (splice (splice (splice (splice (splice (List.replicate 9 (Cell.int .i64 0)) 0 ([(.int .i64 5)] : List Cell)) 1 ([(.int .i64 a17)] : List Cell)) 3 s2) 5 ([(.int .i64 6)] : List Cell)) 6 (splice (splice [Cell.int .i64 0, Cell.int .i64 0] 0 ([(.int .i64 (-1))] : List Cell)) 1 ([(.int .i64 1)] : List Cell)))).length = 1 * 9 then appK 9 72 x12 (splice (List.replicate 9 (Cell.int .i64 0)) 0 (splice (splice (splice (splice (splice (List.replicate 9 (Cell.int .i64 0)) 0 ([(.int .i64 5)] : List Cell)) 1 ([(.int .i64 a17)] : List Cell)) 3 s2) 5 ([(.int .i64 6)] : List Cell)) 6 (splice (splice [Cell.int .i64 0, Cell.int .i64 0] 0 ([(.int .i64 (-1))] : List Cell)) 1 ([(.int .i64 1)] : List Cell)))) h fun x_47 h_48 => some (.normal, (jacquardlaw3_Small_s1 a1 x7 a8 a9 a10 a11 x_47 (G.wrap .i64 (a13 - 1)) s0 s1 h_48)) else none else none else none else none else none else none else if 0 = 0 ∧ s2.length = 2 then if s2.length = 2 ∧ 3 + 2 ≤ (splice (List.replicate 9 (Cell.int .i64 0)) 0 ([(.int .i64 6)] : List Cell)).length then if (splice [Cell.int .i64 0, Cell.int .i64 0] 0 ([(.int .i64 (-1))] : List Cell)).length = 2 ∧ 6 + 2 ≤ (splice (splice (List.replicate 9 (Cell.int .i64 0)) 0 ([(.int .i64 6)] : List Cell)) 3 s2).length then if ([(.int .i64 1)] : List Cell).length = 1 ∧ 8 + 1 ≤ (splice (splice (splice (List.replicate 9 (Cell.int .i64 0)) 0 ([(.int .i64 6)] : List Cell)) 3 s2) 6 (splice [Cell.int .i64 0, Cell.int .i64 0] 0 ([(.int .i64 (-1))] : List Cell))).length then if (splice (splice [Cell.int .i64 0, Cell.int .i64 0] 0 ([(.int .i64 (-1))] : List Cell)) 1 ([(.int .i64 2)] : List Cell)).length = 2 ∧ 3 + 2 ≤ (splice (splice (List.replicate 9 (Cell.int .i64 0)) 0 ([(.int .i64 1)] : List Cell)) 2 ([(.int .i64 a15)] : List Cell)).length then if (splice (splice (splice (splice (List.replicate 9 (Cell.int .i64 0)) 0 ([(.int .i64 6)] : List Cell)) 3 s2) 6 (splice [Cell.int .i64 0, Cell.int .i64 0] 0 ([(.int .i64 (-1))] : List Cell))) 8 ([(.int .i64 1)] : List Cell)).length = 9 ∧ 0 + 9 ≤ (List.replicate 18 (Cell.int .i64 0)).length then if (splice (splice (splice (List.replicate 9 (Cell.int .i64 0)) 0 ([(.int .i64 1)] : List Cell)) 2 ([(.int .i64 a15)] : List Cell)) 3 (splice (splice [Cell.int .i64 0, Cell.int .i64 0] 0 ([(.int .i64 (-1))] : List Cell)) 1 ([(.int .i64 2)] : List Cell))).length = 9 ∧ 9 + 9 ≤ (splice (List.replicate 18 (Cell.int .i64 0)) 0 (splice (splice (splice (splice (List.replicate 9 (Cell.int .i64 0)) 0 ([(.int .i64 6)] : List Cell)) 3 s2) 6 (splice [Cell.int .i64 0, Cell.int .i64 0] 0 ([(.int .i64 (-1))] : List Cell))) 8 ([(.int .i64 1)] : List Cell))).length then if (splice (splice (List.replicate 18 (Cell.int .i64 0)) 0 (splice (splice (splice (splice (List.replicate 9 (Cell.int .i64 0)) 0 ([(.int .i64 6)] : List Cell)) 3 s2) 6 (splice [Cell.int .i64 0, Cell.int .i64 0] 0 ([(.int .i64 (-1))] : List Cell))) 8 ([(.int .i64 1)] : List Cell))) 9 (splice (splice (splice (List.replicate 9 (Cell.int .i64 0)) 0 ([(.int .i64 1)] : List Cell)) 2 ([(.int .i64 a15)] : List Cell)) 3 (splice (splice [Cell.int .i64 0, Cell.int .i64 0] 0 ([(.int .i64 (-1))] : List Cell)) 1 ([(.int .i64 2)] : List Cell)))).length = 2 * 9 then appK 9 72 x12 (splice (splice (List.replicate 18 (Cell.int .i64 0)) 0 (splice (splice (splice (splice (List.replicate 9 (Cell.int .i64 0)) 0 ([(.int .i64 6)] : List Cell)) 3 s2) 6 (splice [Cell.int .i64 0, Cell.int .i64 0] 0 ([(.int .i64 (-1))] : List Cell))) 8 ([(.int .i64 1)] : List Cell))) 9 (splice (splice (splice (List.replicate 9 (Cell.int .i64 0)) 0 ([(.int .i64 1)] : List Cell)) 2 ([(.int .i64 a15)] : List Cell)) 3 (splice (splice [Cell.int .i64 0, Cell.int .i64 0] 0 ([(.int .i64 (-1))] : List Cell)) 1 ([(.int .i64 2)] : List Cell)))) h fun x_49 h_50 => some (.normal, (jacquardlaw3_Small_s1 a1 x7 a8 a9 (G.wrap .i64 (a10 + 1)) a11 x_49 (G.wrap .i64 (a13 - 1)) s0 s1 h_50)) else none else none else none else none else none else none else none else none := by kernel_rfl
theorem jacquardlaw3_Small_ec3_n (C : CallF) (L : LoopF) (G : Glo) (a1 : Int) (x7 : Cell) (a8 : Int) (a9 : Int) (a10 : Int) (a11 : Int) (x12 : Cell) (a13 : Int) (a15 : Int) (a17 : Int) (a83 : Int) (b95 : Bool) (s0 : List Cell) (s1 : List Cell) (s2 : List Cell) (h : AHeap) :
    (jacquardlaw3_Small_k13 C L G) .normal (jacquardlaw3_Small_c3 a1 x7 a8 a9 a10 a11 x12 a13 a15 a17 a83 b95 s0 s1 s2 h) =
    if b95 = true then if 0 = 0 ∧ s2.length = 2 then if s2.length = 2 ∧ 3 + 2 ≤ (splice (splice (List.replicate 9 (Cell.int .i64 0)) 0 ([(.int .i64 1)] : List Cell)) 2 ([(.int .i64 a15)] : List Cell)).length then if (splice (splice (splice (List.replicate 9 (Cell.int .i64 0)) 0 ([(.int .i64 1)] : List Cell)) 2 ([(.int .i64 a15)] : List Cell)) 3 s2).length = 9 ∧ 0 + 9 ≤ (List.replicate 9 (Cell.int .i64 0)).length then if (splice (List.replicate 9 (Cell.int .i64 0)) 0 (splice (splice (splice (List.replicate 9 (Cell.int .i64 0)) 0 ([(.int .i64 1)] : List Cell)) 2 ([(.int .i64 a15)] : List Cell)) 3 s2)).length = 1 * 9 then appK 9 72 x12 (splice (List.replicate 9 (Cell.int .i64 0)) 0 (splice (splice (splice (List.replicate 9 (Cell.int .i64 0)) 0 ([(.int .i64 1)] : List Cell)) 2 ([(.int .i64 a15)] : List Cell)) 3 s2)) h fun x_39 h_40 => some (.normal, (jacquardlaw3_Small_s1 a1 x7 a8 a9 (G.wrap .i64 (a10 + 1)) a11 x_39 (G.wrap .i64 (a13 - 1)) s0 s1 h_40)) else none else none else none else none else (if (a83 == 4) = true then some (.normal, (jacquardlaw3_Small_c4 a1 x7 a8 a9 a10 a11 x12 a13 a15 a17 a83 (a83 == 4) s0 s1 s2 h)) else if (a83 == 5) = true then some (.normal, (jacquardlaw3_Small_c4 a1 x7 a8 a9 a10 a11 x12 a13 a15 a17 a83 (a83 == 5) s0 s1 s2 h)) else if (a83 == 6) = true then some (.normal, (jacquardlaw3_Small_c4 a1 x7 a8 a9 a10 a11 x12 a13 a15 a17 a83 (a83 == 6) s0 s1 s2 h)) else some (.normal, (jacquardlaw3_Small_c4 a1 x7 a8 a9 a10 a11 x12 a13 a15 a17 a83 (a83 == 7) s0 s1 s2 h)) : Option (Ex × St)).bind fun p_51 => (jacquardlaw3_Small_k14 C L G) p_51.1 p_51.2 := by kernel_rfl
theorem jacquardlaw3_Small_ec2_n (C : CallF) (L : LoopF) (G : Glo) (a1 : Int) (x7 : Cell) (a8 : Int) (a9 : Int) (a10 : Int) (a11 : Int) (x12 : Cell) (a13 : Int) (a14 : Int) (a15 : Int) (s0 : List Cell) (s1 : List Cell) (s2 : List Cell) (h : AHeap) :
    (jacquardlaw3_Small_k11 C L G) .normal (jacquardlaw3_Small_c2 a1 x7 a8 a9 a10 a11 x12 a13 a14 a15 s0 s1 s2 h) =
    (if ((G.rem .i64 a14 12) == 0) = true then some (.normal, (jacquardlaw3_Small_c3 a1 x7 a8 a9 a10 a11 x12 a13 a15 (G.band .i64 (G.shr .i64 a14 11) 1) (G.rem .i64 a14 12) ((G.rem .i64 a14 12) == 0) s0 s1 s2 h)) else if ((G.rem .i64 a14 12) == 1) = true then some (.normal, (jacquardlaw3_Small_c3 a1 x7 a8 a9 a10 a11 x12 a13 a15 (G.band .i64 (G.shr .i64 a14 11) 1) (G.rem .i64 a14 12) ((G.rem .i64 a14 12) == 1) s0 s1 s2 h)) else if ((G.rem .i64 a14 12) == 2) = true then some (.normal, (jacquardlaw3_Small_c3 a1 x7 a8 a9 a10 a11 x12 a13 a15 (G.band .i64 (G.shr .i64 a14 11) 1) (G.rem .i64 a14 12) ((G.rem .i64 a14 12) == 2) s0 s1 s2 h)) else some (.normal, (jacquardlaw3_Small_c3 a1 x7 a8 a9 a10 a11 x12 a13 a15 (G.band .i64 (G.shr .i64 a14 11) 1) (G.rem .i64 a14 12) ((G.rem .i64 a14 12) == 3) s0 s1 s2 h)) : Option (Ex × St)).bind fun p_52 => (jacquardlaw3_Small_k13 C L G) p_52.1 p_52.2 := by kernel_rfl
theorem jacquardlaw3_Small_r1 (C : CallF) (L : LoopF) (G : Glo) (a1 : Int) (x7 : Cell) (a8 : Int) (a9 : Int) (a10 : Int) (a11 : Int) (x12 : Cell) (a13 : Int) (s0 : List Cell) (s1 : List Cell) (h : AHeap) :
    jacquardlaw3_Small_F1 C L G (jacquardlaw3_Small_s1 a1 x7 a8 a9 a10 a11 x12 a13 s0 s1 h) =
    scK (decide (a13 > 0)) true (some ((decide (a10 < a1)), h)) false h fun b_31 h_32 => if b_31 = true then fnK x7 fun g_33 l_34 => c1 (C g_33 ([] ++ l_34) h_32) fun y_36 h_35 => asI .i64 y_36 fun n_37 => if a9 = 0 then none else let v_38 : Int := (G.wrap .i64 (120 + (G.rem .i64 (G.shr .i64 n_37 4) a9))); if 0 = 0 ∧ [Cell.int .i64 0, Cell.int .i64 0].length = 2 ∧ (splice (splice [Cell.int .i64 0, Cell.int .i64 0] 0 ([(.int .i64 (-1))] : List Cell)) 1 ([(.int .i64 (G.rem .i64 (G.shr .i64 n_37 6) 3))] : List Cell)).length = 2 then (if ((G.rem .i64 (G.shr .i64 n_37 8) 3) == 0) = true then if 0 = 0 ∧ (splice (splice [Cell.int .i64 0, Cell.int .i64 0] 0 ([(.int .i64 (-1))] : List Cell)) 1 ([(.int .i64 (G.rem .i64 (G.shr .i64 n_37 6) 3))] : List Cell)).length = 2 ∧ (splice [Cell.int .i64 0, Cell.int .i64 0] 0 ([(.int .i64 (G.band .i64 (G.shr .i64 n_37 10) 1))] : List Cell)).length = 2 then some (.normal, (jacquardlaw3_Small_c2 a1 x7 a8 a9 a10 a11 x12 a13 n_37 v_38 s0 s1 (splice [Cell.int .i64 0, Cell.int .i64 0] 0 ([(.int .i64 (G.band .i64 (G.shr .i64 n_37 10) 1))] : List Cell)) h_35)) else none else some (.normal, (jacquardlaw3_Small_c2 a1 x7 a8 a9 a10 a11 x12 a13 n_37 v_38 s0 s1 (splice (splice [Cell.int .i64 0, Cell.int .i64 0] 0 ([(.int .i64 (-1))] : List Cell)) 1 ([(.int .i64 (G.rem .i64 (G.shr .i64 n_37 6) 3))] : List Cell)) h_35)) : Option (Ex × St)).bind fun p_53 => (jacquardlaw3_Small_k11 C L G) p_53.1 p_53.2 else none else some ((.exit 2), (jacquardlaw3_Small_x1_3 a1 x7 a8 a9 a10 a11 x12 s0 s1 h_32)) := by kernel_rfl
theorem jacquardlaw3_Small_e1_3 (C : CallF) (L : LoopF) (G : Glo) (a1 : Int) (x7 : Cell) (a8 : Int) (a9 : Int) (a10 : Int) (a11 : Int) (x12 : Cell) (s0 : List Cell) (s1 : List Cell) (h : AHeap) :
    (jacquardlaw3_Small_k8 C L G) (.exit 2) (jacquardlaw3_Small_x1_3 a1 x7 a8 a9 a10 a11 x12 s0 s1 h) =
    atK s1 2 fun q_54 => if (splice [Cell.nils] 0 ([x12] : List Cell)).length = 1 * 1 then appK 1 24 q_54 (splice [Cell.nils] 0 ([x12] : List Cell)) h fun x_55 h_56 => if 2 < s1.length then some (.normal, (jacquardlaw3_Small_s2 a1 x7 a8 a9 a10 (G.wrap .i64 (a11 + 1)) s0 (s1.set 2 x_55) h_56)) else none else none := by kernel_rfl
theorem jacquardlaw3_Small_r2 (C : CallF) (L : LoopF) (G : Glo) (a1 : Int) (x7 : Cell) (a8 : Int) (a9 : Int) (a10 : Int) (a11 : Int) (s0 : List Cell) (s1 : List Cell) (h : AHeap) :
    jacquardlaw3_Small_F2 C L G (jacquardlaw3_Small_s2 a1 x7 a8 a9 a10 a11 s0 s1 h) =
    if (decide (a11 < a8)) = true then fnK x7 fun g_26 l_27 => c1 (C g_26 ([] ++ l_27) h) fun y_29 h_28 => asI .i64 y_29 fun n_30 => (L (jacquardlaw3_Small_F1 C L G) (jacquardlaw3_Small_s1 a1 x7 a8 a9 a10 a11 .nils (G.wrap .i64 ((G.rem .i64 n_30 3) + 1)) s0 s1 h_28)).bind fun p_57 => (jacquardlaw3_Small_k8 C L G) p_57.1 p_57.2 else some ((.exit 0), (jacquardlaw3_Small_x2_1 x7 s0 s1 h)) := by kernel_rfl
theorem jacquardlaw3_Small_e2_1 (C : CallF) (L : LoopF) (G : Glo) (h0 : AHeap) (x7 : Cell) (s0 : List Cell) (s1 : List Cell) (h : AHeap) :
    (jacquardlaw3_Small_k4 C L G h0) (.exit 0) (jacquardlaw3_Small_x2_1 x7 s0 s1 h) =
    fnK x7 fun g_58 l_59 => c1 (C g_58 ([] ++ l_59) h) fun y_61 h_60 => asI .i64 y_61 fun n_62 => if ((G.rem .i64 n_62 3) == 0) = true then let v_63 : Int := (G.wrap .i64 ((G.rem .i64 (G.quo .i64 n_62 3) 2) + 1)); if (splice (splice (splice [Cell.int .i64 0, Cell.int .i64 0, Cell.int .i64 0, Cell.int .i64 0] 0 ([(.int .i64 0)] : List Cell)) 1 ([(.int .i64 (G.band .i64 (G.shr .i64 n_62 3) 1))] : List Cell)) 3 ([(.int .i64 (G.band .i64 (G.shr .i64 n_62 4) 1))] : List Cell)).length = 4 ∧ 0 + 4 ≤ [Cell.int .i64 0, Cell.int .i64 0, Cell.int .i64 0, Cell.int .i64 0].length then if (splice [Cell.int .i64 0, Cell.int .i64 0, Cell.int .i64 0, Cell.int .i64 0] 0 (splice (splice (splice [Cell.int .i64 0, Cell.int .i64 0, Cell.int .i64 0, Cell.int .i64 0] 0 ([(.int .i64 0)] : List Cell)) 1 ([(.int .i64 (G.band .i64 (G.shr .i64 n_62 3) 1))] : List Cell)) 3 ([(.int .i64 (G.band .i64 (G.shr .i64 n_62 4) 1))] : List Cell))).length = 1 * 4 then if (splice (splice (splice [Cell.int .i64 0, Cell.int .i64 0, Cell.int .i64 0, Cell.int .i64 0] 0 ([(.int .i64 (-1))] : List Cell)) 2 ([(.int .i64 120)] : List Cell)) 3 ([(.int .i64 (G.rem .i64 (G.shr .i64 n_62 5) 3))] : List Cell)).length = 4 ∧ 0 + 4 ≤ (List.replicate 8 (Cell.int .i64 0)).length then if (splice (splice (splice [Cell.int .i64 0, Cell.int .i64 0, Cell.int .i64 0, Cell.int .i64 0] 0 ([(.int .i64 1)] : List Cell)) 1 ([(.int .i64 0)] : List Cell)) 3 ([(.int .i64 (G.band .i64 (G.shr .i64 n_62 7) 1))] : List Cell)).length = 4 ∧ 4 + 4 ≤ (splice (List.replicate 8 (Cell.int .i64 0)) 0 (splice (splice (splice [Cell.int .i64 0, Cell.int .i64 0, Cell.int .i64 0, Cell.int .i64 0] 0 ([(.int .i64 (-1))] : List Cell)) 2 ([(.int .i64 120)] : List Cell)) 3 ([(.int .i64 (G.rem .i64 (G.shr .i64 n_62 5) 3))] : List Cell))).length then if (splice (splice (List.replicate 8 (Cell.int .i64 0)) 0 (splice (splice (splice [Cell.int .i64 0, Cell.int .i64 0, Cell.int .i64 0, Cell.int .i64 0] 0 ([(.int .i64 (-1))] : List Cell)) 2 ([(.int .i64 120)] : List Cell)) 3 ([(.int .i64 (G.rem .i64 (G.shr .i64 n_62 5) 3))] : List Cell))) 4 (splice (splice (splice [Cell.int .i64 0, Cell.int .i64 0, Cell.int .i64 0, Cell.int .i64 0] 0 ([(.int .i64 1)] : List Cell)) 1 ([(.int .i64 0)] : List Cell)) 3 ([(.int .i64 (G.band .i64 (G.shr .i64 n_62 7) 1))] : List Cell))).length = 2 * 4 then if (splice (splice [Cell.nils, Cell.nils] 0 ([(.sl h_60.length ((splice [Cell.int .i64 0, Cell.int .i64 0, Cell.int .i64 0, Cell.int .i64 0] 0 (splice (splice (splice [Cell.int .i64 0, Cell.int .i64 0, Cell.int .i64 0, Cell.int .i64 0] 0 ([(.int .i64 0)] : List Cell)) 1 ([(.int .i64 (G.band .i64 (G.shr .i64 n_62 3) 1))] : List Cell)) 3 ([(.int .i64 (G.band .i64 (G.shr .i64 n_62 4) 1))] : List Cell))).length) 0 1)] : List Cell)) 1 ([(.sl ((h_60 ++ [some (Blk.mk true 4 (splice [Cell.int .i64 0, Cell.int .i64 0, Cell.int .i64 0, Cell.int .i64 0] 0 (splice (splice (splice [Cell.int .i64 0, Cell.int .i64 0, Cell.int .i64 0, Cell.int .i64 0] 0 ([(.int .i64 0)] : List Cell)) 1 ([(.int .i64 (G.band .i64 (G.shr .i64 n_62 3) 1))] : List Cell)) 3 ([(.int .i64 (G.band .i64 (G.shr .i64 n_62 4) 1))] : List Cell))))]).length) ((splice (splice (List.replicate 8 (Cell.int .i64 0)) 0 (splice (splice (splice [Cell.int .i64 0, Cell.int .i64 0, Cell.int .i64 0, Cell.int .i64 0] 0 ([(.int .i64 (-1))] : List Cell)) 2 ([(.int .i64 120)] : List Cell)) 3 ([(.int .i64 (G.rem .i64 (G.shr .i64 n_62 5) 3))] : List Cell))) 4 (splice (splice (splice [Cell.int .i64 0, Cell.int .i64 0, Cell.int .i64 0, Cell.int .i64 0] 0 ([(.int .i64 1)] : List Cell)) 1 ([(.int .i64 0)] : List Cell)) 3 ([(.int .i64 (G.band .i64 (G.shr .i64 n_62 7) 1))] : List Cell))).length) 0 2)] : List Cell)).length = 2 * 1 then if 3 + 2 ≤ s1.length ∧ (splice (splice [Cell.int .i64 0, Cell.nils] 0 ([(.int .i64 v_63)] : List Cell)) 1 ([(.sl (((h_60 ++ [some (Blk.mk true 4 (splice [Cell.int .i64 0, Cell.int .i64 0, Cell.int .i64 0, Cell.int .i64 0] 0 (splice (splice (splice [Cell.int .i64 0, Cell.int .i64 0, Cell.int .i64 0, Cell.int .i64 0] 0 ([(.int .i64 0)] : List Cell)) 1 ([(.int .i64 (G.band .i64 (G.shr .i64 n_62 3) 1))] : List Cell)) 3 ([(.int .i64 (G.band .i64 (G.shr .i64 n_62 4) 1))] : List Cell))))]) ++ [some (Blk.mk true 4 (splice (splice (List.replicate 8 (Cell.int .i64 0)) 0 (splice (splice (splice [Cell.int .i64 0, Cell.int .i64 0, Cell.int .i64 0, Cell.int .i64 0] 0 ([(.int .i64 (-1))] : List Cell)) 2 ([(.int .i64 120)] : List Cell)) 3 ([(.int .i64 (G.rem .i64 (G.shr .i64 n_62 5) 3))] : List Cell))) 4 (splice (splice (splice [Cell.int .i64 0, Cell.int .i64 0, Cell.int .i64 0, Cell.int .i64 0] 0 ([(.int .i64 1)] : List Cell)) 1 ([(.int .i64 0)] : List Cell)) 3 ([(.int .i64 (G.band .i64 (G.shr .i64 n_62 7) 1))] : List Cell))))]).length) ((splice (splice [Cell.nils, Cell.nils] 0 ([(.sl h_60.length ((splice [Cell.int .i64 0, Cell.int .i64 0, Cell.int .i64 0, Cell.int .i64 0] 0 (splice (splice (splice [Cell.int .i64 0, Cell.int .i64 0, Cell.int .i64 0, Cell.int .i64 0] 0 ([(.int .i64 0)] : List Cell)) 1 ([(.int .i64 (G.band .i64 (G.shr .i64 n_62 3) 1))] : List Cell)) 3 ([(.int .i64 (G.band .i64 (G.shr .i64 n_62 4) 1))] : List Cell))).length) 0 1)] : List Cell)) 1 ([(.sl ((h_60 ++ [some (Blk.mk true 4 (splice [Cell.int .i64 0, Cell.int .i64 0, Cell.int .i64 0, Cell.int .i64 0] 0 (splice (splice (splice [Cell.int .i64 0, Cell.int .i64 0, Cell.int .i64 0, Cell.int .i64 0] 0 ([(.int .i64 0)] : List Cell)) 1 ([(.int .i64 (G.band .i64 (G.shr .i64 n_62 3) 1))] : List Cell)) 3 ([(.int .i64 (G.band .i64 (G.shr .i64 n_62 4) 1))] : List Cell))))]).length) ((splice (splice (List.replicate 8 (Cell.int .i64 0)) 0 (splice (splice (splice [Cell.int .i64 0, Cell.int .i64 0, Cell.int .i64 0, Cell.int .i64 0] 0 ([(.int .i64 (-1))] : List Cell)) 2 ([(.int .i64 120)] : List Cell)) 3 ([(.int .i64 (G.rem .i64 (G.shr .i64 n_62 5) 3))] : List Cell))) 4 (splice (splice (splice [Cell.int .i64 0, Cell.int .i64 0, Cell.int .i64 0, Cell.int .i64 0] 0 ([(.int .i64 1)] : List Cell)) 1 ([(.int .i64 0)] : List Cell)) 3 ([(.int .i64 (G.band .i64 (G.shr .i64 n_62 7) 1))] : List Cell))).length) 0 2)] : List Cell)).length) 0 2)] : List Cell)).length = 2 then if 0 = 0 ∧ (splice s1 3 (splice (splice [Cell.int .i64 0, Cell.nils] 0 ([(.int .i64 v_63)] : List Cell)) 1 ([(.sl (((h_60 ++ [some (Blk.mk true 4 (splice [Cell.int .i64 0, Cell.int .i64 0, Cell.int .i64 0, Cell.int .i64 0] 0 (splice (splice (splice [Cell.int .i64 0, Cell.int .i64 0, Cell.int .i64 0, Cell.int .i64 0] 0 ([(.int .i64 0)] : List Cell)) 1 ([(.int .i64 (G.band .i64 (G.shr .i64 n_62 3) 1))] : List Cell)) 3 ([(.int .i64 (G.band .i64 (G.shr .i64 n_62 4) 1))] : List Cell))))]) ++ [some (Blk.mk true 4 (splice (splice (List.replicate 8 (Cell.int .i64 0)) 0 (splice (splice (splice [Cell.int .i64 0, Cell.int .i64 0, Cell.int .i64 0, Cell.int .i64 0] 0 ([(.int .i64 (-1))] : List Cell)) 2 ([(.int .i64 120)] : List Cell)) 3 ([(.int .i64 (G.rem .i64 (G.shr .i64 n_62 5) 3))] : List Cell))) 4 (splice (splice (splice [Cell.int .i64 0, Cell.int .i64 0, Cell.int .i64 0, Cell.int .i64 0] 0 ([(.int .i64 1)] : List Cell)) 1 ([(.int .i64 0)] : List Cell)) 3 ([(.int .i64 (G.band .i64 (G.shr .i64 n_62 7) 1))] : List Cell))))]).length) ((splice (splice [Cell.nils, Cell.nils] 0 ([(.sl h_60.length ((splice [Cell.int .i64 0, Cell.int .i64 0, Cell.int .i64 0, Cell.int .i64 0] 0 (splice (splice (splice [Cell.int .i64 0, Cell.int .i64 0, Cell.int .i64 0, Cell.int .i64 0] 0 ([(.int .i64 0)] : List Cell)) 1 ([(.int .i64 (G.band .i64 (G.shr .i64 n_62 3) 1))] : List Cell)) 3 ([(.int .i64 (G.band .i64 (G.shr .i64 n_62 4) 1))] : List Cell))).length) 0 1)] : List Cell)) 1 ([(.sl ((h_60 ++ [some (Blk.mk true 4 (splice [Cell.int .i64 0, Cell.int .i64 0, Cell.int .i64 0, Cell.int .i64 0] 0 (splice (splice (splice [Cell.int .i64 0, Cell.int .i64 0, Cell.int .i64 0, Cell.int .i64 0] 0 ([(.int .i64 0)] : List Cell)) 1 ([(.int .i64 (G.band .i64 (G.shr .i64 n_62 3) 1))] : List Cell)) 3 ([(.int .i64 (G.band .i64 (G.shr .i64 n_62 4) 1))] : List Cell))))]).length) ((splice (splice (List.replicate 8 (Cell.int .i64 0)) 0 (splice (splice (splice [Cell.int .i64 0, Cell.int .i64 0, Cell.int .i64 0, Cell.int .i64 0] 0 ([(.int .i64 (-1))] : List Cell)) 2 ([(.int .i64 120)] : List Cell)) 3 ([(.int .i64 (G.rem .i64 (G.shr .i64 n_62 5) 3))] : List Cell))) 4 (splice (splice (splice [Cell.int .i64 0, Cell.int .i64 0, Cell.int .i64 0, Cell.int .i64 0] 0 ([(.int .i64 1)] : List Cell)) 1 ([(.int .i64 0)] : List Cell)) 3 ([(.int .i64 (G.band .i64 (G.shr .i64 n_62 7) 1))] : List Cell))).length) 0 2)] : List Cell)).length) 0 2)] : List Cell))).length = 5 then if 0 = 0 ∧ s0.length = 5 ∧ (splice s1 3 (splice (splice [Cell.int .i64 0, Cell.nils] 0 ([(.int .i64 v_63)] : List Cell)) 1 ([(.sl (((h_60 ++ [some (Blk.mk true 4 (splice [Cell.int .i64 0, Cell.int .i64 0, Cell.int .i64 0, Cell.int .i64 0] 0 (splice (splice (splice [Cell.int .i64 0, Cell.int .i64 0, Cell.int .i64 0, Cell.int .i64 0] 0 ([(.int .i64 0)] : List Cell)) 1 ([(.int .i64 (G.band .i64 (G.shr .i64 n_62 3) 1))] : List Cell)) 3 ([(.int .i64 (G.band .i64 (G.shr .i64 n_62 4) 1))] : List Cell))))]) ++ [some (Blk.mk true 4 (splice (splice (List.replicate 8 (Cell.int .i64 0)) 0 (splice (splice (splice [Cell.int .i64 0, Cell.int .i64 0, Cell.int .i64 0, Cell.int .i64 0] 0 ([(.int .i64 (-1))] : List Cell)) 2 ([(.int .i64 120)] : List Cell)) 3 ([(.int .i64 (G.rem .i64 (G.shr .i64 n_62 5) 3))] : List Cell))) 4 (splice (splice (splice [Cell.int .i64 0, Cell.int .i64 0, Cell.int .i64 0, Cell.int .i64 0] 0 ([(.int .i64 1)] : List Cell)) 1 ([(.int .i64 0)] : List Cell)) 3 ([(.int .i64 (G.band .i64 (G.shr .i64 n_62 7) 1))] : List Cell))))]).length) ((splice (splice [Cell.nils, Cell.nils] 0 ([(.sl h_60.length ((splice [Cell.int .i64 0, Cell.int .i64 0, Cell.int .i64 0, Cell.int .i64 0] 0 (splice (splice (splice [Cell.int .i64 0, Cell.int .i64 0, Cell.int .i64 0, Cell.int .i64 0] 0 ([(.int .i64 0)] : List Cell)) 1 ([(.int .i64 (G.band .i64 (G.shr .i64 n_62 3) 1))] : List Cell)) 3 ([(.int .i64 (G.band .i64 (G.shr .i64 n_62 4) 1))] : List Cell))).length) 0 1)] : List Cell)) 1 ([(.sl ((h_60 ++ [some (Blk.mk true 4 (splice [Cell.int .i64 0, Cell.int .i64 0, Cell.int .i64 0, Cell.int .i64 0] 0 (splice (splice (splice [Cell.int .i64 0, Cell.int .i64 0, Cell.int .i64 0, Cell.int .i64 0] 0 ([(.int .i64 0)] : List Cell)) 1 ([(.int .i64 (G.band .i64 (G.shr .i64 n_62 3) 1))] : List Cell)) 3 ([(.int .i64 (G.band .i64 (G.shr .i64 n_62 4) 1))] : List Cell))))]).length) ((splice (splice (List.replicate 8 (Cell.int .i64 0)) 0 (splice (splice (splice [Cell.int .i64 0, Cell.int .i64 0, Cell.int .i64 0, Cell.int .i64 0] 0 ([(.int .i64 (-1))] : List Cell)) 2 ([(.int .i64 120)] : List Cell)) 3 ([(.int .i64 (G.rem .i64 (G.shr .i64 n_62 5) 3))] : List Cell))) 4 (splice (splice (splice [Cell.int .i64 0, Cell.int .i64 0, Cell.int .i64 0, Cell.int .i64 0] 0 ([(.int .i64 1)] : List Cell)) 1 ([(.int .i64 0)] : List Cell)) 3 ([(.int .i64 (G.band .i64 (G.shr .i64 n_62 7) 1))] : List Cell))).length) 0 2)] : List Cell)).length) 0 2)] : List Cell))).length = 5 then if 0 = 0 ∧ (splice s1 3 (splice (splice [Cell.int .i64 0, Cell.nils] 0 ([(.int .i64 v_63)] : List Cell)) 1 ([(.sl (((h_60 ++ [some (Blk.mk true 4 (splice [Cell.int .i64 0, Cell.int .i64 0, Cell.int .i64 0, Cell.int .i64 0] 0 (splice (splice (splice [Cell.int .i64 0, Cell.int .i64 0, Cell.int .i64 0, Cell.int .i64 0] 0 ([(.int .i64 0)] : List Cell)) 1 ([(.int .i64 (G.band .i64 (G.shr .i64 n_62 3) 1))] : List Cell)) 3 ([(.int .i64 (G.band .i64 (G.shr .i64 n_62 4) 1))] : List Cell))))]) ++ [some (Blk.mk true 4 (splice (splice (List.replicate 8 (Cell.int .i64 0)) 0 (splice (splice (splice [Cell.int .i64 0, Cell.int .i64 0, Cell.int .i64 0, Cell.int .i64 0] 0 ([(.int .i64 (-1))] : List Cell)) 2 ([(.int .i64 120)] : List Cell)) 3 ([(.int .i64 (G.rem .i64 (G.shr .i64 n_62 5) 3))] : List Cell))) 4 (splice (splice (splice [Cell.int .i64 0, Cell.int .i64 0, Cell.int .i64 0, Cell.int .i64 0] 0 ([(.int .i64 1)] : List Cell)) 1 ([(.int .i64 0)] : List Cell)) 3 ([(.int .i64 (G.band .i64 (G.shr .i64 n_62 7) 1))] : List Cell))))]).length) ((splice (splice [Cell.nils, Cell.nils] 0 ([(.sl h_60.length ((splice [Cell.int .i64 0, Cell.int .i64 0, Cell.int .i64 0, Cell.int .i64 0] 0 (splice (splice (splice [Cell.int .i64 0, Cell.int .i64 0, Cell.int .i64 0, Cell.int .i64 0] 0 ([(.int .i64 0)] : List Cell)) 1 ([(.int .i64 (G.band .i64 (G.shr .i64 n_62 3) 1))] : List Cell)) 3 ([(.int .i64 (G.band .i64 (G.shr .i64 n_62 4) 1))] : List Cell))).length) 0 1)] : List Cell)) 1 ([(.sl ((h_60 ++ [some (Blk.mk true 4 (splice [Cell.int .i64 0, Cell.int .i64 0, Cell.int .i64 0, Cell.int .i64 0] 0 (splice (splice (splice [Cell.int .i64 0, Cell.int .i64 0, Cell.int .i64 0, Cell.int .i64 0] 0 ([(.int .i64 0)] : List Cell)) 1 ([(.int .i64 (G.band .i64 (G.shr .i64 n_62 3) 1))] : List Cell)) 3 ([(.int .i64 (G.band .i64 (G.shr .i64 n_62 4) 1))] : List Cell))))]).length) ((splice (splice (List.replicate 8 (Cell.int .i64 0)) 0 (splice (splice (splice [Cell.int .i64 0, Cell.int .i64 0, Cell.int .i64 0, Cell.int .i64 0] 0 ([(.int .i64 (-1))] : List Cell)) 2 ([(.int .i64 120)] : List Cell)) 3 ([(.int .i64 (G.rem .i64 (G.shr .i64 n_62 5) 3))] : List Cell))) 4 (splice (splice (splice [Cell.int .i64 0, Cell.int .i64 0, Cell.int .i64 0, Cell.int .i64 0] 0 ([(.int .i64 1)] : List Cell)) 1 ([(.int .i64 0)] : List Cell)) 3 ([(.int .i64 (G.band .i64 (G.shr .i64 n_62 7) 1))] : List Cell))).length) 0 2)] : List Cell)).length) 0 2)] : List Cell))).length = 5 then some ([(.agg (splice s1 3 (splice (splice [Cell.int .i64 0, Cell.nils] 0 ([(.int .i64 v_63)] : List Cell)) 1 ([(.sl (((h_60 ++ [some (Blk.mk true 4 (splice [Cell.int .i64 0, Cell.int .i64 0, Cell.int .i64 0, Cell.int .i64 0] 0 (splice (splice (splice [Cell.int .i64 0, Cell.int .i64 0, Cell.int .i64 0, Cell.int .i64 0] 0 ([(.int .i64 0)] : List Cell)) 1 ([(.int .i64 (G.band .i64 (G.shr .i64 n_62 3) 1))] : List Cell)) 3 ([(.int .i64 (G.band .i64 (G.shr .i64 n_62 4) 1))] : List Cell))))]) ++ [some (Blk.mk true 4 (splice (splice (List.replicate 8 (Cell.int .i64 0)) 0 (splice (splice (splice [Cell.int .i64 0, Cell.int .i64 0, Cell.int .i64 0, Cell.int .i64 0] 0 ([(.int .i64 (-1))] : List Cell)) 2 ([(.int .i64 120)] : List Cell)) 3 ([(.int .i64 (G.rem .i64 (G.shr .i64 n_62 5) 3))] : List Cell))) 4 (splice (splice (splice [Cell.int .i64 0, Cell.int .i64 0, Cell.int .i64 0, Cell.int .i64 0] 0 ([(.int .i64 1)] : List Cell)) 1 ([(.int .i64 0)] : List Cell)) 3 ([(.int .i64 (G.band .i64 (G.shr .i64 n_62 7) 1))] : List Cell))))]).length) ((splice (splice [Cell.nils, Cell.nils] 0 ([(.sl h_60.length ((splice [Cell.int .i64 0, Cell.int .i64 0, Cell.int .i64 0, Cell.int .i64 0] 0 (splice (splice (splice [Cell.int .i64 0, Cell.int .i64 0, Cell.int .i64 0, Cell.int .i64 0] 0 ([(.int .i64 0)] : List Cell)) 1 ([(.int .i64 (G.band .i64 (G.shr .i64 n_62 3) 1))] : List Cell)) 3 ([(.int .i64 (G.band .i64 (G.shr .i64 n_62 4) 1))] : List Cell))).length) 0 1)] : List Cell)) 1 ([(.sl ((h_60 ++ [some (Blk.mk true 4 (splice [Cell.int .i64 0, Cell.int .i64 0, Cell.int .i64 0, Cell.int .i64 0] 0 (splice (splice (splice [Cell.int .i64 0, Cell.int .i64 0, Cell.int .i64 0, Cell.int .i64 0] 0 ([(.int .i64 0)] : List Cell)) 1 ([(.int .i64 (G.band .i64 (G.shr .i64 n_62 3) 1))] : List Cell)) 3 ([(.int .i64 (G.band .i64 (G.shr .i64 n_62 4) 1))] : List Cell))))]).length) ((splice (splice (List.replicate 8 (Cell.int .i64 0)) 0 (splice (splice (splice [Cell.int .i64 0, Cell.int .i64 0, Cell.int .i64 0, Cell.int .i64 0] 0 ([(.int .i64 (-1))] : List Cell)) 2 ([(.int .i64 120)] : List Cell)) 3 ([(.int .i64 (G.rem .i64 (G.shr .i64 n_62 5) 3))] : List Cell))) 4 (splice (splice (splice [Cell.int .i64 0, Cell.int .i64 0, Cell.int .i64 0, Cell.int .i64 0] 0 ([(.int .i64 1)] : List Cell)) 1 ([(.int .i64 0)] : List Cell)) 3 ([(.int .i64 (G.band .i64 (G.shr .i64 n_62 7) 1))] : List Cell))).length) 0 2)] : List Cell)).length) 0 2)] : List Cell))))], (((h_60 ++ [some (Blk.mk true 4 (splice [Cell.int .i64 0, Cell.int .i64 0, Cell.int .i64 0, Cell.int .i64 0] 0 (splice (splice (splice [Cell.int .i64 0, Cell.int .i64 0, Cell.int .i64 0, Cell.int .i64 0] 0 ([(.int .i64 0)] : List Cell)) 1 ([(.int .i64 (G.band .i64 (G.shr .i64 n_62 3) 1))] : List Cell)) 3 ([(.int .i64 (G.band .i64 (G.shr .i64 n_62 4) 1))] : List Cell))))]) ++ [some (Blk.mk true 4 (splice (splice (List.replicate 8 (Cell.int .i64 0)) 0 (splice (splice (splice [Cell.int .i64 0, Cell.int .i64 0, Cell.int .i64 0, Cell.int .i64 0] 0 ([(.int .i64 (-1))] : List Cell)) 2 ([(.int .i64 120)] : List Cell)) 3 ([(.int .i64 (G.rem .i64 (G.shr .i64 n_62 5) 3))] : List Cell))) 4 (splice (splice (splice [Cell.int .i64 0, Cell.int .i64 0, Cell.int .i64 0, Cell.int .i64 0] 0 ([(.int .i64 1)] : List Cell)) 1 ([(.int .i64 0)] : List Cell)) 3 ([(.int .i64 (G.band .i64 (G.shr .i64 n_62 7) 1))] : List Cell))))]) ++ [some (Blk.mk true 1 (splice (splice [Cell.nils, Cell.nils] 0 ([(.sl h_60.length ((splice [Cell.int .i64 0, Cell.int .i64 0, Cell.int .i64 0, Cell.int .i64 0] 0 (splice (splice (splice [Cell.int .i64 0, Cell.int .i64 0, Cell.int .i64 0, Cell.int .i64 0] 0 ([(.int .i64 0)] : List Cell)) 1 ([(.int .i64 (G.band .i64 (G.shr .i64 n_62 3) 1))] : List Cell)) 3 ([(.int .i64 (G.band .i64 (G.shr .i64 n_62 4) 1))] : List Cell))).length) 0 1)] : List Cell)) 1 ([(.sl ((h_60 ++ [some (Blk.mk true 4 (splice [Cell.int .i64 0, Cell.int .i64 0, Cell.int .i64 0, Cell.int .i64 0] 0 (splice (splice (splice [Cell.int .i64 0, Cell.int .i64 0, Cell.int .i64 0, Cell.int .i64 0] 0 ([(.int .i64 0)] : List Cell)) 1 ([(.int .i64 (G.band .i64 (G.shr .i64 n_62 3) 1))] : List Cell)) 3 ([(.int .i64 (G.band .i64 (G.shr .i64 n_62 4) 1))] : List Cell))))]).length) ((splice (splice (List.replicate 8 (Cell.int .i64 0)) 0 (splice (splice (splice [Cell.int .i64 0, Cell.int .i64 0, Cell.int .i64 0, Cell.int .i64 0] 0 ([(.int .i64 (-1))] : List Cell)) 2 ([(.int .i64 120)] : List Cell)) 3 ([(.int .i64 (G.rem .i64 (G.shr .i64 n_62 5) 3))] : List Cell))) 4 (splice (splice (splice [Cell.int .i64 0, Cell.int .i64 0, Cell.int .i64 0, Cell.int .i64 0] 0 ([(.int .i64 1)] : List Cell)) 1 ([(.int .i64 0)] : List Cell)) 3 ([(.int .i64 (G.band .i64 (G.shr .i64 n_62 7) 1))] : List Cell))).length) 0 2)] : List Cell)))])) else none else none else none else none else none else none else none else none else none else none else if 0 = 0 ∧ s1.length = 5 then if 0 = 0 ∧ s0.length = 5 ∧ s1.length = 5 then if 0 = 0 ∧ s1.length = 5 then some ([(.agg s1)], h_60) else none else none else none := by kernel_rfl
theorem jacquardlaw3_Small_ec1_n (C : CallF) (L : LoopF) (G : Glo) (h0 : AHeap) (a1 : Int) (x7 : Cell) (a8 : Int) (a9 : Int) (s0 : List Cell) (s1 : List Cell) (h : AHeap) :
    (jacquardlaw3_Small_k2 C L G h0) .normal (jacquardlaw3_Small_c1 a1 x7 a8 a9 s0 s1 h) =
    (L (jacquardlaw3_Small_F2 C L G) (jacquardlaw3_Small_s2 a1 x7 a8 a9 0 0 s0 s1 h)).bind fun p_64 => (jacquardlaw3_Small_k4 C L G h0) p_64.1 p_64.2 := by kernel_rfl
set_option maxRecDepth 100000 in
theorem jacquardlaw3_Small_eq (C : CallF) (L : LoopF) (G : Glo) (x0 : Cell) (a1 : Int) (h0 : AHeap) :
    jacquardlaw3_Small.body C L G [(.c x0), (.c (.int .i64 a1))] h0 =
    if 0 = 0 ∧ [Cell.str (ByteArray.mk #[]), Cell.nils, Cell.nils, Cell.int .i64 0, Cell.nils].length = 5 ∧ (splice [Cell.str (ByteArray.mk #[]), Cell.nils, Cell.nils, Cell.int .i64 0, Cell.nils] 0 ([(.str (ByteArray.mk #[116]))] : List Cell)).length = 5 then rdH ((h0 ++ [some (Blk.mk true 0 (AV.cells (.c x0)))]) ++ [some (Blk.mk true 0 ([Cell.int .i64 0]))]) ((h0 ++ [some (Blk.mk true 0 (AV.cells (.c x0)))]).length) (([Cell.int .i64 0]).length) fun l_1 => if 0 < l_1.length then putH ((h0 ++ [some (Blk.mk true 0 (AV.cells (.c x0)))]) ++ [some (Blk.mk true 0 ([Cell.int .i64 0]))]) ((h0 ++ [some (Blk.mk true 0 (AV.cells (.c x0)))]).length) (l_1.set 0 (.int .i64 0)) fun h_2 => fnK (.fn 115 [((h0 ++ [some (Blk.mk true 0 (AV.cells (.c x0)))]).length, ([Cell.int .i64 0]).length, 0), (h0.length, (AV.cells (.c x0)).length, 0)]) fun g_3 l_4 => c1 (C g_3 ([] ++ l_4) h_2) fun y_6 h_5 => asI .i64 y_6 fun n_7 => fnK (.fn 115 [((h0 ++ [some (Blk.mk true 0 (AV.cells (.c x0)))]).length, ([Cell.int .i64 0]).length, 0), (h0.length, (AV.cells (.c x0)).length, 0)]) fun g_8 l_9 => c1 (C g_8 ([] ++ l_9) h_5) fun y_11 h_10 => asI .i64 y_11 fun n_12 => (fnK (.fn 115 [((h0 ++ [some (Blk.mk true 0 (AV.cells (.c x0)))]).length, ([Cell.int .i64 0]).length, 0), (h0.length, (AV.cells (.c x0)).length, 0)]) fun g_13 l_14 => c1 (C g_13 ([] ++ l_14) h_10) fun y_16 h_15 => asI .i64 y_16 fun n_17 => if ((G.rem .i64 n_17 4) == 0) = true then atK (splice [Cell.str (ByteArray.mk #[]), Cell.nils, Cell.nils, Cell.int .i64 0, Cell.nils] 0 ([(.str (ByteArray.mk #[116]))] : List Cell)) 1 fun q_18 => fnK (.fn 115 [((h0 ++ [some (Blk.mk true 0 (AV.cells (.c x0)))]).length, ([Cell.int .i64 0]).length, 0), (h0.length, (AV.cells (.c x0)).length, 0)]) fun g_19 l_20 => c1 (C g_19 ([] ++ l_20) h_15) fun y_22 h_21 => asI .i64 y_22 fun n_23 => if (splice (splice [Cell.int .i64 0, Cell.int .i64 0] 0 ([(.int .i64 120)] : List Cell)) 1 ([(.int .i64 (G.rem .i64 n_23 3))] : List Cell)).length = 2 ∧ 0 + 2 ≤ [Cell.int .i64 0, Cell.int .i64 0].length then if (splice [Cell.int .i64 0, Cell.int .i64 0] 0 (splice (splice [Cell.int .i64 0, Cell.int .i64 0] 0 ([(.int .i64 120)] : List Cell)) 1 ([(.int .i64 (G.rem .i64 n_23 3))] : List Cell))).length = 1 * 2 then appK 2 16 q_18 (splice [Cell.int .i64 0, Cell.int .i64 0] 0 (splice (splice [Cell.int .i64 0, Cell.int .i64 0] 0 ([(.int .i64 120)] : List Cell)) 1 ([(.int .i64 (G.rem .i64 n_23 3))] : List Cell))) h_21 fun x_24 h_25 => if 1 < (splice [Cell.str (ByteArray.mk #[]), Cell.nils, Cell.nils, Cell.int .i64 0, Cell.nils] 0 ([(.str (ByteArray.mk #[116]))] : List Cell)).length then some (.normal, (jacquardlaw3_Small_c1 a1 (.fn 115 [((h0 ++ [some (Blk.mk true 0 (AV.cells (.c x0)))]).length, ([Cell.int .i64 0]).length, 0), (h0.length, (AV.cells (.c x0)).length, 0)]) (G.wrap .i64 ((G.rem .i64 n_7 2) + 2)) (G.wrap .i64 ((G.rem .i64 n_12 2) + 2)) [Cell.str (ByteArray.mk #[]), Cell.nils, Cell.nils, Cell.int .i64 0, Cell.nils] ((splice [Cell.str (ByteArray.mk #[]), Cell.nils, Cell.nils, Cell.int .i64 0, Cell.nils] 0 ([(.str (ByteArray.mk #[116]))] : List Cell)).set 1 x_24) h_25)) else none else none else none else some (.normal, (jacquardlaw3_Small_c1 a1 (.fn 115 [((h0 ++ [some (Blk.mk true 0 (AV.cells (.c x0)))]).length, ([Cell.int .i64 0]).length, 0), (h0.length, (AV.cells (.c x0)).length, 0)]) (G.wrap .i64 ((G.rem .i64 n_7 2) + 2)) (G.wrap .i64 ((G.rem .i64 n_12 2) + 2)) [Cell.str (ByteArray.mk #[]), Cell.nils, Cell.nils, Cell.int .i64 0, Cell.nils] (splice [Cell.str (ByteArray.mk #[]), Cell.nils, Cell.nils, Cell.int .i64 0, Cell.nils] 0 ([(.str (ByteArray.mk #[116]))] : List Cell)) h_15)) : Option (Ex × St)).bind fun p_65 => (jacquardlaw3_Small_k2 C L G h0) p_65.1 p_65.2 else none else none := by kernel_rfl

/- jacquard/jacquardlaw3.Small$1: 115 -/
set_option maxRecDepth 100000 in
theorem jacquardlaw3_Small_1_eq (C : CallF) (L : LoopF) (G : Glo) (k0 : Nat) (N0 : Nat) (o0 : Nat) (k1 : Nat) (N1 : Nat) (o1 : Nat) (h0 : AHeap) :
    jacquardlaw3_Small_1.body C L G [(.c (.ptr k0 N0 o0)), (.c (.ptr k1 N1 o1))] h0 =
    rdH h0 k0 N0 fun l_1 => atK l_1 o0 fun q_2 => asI .i64 (.c q_2) fun n_3 => rdH h0 k0 N0 fun l_4 => if o0 < l_4.length then putH h0 k0 (l_4.set o0 (.int .i64 (G.wrap .i64 (n_3 + 1)))) fun h_5 => rdH h_5 k0 N0 fun l_6 => atK l_6 o0 fun q_7 => asI .i64 (.c q_7) fun n_8 => rdH h_5 k1 N1 fun l_9 => atK l_9 o1 fun q_10 => lenK q_10 fun n_11 => if (decide (n_8 > n_11)) = true then some ([(.c (.int .i64 0))], h_5) else rdH h_5 k1 N1 fun l_12 => atK l_12 o1 fun q_13 => rdH h_5 k0 N0 fun l_14 => atK l_14 o0 fun q_15 => asI .i64 (.c q_15) fun n_16 => idxSK 1 q_13 (G.wrap .i64 (n_16 - 1)) fun k_17 N_18 o_19 => rdH h_5 k_17 N_18 fun l_20 => atK l_20 o_19 fun q_21 => asI .i64 (.c q_21) fun n_22 => some ([(.c (.int .i64 (G.band .i64 n_22 65535)))], h_5) else none := by kernel_rfl


end Jq

/- Tests made of numbers: what instructions they have. -/
namespace Jq
open Go

def opdOk (o : Opd) : Prop := (o.reg = -1 ∧ 0 ≤ o.val ∧ o.val < 3) ∨ ((o.reg = 0 ∨ o.reg = 1) ∧ o.val = 0)

/-- An instruction of a small test, its letter one of L from x on. -/
def SmI (L : Int) (i : Ins) : Prop :=
  (i.kind = 1 ∧ i.reg = 0 ∧ (120 ≤ i.loc ∧ i.loc < 120 + L) ∧ opdOk i.a ∧ i.op = 0 ∧ i.b = ⟨0, 0⟩ ∧ i.n = 0) ∨
  (i.kind = 2 ∧ (i.reg = 0 ∨ i.reg = 1) ∧ (120 ≤ i.loc ∧ i.loc < 120 + L) ∧ i.a = ⟨0, 0⟩ ∧ i.op = 0 ∧ i.b = ⟨0, 0⟩ ∧ i.n = 0) ∨
  (i = ⟨3, 0, 0, ⟨0, 0⟩, 0, ⟨0, 0⟩, 0⟩) ∨
  (i.kind = 4 ∧ (i.reg = 0 ∨ i.reg = 1) ∧ (120 ≤ i.loc ∧ i.loc < 120 + L) ∧ opdOk i.a ∧ i.op = 0 ∧ i.b = ⟨-1, 1⟩ ∧ i.n = 0) ∨
  (i.kind = 5 ∧ (i.reg = 0 ∨ i.reg = 1) ∧ i.loc = 0 ∧ opdOk i.a ∧ i.op = 6 ∧ i.b = ⟨-1, 1⟩ ∧ i.n = 0) ∨
  (i.kind = 6 ∧ i.reg = 0 ∧ i.loc = 0 ∧ opdOk i.a ∧ i.op = 0 ∧ i.b = ⟨-1, 0⟩ ∧ i.n = 1)

/-- How many instructions touch memory (a fence does not count). -/
def memC (c : List Ins) : Nat := c.countP fun i => decide (i.kind = 1 ∨ i.kind = 2 ∨ i.kind = 4)

/-- Instructions one behind the other, a skip ahead of a store. -/
inductive ThrOk (L : Int) : Nat → List Ins → Prop
  | nil : ThrOk L 0 []
  | one {k : Nat} {c : List Ins} {i : Ins} : ThrOk L k c → SmI L i → i.kind ≠ 6 → ThrOk L (k + 1) (c ++ [i])
  | two {k : Nat} {c : List Ins} {i j : Ins} : ThrOk L k c → SmI L i → i.kind = 6 → SmI L j → j.kind = 1 → ThrOk L (k + 1) (c ++ [i, j])

theorem ThrOk.len {L : Int} {k : Nat} {c : List Ins} (t : ThrOk L k c) : c.length ≤ 2 * k := by
  induction t with
  | nil => simp
  | one _ _ _ ih => rw [List.length_append]; simp; omega
  | two _ _ _ _ _ ih => rw [List.length_append]; simp; omega

theorem ThrOk.all {L : Int} {k : Nat} {c : List Ins} (t : ThrOk L k c) : ∀ i ∈ c, SmI L i := by
  induction t with
  | nil => simp
  | one _ h _ ih =>
    intro i hi
    rcases List.mem_append.1 hi with hi | hi
    · exact ih i hi
    · simp at hi; subst hi; exact h
  | two _ h _ h' _ ih =>
    intro i hi
    rcases List.mem_append.1 hi with hi | hi
    · exact ih i hi
    · simp at hi; rcases hi with rfl | rfl
      · exact h
      · exact h'

theorem memC_app (a b : List Ins) : memC (a ++ b) = memC a + memC b := by unfold memC; rw [List.countP_append]

/-- Some more elements at the end. -/
theorem Own.appM {n : Nat} {h : AHeap} {x : Cell} {esz len bytes m : Nat} {cs xs : List Cell} (o : Own n h x esz cs len) (hn : n ≤ h.length) (hx : xs.length = m * esz) (hm : 0 < m) (he : 0 < esz) (h1 : (len + m) * bytes ≤ maxBytes) (h2 : len + m ≤ maxBytes) :
    ∃ x' h', (∀ {α : Type} (f : Cell → AHeap → Option α), appK esz bytes x xs h f = f x' h') ∧ Own n h' x' esz (cs ++ xs) (len + m) ∧ Kp n h h' := by
  have hd : xs.length / esz = m := by rw [hx]; exact Nat.mul_div_cancel _ he
  have hpos : 0 < xs.length := by rw [hx]; exact Nat.mul_pos hm he
  rcases o.2 with ⟨rfl, rfl⟩ | ⟨k, rfl, hk, hb⟩
  · have hcs : cs = [] := List.length_eq_zero_iff.1 (by have := o.1; omega)
    subst hcs
    refine ⟨.sl h.length xs.length 0 m, h ++ [some ⟨true, esz, xs⟩], fun f => ?_, ⟨by simp [hx], .inr ⟨h.length, by simp, hn, by rw [List.nil_append]; exact blk_new _ _⟩⟩, Kp.app _ hn⟩
    unfold appK; simp only; rw [if_neg (by omega), hd, if_pos ⟨by rw [Nat.zero_add] at h1; exact h1, by omega⟩]
  · have hl := o.1
    refine ⟨.sl k (len * esz + xs.length) 0 (len + m), setBlk h k (some ⟨true, esz, cs ++ xs⟩), fun f => ?_, ⟨by simp [hl, hx, Nat.add_mul], .inr ⟨k, by simp [hl], hk, blk_set_self (blk_lt' hb) _⟩⟩, Kp.set hk _⟩
    unfold appK; simp only; rw [hb, Option.bind_some]; dsimp only
    rw [if_pos ⟨rfl, rfl, rfl, by omega, by rw [hd]; exact h1, by rw [hd]; exact h2⟩, if_neg (by omega), if_pos trivial, hd, List.take_of_length_le (by omega)]

section
variable {E : Env}

theorem shr_nn {x k : Int} (hx : 0 ≤ x) : 0 ≤ E.glob.shr .i64 x k := by
  show 0 ≤ x.fdiv (2 ^ min k.toNat 64)
  exact Int.fdiv_nonneg hx (Int.le_of_lt (Int.pow_pos (by omega)))
theorem rem_rng {x m : Int} (hx : 0 ≤ x) (hm : 0 < m) : 0 ≤ E.glob.rem .i64 x m ∧ E.glob.rem .i64 x m < m := by
  rw [g_rem, Int.tmod_eq_emod_of_nonneg hx]
  exact ⟨Int.emod_nonneg _ (by omega), Int.emod_lt_of_pos _ hm⟩
theorem g_band1 {x : Int} : E.glob.band .i64 x 1 = x % 2 := by
  show IntKind.wrap .i64 ((BitVec.ofInt 64 x &&& BitVec.ofInt 64 1).toNat : Nat) = _
  have h1 : (BitVec.ofInt 64 x &&& BitVec.ofInt 64 1).toNat = (BitVec.ofInt 64 x).toNat % 2 := by
    rw [BitVec.toNat_and]
    have : (BitVec.ofInt 64 1).toNat = 2 ^ 1 - 1 := by decide
    rw [this, Nat.and_two_pow_sub_one_eq_mod]
  rw [h1, BitVec.toNat_ofInt]
  have h3 : ((((x % ((2 ^ 64 : Nat) : Int)).toNat % 2 : Nat) : Int)) = x % 2 := by omega
  rw [h3]
  exact wrap_i64 (by omega) (by omega)
theorem band1_rng (x : Int) : E.glob.band .i64 x 1 = 0 ∨ E.glob.band .i64 x 1 = 1 := by rw [g_band1]; omega

theorem g_band16 {x : Int} : 0 ≤ E.glob.band .i64 x 65535 ∧ E.glob.band .i64 x 65535 < 65536 := by
  have h : E.glob.band .i64 x 65535 = x % 65536 := by
    show IntKind.wrap .i64 ((BitVec.ofInt 64 x &&& BitVec.ofInt 64 65535).toNat : Nat) = _
    have h1 : (BitVec.ofInt 64 x &&& BitVec.ofInt 64 65535).toNat = (BitVec.ofInt 64 x).toNat % 65536 := by
      rw [BitVec.toNat_and]
      have : (BitVec.ofInt 64 65535).toNat = 2 ^ 16 - 1 := by decide
      rw [this, Nat.and_two_pow_sub_one_eq_mod]
    rw [h1, BitVec.toNat_ofInt]
    have h3 : ((((x % ((2 ^ 64 : Nat) : Int)).toNat % 65536 : Nat) : Int)) = x % 65536 := by omega
    rw [h3]
    exact wrap_i64 (by omega) (by omega)
  rw [h]; omega

/-- Where the row of numbers and the place in it lie. -/
def VarsAt (h0 : AHeap) (x : Cell) (h : AHeap) (m : Nat) : Prop :=
  blk? h h0.length = some ⟨true, 0, [x]⟩ ∧ blk? h (h0.length + 1) = some ⟨true, 0, [.int .i64 (m : Int)]⟩ ∧ h0.length + 2 ≤ h.length ∧ Kp h0.length h0 h

def nxF (h0 : AHeap) : Cell := .fn 115 [(h0.length + 1, 1, 0), (h0.length, 1, 0)]

theorem VarsAt.keep {h0 h h' : AHeap} {x : Cell} {m : Nat} (v : VarsAt h0 x h m) (hk : Kp (h0.length + 2) h h') : VarsAt h0 x h' m :=
  ⟨by rw [hk.blk (by omega)]; exact v.1, by rw [hk.blk (by omega)]; exact v.2.1, Nat.le_trans v.2.2.1 hk.1, v.2.2.2.trans (hk.mono (by omega))⟩

theorem rd1' {α : Type} {h : AHeap} {k : Nat} {a : Cell} (hk : blk? h k = some ⟨true, 0, [a]⟩) {F : List Cell → Option α} : rdH h k 1 F = F [a] := rdH_ok hk rfl

/-- The next number. -/
theorem next_R (hE : jacquardlaw3_Small_1_In E) {h0 h : AHeap} {x : Cell} {l : List Int} {m : Nat} (hx : SlAt h0 x 1 (intC .i64 l) l.length) (hlow : Low h0.length x) (hl : l.length < 9223372036854775808) (v : VarsAt h0 x h m) (hm : m < 100000) :
    ∃ r : Int, 0 ≤ r ∧ r < 65536 ∧ (∀ {α : Type} (F : AV → AHeap → Option α), (fnK (nxF h0) fun g cs => c1 (R E g ([] ++ cs) h) F) = F (.c (.int .i64 r)) (setBlk h (h0.length + 1) (some ⟨true, 0, [.int .i64 ((m + 1 : Nat) : Int)]⟩))) ∧
      VarsAt h0 x (setBlk h (h0.length + 1) (some ⟨true, 0, [.int .i64 ((m + 1 : Nat) : Int)]⟩)) (m + 1) := by
  obtain ⟨v1, v2, v3, v4⟩ := v
  have b2 : blk? (setBlk h (h0.length + 1) (some ⟨true, 0, [.int .i64 ((m + 1 : Nat) : Int)]⟩)) (h0.length + 1) = some ⟨true, 0, [.int .i64 ((m + 1 : Nat) : Int)]⟩ := blk_set_self (blk_lt' v2) _
  have b1 : blk? (setBlk h (h0.length + 1) (some ⟨true, 0, [.int .i64 ((m + 1 : Nat) : Int)]⟩)) h0.length = some ⟨true, 0, [x]⟩ := by rw [blk_set_ne (by omega)]; exact v1
  have kk : Kp h0.length h0 (setBlk h (h0.length + 1) (some ⟨true, 0, [.int .i64 ((m + 1 : Nat) : Int)]⟩)) := v4.trans (Kp.set (by omega) _)
  have hx' := hx.keep hlow kk
  have hV : VarsAt h0 x (setBlk h (h0.length + 1) (some ⟨true, 0, [.int .i64 ((m + 1 : Nat) : Int)]⟩)) (m + 1) := ⟨b1, b2, by rw [setBlk_len]; exact v3, kk⟩
  have hb : jacquardlaw3_Small_1.body (R E) Lim E.glob [.c (.ptr (h0.length + 1) 1 0), .c (.ptr h0.length 1 0)] h = some ([.c (.int .i64 (if m + 1 > l.length then 0 else E.glob.band .i64 (l.getD m 0) 65535))], setBlk h (h0.length + 1) (some ⟨true, 0, [.int .i64 ((m + 1 : Nat) : Int)]⟩)) := by
    rw [jacquardlaw3_Small_1_eq, rd1' v2, atK_ok (i := 0) (c := .int .i64 (m : Int)) rfl, asI_ok, rd1' v2, if_pos (by simp), g_succ (by omega), putH_ok v2 rfl]
    dsimp only [List.set]
    rw [rd1' b2, atK_ok (i := 0) (c := .int .i64 ((m + 1 : Nat) : Int)) rfl, asI_ok, rd1' b1, atK_ok (i := 0) (c := x) rfl, hx'.len]
    by_cases hgt : m + 1 > l.length
    · rw [if_pos (by simp; omega), if_pos hgt]
    · rw [if_neg (by simp; omega), if_neg hgt, rd1' b1, atK_ok (i := 0) (c := x) rfl, rd1' b2, atK_ok (i := 0) (c := .int .i64 ((m + 1 : Nat) : Int)) rfl, asI_ok, g_wrap_i64 (by omega) (by omega), show ((m + 1 : Nat) : Int) - 1 = (m : Int) by omega, hx'.get1 (show m < l.length by omega) (intC_get (getDI (by omega))), asI_ok]
  refine ⟨if m + 1 > l.length then 0 else E.glob.band .i64 (l.getD m 0) 65535, ?_, ?_, fun F => ?_, hV⟩
  · split
    · omega
    · exact g_band16.1
  · split
    · omega
    · exact g_band16.2
  · show c1 (R E 115 [.c (.ptr (h0.length + 1) 1 0), .c (.ptr h0.length 1 0)] h) F = _
    rw [R_intro hE.fn hb, c1_ok]

end
end Jq

/- Tests made of numbers: one instruction more. -/
namespace Jq
open Go

section
variable {E : Env}

/-- What one round comes to. -/
def OneMore (E : Env) (most : Int) (fnc : Cell) (n L : Int) (mem : Nat) (i : Int) (k : Int) (s0 s1 : List Cell) (N kk : Nat) (c : List Ins) (h : AHeap) (o : Option (Ex × St)) : Prop :=
  ∃ (c2 : List Ins) (mem2 : Nat) (xs2 : Cell) (h2 : AHeap), o = some (.normal, jacquardlaw3_Small_s1 most fnc n L (mem2 : Int) i xs2 (k - 1) s0 s1 h2) ∧ ThrOk L (kk + 1) c2 ∧ memC c2 + mem = memC c + mem2 ∧ mem ≤ mem2 ∧ mem2 ≤ mem + 1 ∧
    Own N h2 xs2 9 (codeC c2) c2.length ∧ Kp N h h2

variable {most : Int} {fnc : Cell} {n L : Int} {mem : Nat} {i : Int} {xs : Cell} {k loc x r m : Int} {s0 s1 : List Cell} {v : Opd} {h : AHeap} {N kk : Nat} {c : List Ins}

theorem one_ins {f : Cell → AHeap → Option (Ex × St)} {mem2 : Nat} {j : Ins} (hxs : Own N h xs 9 (codeC c) c.length) (hN : N ≤ h.length) (hc : c.length ≤ 100) (t : ThrOk L kk c) (hj : SmI L j) (h6 : j.kind ≠ 6)
    (hm2 : mem2 = mem + memC [j]) (hf : ∀ x' h', f x' h' = some (.normal, jacquardlaw3_Small_s1 most fnc n L (mem2 : Int) i x' (k - 1) s0 s1 h')) :
    OneMore E most fnc n L mem i k s0 s1 N kk c h (appK 9 72 xs j.cs h f) := by
  have hm : maxBytes ≥ 200 * 72 := by unfold maxBytes; omega
  obtain ⟨x', h', ha, ho, hk, _⟩ := hxs.app (bytes := 72) (xs := j.cs) hN rfl (by omega) (by omega) (by omega)
  have h1 : memC [j] ≤ 1 := by unfold memC; exact Nat.le_trans (List.countP_le_length) (by simp)
  refine ⟨c ++ [j], mem2, x', h', by rw [ha, hf], t.one hj h6, by rw [memC_app, hm2]; omega, by omega, by omega, ?_, hk⟩
  rw [codeC_snoc, List.length_append, List.length_singleton]; exact ho

theorem memC_yes {j : Ins} (h : j.kind = 1 ∨ j.kind = 2 ∨ j.kind = 4) : memC [j] = 1 := by unfold memC; rw [List.countP_cons, List.countP_nil]; simp [h]
theorem memC_no {j : Ins} (h : ¬ (j.kind = 1 ∨ j.kind = 2 ∨ j.kind = 4)) : memC [j] = 0 := by unfold memC; rw [List.countP_cons, List.countP_nil]; simp [h]

theorem small_st (hxs : Own N h xs 9 (codeC c) c.length) (hN : N ≤ h.length) (hc : c.length ≤ 100) (t : ThrOk L kk c) (hv : opdOk v) (hloc : 120 ≤ loc ∧ loc < 120 + L) (hmem : mem < 1000) (hk : 0 ≤ k ∧ k ≤ 3) {b : Bool} (hb : b = true) :
    OneMore E most fnc n L mem i k s0 s1 N kk c h ((jacquardlaw3_Small_k13 (R E) Lim E.glob) .normal (jacquardlaw3_Small_c3 most fnc n L (mem : Int) i xs k loc r m b s0 s1 v.cs h)) := by
  have e : splice (splice (splice (List.replicate 9 (Cell.int .i64 0)) 0 ([(.int .i64 1)] : List Cell)) 2 ([(.int .i64 loc)] : List Cell)) 3 v.cs = (Ins.mk 1 0 loc v 0 ⟨0, 0⟩ 0).cs := rfl
  rw [jacquardlaw3_Small_ec3_n, if_pos hb, if_pos ⟨rfl, rfl⟩, if_pos ⟨rfl, by simp [splice]⟩, e, if_pos ⟨rfl, by simp⟩, ins_splice, if_pos (ins_len19 _)]
  refine one_ins (mem2 := mem + 1) hxs hN hc t (.inl ⟨rfl, rfl, hloc, hv, rfl, rfl, rfl⟩) (by simp) (by rw [memC_yes (.inl rfl)]) fun x' h' => ?_
  rw [g_succ (by omega), g_wrap_i64 (by omega) (by omega)]

theorem small_ld (hxs : Own N h xs 9 (codeC c) c.length) (hN : N ≤ h.length) (hc : c.length ≤ 100) (t : ThrOk L kk c) (hr : r = 0 ∨ r = 1) (hloc : 120 ≤ loc ∧ loc < 120 + L) (hmem : mem < 1000) (hk : 0 ≤ k ∧ k ≤ 3) {b : Bool} (hb : b = true) {s2 : List Cell} :
    OneMore E most fnc n L mem i k s0 s1 N kk c h ((jacquardlaw3_Small_k14 (R E) Lim E.glob) .normal (jacquardlaw3_Small_c4 most fnc n L (mem : Int) i xs k loc r m b s0 s1 s2 h)) := by
  have e : splice (splice (splice (List.replicate 9 (Cell.int .i64 0)) 0 ([(.int .i64 2)] : List Cell)) 1 ([(.int .i64 r)] : List Cell)) 2 ([(.int .i64 loc)] : List Cell) = (Ins.mk 2 r loc ⟨0, 0⟩ 0 ⟨0, 0⟩ 0).cs := rfl
  rw [jacquardlaw3_Small_ec4_n, if_pos hb, e, if_pos ⟨rfl, by simp⟩, ins_splice, if_pos (ins_len19 _)]
  refine one_ins (mem2 := mem + 1) hxs hN hc t (.inr (.inl ⟨rfl, hr, hloc, rfl, rfl, rfl, rfl⟩)) (by simp) (by rw [memC_yes (.inr (.inl rfl))]) fun x' h' => ?_
  rw [g_succ (by omega), g_wrap_i64 (by omega) (by omega)]

theorem mb2 {k : Nat} (hk : k ≤ 100) : (k + 2) * 72 ≤ maxBytes ∧ k + 2 ≤ maxBytes := by
  have hm : maxBytes ≥ 200 * 72 := by unfold maxBytes; omega
  omega

theorem z18_len2 (a b : Ins) : (codeC [a, b]).length = 2 * 9 := by rw [codeC_len]; rfl

theorem two_ins {f : Cell → AHeap → Option (Ex × St)} {j q : Ins} (hxs : Own N h xs 9 (codeC c) c.length) (hN : N ≤ h.length) (hc : c.length ≤ 100) (t : ThrOk L kk c) (hj : SmI L j) (h6 : j.kind = 6) (hq : SmI L q) (h1 : q.kind = 1)
    (hf : ∀ x' h', f x' h' = some (.normal, jacquardlaw3_Small_s1 most fnc n L ((mem + 1 : Nat) : Int) i x' (k - 1) s0 s1 h')) :
    OneMore E most fnc n L mem i k s0 s1 N kk c h (appK 9 72 xs (codeC [j, q]) h f) := by
  obtain ⟨f1, f2⟩ := mb2 hc
  obtain ⟨x', h', ha, ho, hkp⟩ := hxs.appM hN (z18_len2 j q) Nat.zero_lt_two (Nat.succ_pos 8) f1 f2
  have e4 : codeC (c ++ [j, q]) = codeC c ++ codeC [j, q] := by simp [codeC]
  refine ⟨c ++ [j, q], mem + 1, x', h', by rw [ha, hf], t.two hj h6 hq h1, ?_, by omega, by omega, ?_, hkp⟩
  · rw [memC_app]
    have : memC [j, q] = 1 := by
      show memC ([j] ++ [q]) = 1
      rw [memC_app, memC_no (by omega), memC_yes (.inl h1)]
    omega
  · rw [e4, List.length_append]; exact ho

theorem z18_len : 0 + 9 ≤ (List.replicate 18 (Cell.int .i64 0)).length := by rw [List.length_replicate]; omega
theorem z18_one (a : Ins) : 9 + 9 ≤ (splice (List.replicate 18 (Cell.int .i64 0)) 0 a.cs).length := by
  unfold splice
  rw [List.length_append, List.length_append, List.length_drop, List.length_take, List.length_replicate, Ins.len]; omega
theorem z18_two (a b : Ins) : splice (splice (List.replicate 18 (Cell.int .i64 0)) 0 a.cs) 9 b.cs = codeC [a, b] := rfl

theorem small_other (hxs : Own N h xs 9 (codeC c) c.length) (hN : N ≤ h.length) (hc : c.length ≤ 100) (t : ThrOk L kk c) (hL : 0 < L) (hv : opdOk v) (hr : r = 0 ∨ r = 1) (hloc : 120 ≤ loc ∧ loc < 120 + L) (hmem : mem < 1000) (hk : 0 ≤ k ∧ k ≤ 3) {b : Bool} (hb : b = false) :
    OneMore E most fnc n L mem i k s0 s1 N kk c h ((jacquardlaw3_Small_k14 (R E) Lim E.glob) .normal (jacquardlaw3_Small_c4 most fnc n L (mem : Int) i xs k loc r m b s0 s1 v.cs h)) := by
  have hm : maxBytes ≥ 200 * 72 := by unfold maxBytes; omega
  rw [jacquardlaw3_Small_ec4_n, if_neg (by rw [hb]; simp)]
  by_cases h8 : m = 8
  · have e : splice (List.replicate 9 (Cell.int .i64 0)) 0 ([(.int .i64 3)] : List Cell) = (Ins.mk 3 0 0 ⟨0, 0⟩ 0 ⟨0, 0⟩ 0).cs := rfl
    rw [if_pos (by rw [h8]; rfl), e, if_pos ⟨rfl, by simp⟩, ins_splice, if_pos (ins_len19 _)]
    refine one_ins (mem2 := mem) hxs hN hc t (.inr (.inr (.inl rfl))) (by simp) (by rw [memC_no (by simp)]; rfl) fun x' h' => ?_
    rw [g_wrap_i64 (by omega) (by omega)]
  · rw [if_neg (by rw [beq_iff_eq]; exact h8)]
    by_cases h9 : m = 9
    · have e : splice (splice (splice (splice (splice (List.replicate 9 (Cell.int .i64 0)) 0 ([(.int .i64 4)] : List Cell)) 1 ([(.int .i64 r)] : List Cell)) 2 ([(.int .i64 loc)] : List Cell)) 3 v.cs) 6 (splice (splice [Cell.int .i64 0, Cell.int .i64 0] 0 ([(.int .i64 (-1))] : List Cell)) 1 ([(.int .i64 1)] : List Cell)) = (Ins.mk 4 r loc v 0 ⟨-1, 1⟩ 0).cs := rfl
      rw [if_pos (by rw [h9]; rfl), if_pos ⟨rfl, rfl⟩, if_pos ⟨rfl, by simp [splice]⟩, if_pos ⟨rfl, by simp [splice, Opd.cs]⟩, e, if_pos ⟨rfl, by simp⟩, ins_splice, if_pos (ins_len19 _)]
      refine one_ins (mem2 := mem + 1) hxs hN hc t (.inr (.inr (.inr (.inl ⟨rfl, hr, hloc, hv, rfl, rfl, rfl⟩)))) (by simp) (by rw [memC_yes (.inr (.inr rfl))]) fun x' h' => ?_
      rw [g_succ (by omega), g_wrap_i64 (by omega) (by omega)]
    · rw [if_neg (by rw [beq_iff_eq]; exact h9)]
      by_cases h10 : m = 10
      · have e : splice (splice (splice (splice (splice (List.replicate 9 (Cell.int .i64 0)) 0 ([(.int .i64 5)] : List Cell)) 1 ([(.int .i64 r)] : List Cell)) 3 v.cs) 5 ([(.int .i64 6)] : List Cell)) 6 (splice (splice [Cell.int .i64 0, Cell.int .i64 0] 0 ([(.int .i64 (-1))] : List Cell)) 1 ([(.int .i64 1)] : List Cell)) = (Ins.mk 5 r 0 v 6 ⟨-1, 1⟩ 0).cs := rfl
        rw [if_pos (by rw [h10]; rfl), if_pos ⟨rfl, rfl⟩, if_pos ⟨rfl, by simp [splice]⟩, if_pos ⟨rfl, by simp [splice, Opd.cs]⟩, if_pos ⟨rfl, by simp [splice, Opd.cs]⟩, e, if_pos ⟨rfl, by simp⟩, ins_splice, if_pos (ins_len19 _)]
        refine one_ins (mem2 := mem) hxs hN hc t (.inr (.inr (.inr (.inr (.inl ⟨rfl, hr, rfl, hv, rfl, rfl, rfl⟩))))) (by simp) (by rw [memC_no (by simp)]; rfl) fun x' h' => ?_
        rw [g_wrap_i64 (by omega) (by omega)]
      · have e1 : splice (splice (splice (splice (List.replicate 9 (Cell.int .i64 0)) 0 ([(.int .i64 6)] : List Cell)) 3 v.cs) 6 (splice [Cell.int .i64 0, Cell.int .i64 0] 0 ([(.int .i64 (-1))] : List Cell))) 8 ([(.int .i64 1)] : List Cell) = (Ins.mk 6 0 0 v 0 ⟨-1, 0⟩ 1).cs := rfl
        have e2 : splice (splice (splice (List.replicate 9 (Cell.int .i64 0)) 0 ([(.int .i64 1)] : List Cell)) 2 ([(.int .i64 loc)] : List Cell)) 3 (splice (splice [Cell.int .i64 0, Cell.int .i64 0] 0 ([(.int .i64 (-1))] : List Cell)) 1 ([(.int .i64 2)] : List Cell)) = (Ins.mk 1 0 loc ⟨-1, 2⟩ 0 ⟨0, 0⟩ 0).cs := rfl
        rw [if_neg (by rw [beq_iff_eq]; exact h10), if_pos ⟨rfl, rfl⟩, if_pos ⟨rfl, by simp [splice]⟩, if_pos ⟨rfl, by simp [splice, Opd.cs]⟩, if_pos ⟨rfl, by simp [splice, Opd.cs]⟩, if_pos ⟨rfl, by simp [splice]⟩, e1, e2, if_pos ⟨Ins.len _, z18_len⟩, if_pos ⟨Ins.len _, z18_one _⟩, z18_two, if_pos (z18_len2 _ _)]
        have hL2 : (2 : Int) < 3 ∧ (0 : Int) ≤ 2 := ⟨by decide, by decide⟩
        have hst : SmI L (Ins.mk 1 0 loc ⟨-1, 2⟩ 0 ⟨0, 0⟩ 0) := .inl ⟨rfl, rfl, hloc, .inl ⟨rfl, hL2.2, hL2.1⟩, rfl, rfl, rfl⟩
        have hsk : SmI L (Ins.mk 6 0 0 v 0 ⟨-1, 0⟩ 1) := .inr (.inr (.inr (.inr (.inr ⟨rfl, rfl, rfl, hv, rfl, rfl, rfl⟩))))
        refine two_ins hxs hN hc t hsk rfl hst rfl fun x' h' => ?_
        rw [g_succ (by omega), g_wrap_i64 (by omega) (by omega)]

theorem small_case (hxs : Own N h xs 9 (codeC c) c.length) (hN : N ≤ h.length) (hc : c.length ≤ 100) (t : ThrOk L kk c) (hL : 0 < L) (hv : opdOk v) (hx : 0 ≤ x) (hloc : 120 ≤ loc ∧ loc < 120 + L) (hmem : mem < 1000) (hk : 0 ≤ k ∧ k ≤ 3) :
    OneMore E most fnc n L mem i k s0 s1 N kk c h ((jacquardlaw3_Small_k11 (R E) Lim E.glob) .normal (jacquardlaw3_Small_c2 most fnc n L (mem : Int) i xs k x loc s0 s1 v.cs h)) := by
  have hr := band1_rng (E := E) (E.glob.shr .i64 x 11)
  have hm := rem_rng (E := E) hx (show (0 : Int) < 12 by omega)
  rw [jacquardlaw3_Small_ec2_n]
  generalize E.glob.band .i64 (E.glob.shr .i64 x 11) 1 = r at *
  generalize E.glob.rem .i64 x 12 = m at *
  by_cases h0 : m = 0
  · rw [if_pos (by rw [h0]; rfl), bind_ok]; exact small_st hxs hN hc t hv hloc hmem hk (by rw [h0]; rfl)
  rw [if_neg (by rw [beq_iff_eq]; exact h0)]
  by_cases h1 : m = 1
  · rw [if_pos (by rw [h1]; rfl), bind_ok]; exact small_st hxs hN hc t hv hloc hmem hk (by rw [h1]; rfl)
  rw [if_neg (by rw [beq_iff_eq]; exact h1)]
  by_cases h2 : m = 2
  · rw [if_pos (by rw [h2]; rfl), bind_ok]; exact small_st hxs hN hc t hv hloc hmem hk (by rw [h2]; rfl)
  rw [if_neg (by rw [beq_iff_eq]; exact h2), bind_ok]
  by_cases h3 : m = 3
  · exact small_st hxs hN hc t hv hloc hmem hk (by rw [h3]; rfl)
  rw [jacquardlaw3_Small_ec3_n, if_neg (by rw [beq_iff_eq]; exact h3)]
  by_cases h4 : m = 4
  · rw [if_pos (by rw [h4]; rfl), bind_ok]; exact small_ld hxs hN hc t hr hloc hmem hk (by rw [h4]; rfl)
  rw [if_neg (by rw [beq_iff_eq]; exact h4)]
  by_cases h5 : m = 5
  · rw [if_pos (by rw [h5]; rfl), bind_ok]; exact small_ld hxs hN hc t hr hloc hmem hk (by rw [h5]; rfl)
  rw [if_neg (by rw [beq_iff_eq]; exact h5)]
  by_cases h6 : m = 6
  · rw [if_pos (by rw [h6]; rfl), bind_ok]; exact small_ld hxs hN hc t hr hloc hmem hk (by rw [h6]; rfl)
  rw [if_neg (by rw [beq_iff_eq]; exact h6), bind_ok]
  by_cases h7 : m = 7
  · exact small_ld hxs hN hc t hr hloc hmem hk (by rw [h7]; rfl)
  exact small_other hxs hN hc t hL hv hr hloc hmem hk (by rw [beq_eq_false_iff_ne]; exact h7)

end
end Jq

/- Tests made of numbers: all of them are small, and may be. -/
namespace Jq
open Go

/-- The first so many blocks are as they were, but for one. -/
def KpX (a n : Nat) (h h' : AHeap) : Prop := h.length ≤ h'.length ∧ ∀ k, k < n → k ≠ a → h'[k]? = h[k]?

theorem KpX.refl (a n : Nat) (h : AHeap) : KpX a n h h := ⟨Nat.le_refl _, fun _ _ _ => rfl⟩
theorem KpX.trans {a n : Nat} {h h' h'' : AHeap} (x : KpX a n h h') (y : KpX a n h' h'') : KpX a n h h'' := ⟨Nat.le_trans x.1 y.1, fun k hk ha => (y.2 k hk ha).trans (x.2 k hk ha)⟩
theorem KpX.mono {a n m : Nat} {h h' : AHeap} (x : KpX a n h h') (hm : m ≤ n) : KpX a m h h' := ⟨x.1, fun k hk ha => x.2 k (by omega) ha⟩
theorem Kp.x {a n : Nat} {h h' : AHeap} (x : Kp n h h') : KpX a n h h' := ⟨x.1, fun k hk _ => x.2 k hk⟩
theorem KpX.set (a n : Nat) (h : AHeap) (b : Option Blk) : KpX a n h (setBlk h a b) := ⟨by simp [setBlk], fun j _ ha => by unfold setBlk; rw [List.getElem?_set_ne (fun e => ha e.symm)]⟩
theorem KpX.blk {a n : Nat} {h h' : AHeap} (x : KpX a n h h') {k : Nat} (hk : k < n) (ha : k ≠ a) : blk? h' k = blk? h k := by unfold blk?; rw [x.2 k hk ha]

theorem Own.keepX {a n : Nat} {h h' : AHeap} {x : Cell} {esz len : Nat} {cs : List Cell} (o : Own n h x esz cs len) (ha : a < n) (hk : KpX a h.length h h') : Own n h' x esz cs len := by
  refine ⟨o.1, o.2.imp id ?_⟩
  rintro ⟨k, e, hn, hb⟩
  exact ⟨k, e, hn, by rw [hk.blk (blk_lt' hb) (by omega)]; exact hb⟩
theorem RowsOwn.keepX {α : Type} {esz : Nat} {C : List α → List Cell} {a n : Nat} {h h' : AHeap} {y : Cell} {rows : List (List α)} (r : RowsOwn esz C n h y rows) (ha : a < n) (hk : KpX a h.length h h') : RowsOwn esz C n h' y rows := by
  obtain ⟨ts, h1, h2⟩ := r
  exact ⟨ts, h1.keepX ha hk, fun t r hr => by obtain ⟨x, x1, x2, x3⟩ := h2 t r hr; exact ⟨x, x1, x2.keepX ha hk, x3⟩⟩

structure GoodT (most : Nat) (T : PTest) : Prop where
  name : T.name.size ≤ 20
  n : 2 ≤ T.thr.length ∧ T.thr.length ≤ 3
  code : ∃ L : Int, (L = 2 ∨ L = 3) ∧ ∀ c ∈ T.thr, ∃ k, k ≤ 3 ∧ ThrOk L k c
  mem : (T.thr.map memC).sum ≤ most
  inits : T.inits = [] ∨ ∃ v : Int, 0 ≤ v ∧ v < 3 ∧ T.inits = [(120, v)]
  any : T.any.length ≤ 2 ∧ ∀ row ∈ T.any, row.length ≤ 2 ∧ ∀ a ∈ row, a.loc = 0 ∨ a.loc = 120

section
variable {E : Env}

theorem opd_reg {r : Int} : splice [Cell.int .i64 0, Cell.int .i64 0] 0 ([(.int .i64 r)] : List Cell) = (Opd.mk r 0).cs := rfl
theorem opd_num {v : Int} : splice (splice [Cell.int .i64 0, Cell.int .i64 0] 0 ([(.int .i64 (-1))] : List Cell)) 1 ([(.int .i64 v)] : List Cell) = (Opd.mk (-1) v).cs := rfl

/-- A thread's instructions. -/
theorem small_thr (hE : jacquardlaw3_Small_1_In E) {h0 : AHeap} {x : Cell} {l : List Int} (hx : SlAt h0 x 1 (intC .i64 l) l.length) (hlow : Low h0.length x) (hl : l.length < 9223372036854775808)
    {most : Nat} (hmost : most ≤ 900) {n i L : Int} (hL : L = 2 ∨ L = 3) (s0 s1 : List Cell) (N : Nat) (hN0 : h0.length + 2 ≤ N) : ∀ (k mem m kk : Nat) (c : List Ins) (xs : Cell) (h : AHeap), k ≤ 3 → kk + k ≤ 10 → mem ≤ most → m + k < 1000 →
      VarsAt h0 x h m → N ≤ h.length → Own N h xs 9 (codeC c) c.length → ThrOk L kk c →
      ∃ (mem' m' kk' : Nat) (c' : List Ins) (xs' : Cell) (h' : AHeap), Lim (jacquardlaw3_Small_F1 (R E) Lim E.glob) (jacquardlaw3_Small_s1 (most : Int) (nxF h0) n L (mem : Int) i xs (k : Int) s0 s1 h) = some (.exit 2, jacquardlaw3_Small_x1_3 (most : Int) (nxF h0) n L (mem' : Int) i xs' s0 s1 h') ∧
        ThrOk L kk' c' ∧ kk' ≤ kk + k ∧ memC c' + mem = memC c + mem' ∧ mem' ≤ most ∧ VarsAt h0 x h' m' ∧ m' ≤ m + k ∧ N ≤ h'.length ∧ Own N h' xs' 9 (codeC c') c'.length ∧ KpX (h0.length + 1) N h h' := by
  intro k
  induction k with
  | zero =>
    intro mem m kk c xs h _ _ hmem _ hv hN ho ht
    refine ⟨mem, m, kk, c, xs, h, Lim_exit ?_, ht, by omega, by omega, hmem, hv, by omega, hN, ho, KpX.refl _ _ _⟩
    rw [jacquardlaw3_Small_r1, show decide (((0 : Nat) : Int) > 0) = false from rfl, scK_ft, if_neg (by simp)]
  | succ k ih =>
    intro mem m kk c xs h hk hkk hmem hm hv hN ho ht
    by_cases hmm : mem < most
    · obtain ⟨r, r0, r1, hF, hv2⟩ := next_R hE hx hlow hl hv (by omega)
      have hLp : 0 < L := by omega
      have hset : KpX (h0.length + 1) N h (setBlk h (h0.length + 1) (some ⟨true, 0, [.int .i64 ((m + 1 : Nat) : Int)]⟩)) := KpX.set _ _ _ _
      have ho2 := ho.keepX (show h0.length + 1 < N by omega) (KpX.set (h0.length + 1) h.length h (some ⟨true, 0, [.int .i64 ((m + 1 : Nat) : Int)]⟩))
      have hN2 : N ≤ (setBlk h (h0.length + 1) (some ⟨true, 0, [.int .i64 ((m + 1 : Nat) : Int)]⟩)).length := by rw [setBlk_len]; exact hN
      generalize setBlk h (h0.length + 1) (some ⟨true, 0, [.int .i64 ((m + 1 : Nat) : Int)]⟩) = H at *
      have q4 := rem_rng (E := E) (shr_nn (E := E) (k := 4) r0) hLp
      have q6 := rem_rng (E := E) (shr_nn (E := E) (k := 6) r0) (show (0 : Int) < 3 by omega)
      have hb1 := band1_rng (E := E) (E.glob.shr .i64 r 10)
      have hclen := ht.len
      have hcase : ∀ v : Opd, opdOk v → OneMore E (most : Int) (nxF h0) n L mem i ((k + 1 : Nat) : Int) s0 s1 N kk c H ((jacquardlaw3_Small_k11 (R E) Lim E.glob) .normal (jacquardlaw3_Small_c2 (most : Int) (nxF h0) n L (mem : Int) i xs ((k + 1 : Nat) : Int) r (120 + E.glob.rem .i64 (E.glob.shr .i64 r 4) L) s0 s1 v.cs H)) := by
        intro v hvv
        exact small_case ho2 hN2 (by omega) ht hLp hvv r0 ⟨by omega, by omega⟩ (by omega) ⟨by omega, by omega⟩
      have hround : ∃ v : Opd, opdOk v ∧ jacquardlaw3_Small_F1 (R E) Lim E.glob (jacquardlaw3_Small_s1 (most : Int) (nxF h0) n L (mem : Int) i xs ((k + 1 : Nat) : Int) s0 s1 h) = (jacquardlaw3_Small_k11 (R E) Lim E.glob) .normal (jacquardlaw3_Small_c2 (most : Int) (nxF h0) n L (mem : Int) i xs ((k + 1 : Nat) : Int) r (120 + E.glob.rem .i64 (E.glob.shr .i64 r 4) L) s0 s1 v.cs H) := by
        have hw : E.glob.wrap .i64 (120 + E.glob.rem .i64 (E.glob.shr .i64 r 4) L) = 120 + E.glob.rem .i64 (E.glob.shr .i64 r 4) L := g_wrap_i64 (by omega) (by omega)
        rw [jacquardlaw3_Small_r1, show decide (((k + 1 : Nat) : Int) > 0) = true from decide_eq_true (by omega), scK_ok, bind_ok]
        dsimp only
        rw [if_pos (decide_eq_true (by omega)), hF, asI_ok, if_neg (by omega)]
        rw [hw, opd_num, opd_reg, if_pos ⟨rfl, rfl, rfl⟩]
        by_cases h8 : (E.glob.rem .i64 (E.glob.shr .i64 r 8) 3 == 0) = true
        · refine ⟨⟨E.glob.band .i64 (E.glob.shr .i64 r 10) 1, 0⟩, .inr ⟨hb1, rfl⟩, ?_⟩
          rw [if_pos h8, if_pos ⟨rfl, rfl, rfl⟩, bind_ok]
        · refine ⟨⟨-1, E.glob.rem .i64 (E.glob.shr .i64 r 6) 3⟩, .inl ⟨rfl, q6.1, q6.2⟩, ?_⟩
          rw [if_neg h8, bind_ok]
      obtain ⟨v, hvv, hround⟩ := hround
      obtain ⟨c2, mem2, xs2, h2, g1, g2, g3, g4, g5, g6, g7⟩ := hcase v hvv
      rw [g1, show ((k + 1 : Nat) : Int) - 1 = (k : Int) by omega] at hround
      obtain ⟨mem', m', kk', c', xs', h', f1, f2, f3, f4, f5, f6, f7, f8, f9, f10⟩ := ih mem2 (m + 1) (kk + 1) c2 xs2 h2 (by omega) (by omega) (by omega) (by omega) (hv2.keep (g7.mono hN0)) (Nat.le_trans hN2 g7.1) g6 g2
      exact ⟨mem', m', kk', c', xs', h', Lim_next hround f1, f2, by omega, by omega, f5, f6, by omega, f8, f9, (hset.trans g7.x).trans f10⟩
    · refine ⟨mem, m, kk, c, xs, h, Lim_exit ?_, ht, by omega, by omega, hmem, hv, by omega, hN, ho, KpX.refl _ _ _⟩
      rw [jacquardlaw3_Small_r1, show decide (((k + 1 : Nat) : Int) > 0) = true from decide_eq_true (by omega), scK_ok, bind_ok]
      dsimp only
      rw [if_neg (by simp; omega)]

theorem sum_app_one (l : List (List Ins)) (c : List Ins) : ((l ++ [c]).map memC).sum = (l.map memC).sum + memC c := by
  rw [List.map_append, List.sum_append]; simp

/-- All threads. -/
theorem small_thrs (hE : jacquardlaw3_Small_1_In E) {h0 : AHeap} {x : Cell} {l : List Int} (hx : SlAt h0 x 1 (intC .i64 l) l.length) (hlow : Low h0.length x) (hl : l.length < 9223372036854775808)
    {most : Nat} (hmost : most ≤ 900) {n : Nat} (hn : n ≤ 3) {L : Int} (hL : L = 2 ∨ L = 3) (s0 : List Cell) (a : Cell) {name : ByteArray} {Nb : Nat} (hNb : h0.length + 2 ≤ Nb) : ∀ (q i mem m : Nat) (rows : List (List Ins)) (y : Cell) (h : AHeap), i + q = n → rows.length = i → mem ≤ most → m + 4 * q < 900 →
      (rows.map memC).sum = mem → (∀ c ∈ rows, ∃ k, k ≤ 3 ∧ ThrOk L k c) → VarsAt h0 x h m → Nb ≤ h.length → RowsOwn 9 codeC Nb h y rows →
      ∃ (mem' m' : Nat) (rows' : List (List Ins)) (y' : Cell) (h' : AHeap), Lim (jacquardlaw3_Small_F2 (R E) Lim E.glob) (jacquardlaw3_Small_s2 (most : Int) (nxF h0) (n : Int) L (mem : Int) (i : Int) s0 [.str name, a, y, .int .i64 0, .nils] h) = some (.exit 0, jacquardlaw3_Small_x2_1 (nxF h0) s0 [.str name, a, y', .int .i64 0, .nils] h') ∧
        rows'.length = n ∧ mem' ≤ most ∧ (rows'.map memC).sum = mem' ∧ (∀ c ∈ rows', ∃ k, k ≤ 3 ∧ ThrOk L k c) ∧ VarsAt h0 x h' m' ∧ m' ≤ m + 4 * q ∧ Nb ≤ h'.length ∧ RowsOwn 9 codeC Nb h' y' rows' ∧ KpX (h0.length + 1) Nb h h' := by
  intro q
  induction q with
  | zero =>
    intro i mem m rows y h hi hr hmem _ hs hc hv hN hy
    refine ⟨mem, m, rows, y, h, Lim_exit ?_, by omega, hmem, hs, hc, hv, by omega, hN, hy, KpX.refl _ _ _⟩
    rw [jacquardlaw3_Small_r2, if_neg (by simp; omega)]
  | succ q ih =>
    intro i mem m rows y h hi hr hmem hm hs hc hv hN hy
    obtain ⟨r, r0, r1, hF, hv2⟩ := next_R hE hx hlow hl hv (by omega)
    have hset : KpX (h0.length + 1) Nb h (setBlk h (h0.length + 1) (some ⟨true, 0, [.int .i64 ((m + 1 : Nat) : Int)]⟩)) := KpX.set _ _ _ _
    have hy2 := hy.keepX (show h0.length + 1 < Nb by omega) (KpX.set (h0.length + 1) h.length h (some ⟨true, 0, [.int .i64 ((m + 1 : Nat) : Int)]⟩))
    have hN2 : Nb ≤ (setBlk h (h0.length + 1) (some ⟨true, 0, [.int .i64 ((m + 1 : Nat) : Int)]⟩)).length := by rw [setBlk_len]; exact hN
    generalize setBlk h (h0.length + 1) (some ⟨true, 0, [.int .i64 ((m + 1 : Nat) : Int)]⟩) = H at *
    have q3 := rem_rng (E := E) r0 (show (0 : Int) < 3 by omega)
    obtain ⟨k, hk⟩ : ∃ k : Nat, E.glob.rem .i64 r 3 + 1 = (k : Int) := ⟨(E.glob.rem .i64 r 3 + 1).toNat, by omega⟩
    obtain ⟨mem', m', kk', c', xs', h', f1, f2, f3, f4, f5, f6, f7, f8, f9, f10⟩ := small_thr hE hx hlow hl hmost (n := n) (i := (i : Int)) hL s0 [.str name, a, y, .int .i64 0, .nils] H.length (Nat.le_trans hNb hN2) k mem (m + 1) 0 [] .nils H (by omega) (by omega) hmem (by omega) hv2 (Nat.le_refl _) (Own.nil _ _ _) ThrOk.nil
    have hy3 := hy2.keepX (show h0.length + 1 < Nb by omega) f10
    obtain ⟨y2, h2, hap, hyp, hkp, _⟩ := hy3.push (f9.monoN hN2) (fun j h1 h2 => by have := (f9.blkLt h1).2; have := (hy2.blkLt h2).1; omega) (Nat.le_trans hN2 f8) (by omega)
    have hm0 : memC c' + mem = mem' := by have : memC ([] : List Ins) = 0 := rfl; omega
    have hround : jacquardlaw3_Small_F2 (R E) Lim E.glob (jacquardlaw3_Small_s2 (most : Int) (nxF h0) (n : Int) L (mem : Int) (i : Int) s0 [.str name, a, y, .int .i64 0, .nils] h) = some (.normal, jacquardlaw3_Small_s2 (most : Int) (nxF h0) (n : Int) L (mem' : Int) ((i + 1 : Nat) : Int) s0 [.str name, a, y2, .int .i64 0, .nils] h2) := by
      have hw : E.glob.wrap .i64 (E.glob.rem .i64 r 3 + 1) = (k : Int) := by rw [g_wrap_i64 (by omega) (by omega), hk]
      rw [jacquardlaw3_Small_r2, if_pos (by simp; omega), hF, asI_ok, hw, f1, bind_ok, jacquardlaw3_Small_e1_3, show ∀ {α : Type} (f : Cell → Option α), atK [.str name, a, y, .int .i64 0, .nils] 2 f = f y from fun _ => rfl, if_pos (show (splice [Cell.nils] 0 ([xs'] : List Cell)).length = 1 * 1 from rfl), show splice [Cell.nils] 0 ([xs'] : List Cell) = [xs'] from rfl, hap, if_pos (show 2 < ([.str name, a, y, .int .i64 0, .nils] : List Cell).length by simp), g_succ (by omega)]
      rfl
    obtain ⟨mem3, m3, rows3, y3, h3, g1, g2, g3, g4, g5, g6, g7, g8, g9, g10⟩ := ih (i + 1) mem' m' (rows ++ [c']) y2 h2 (by omega) (by rw [List.length_append, List.length_singleton]; omega) f5 (by omega) (by rw [sum_app_one]; omega)
      (fun c hcm => by
        rcases List.mem_append.1 hcm with hcm | hcm
        · exact hc c hcm
        · simp at hcm; subst hcm; exact ⟨kk', by omega, f2⟩) (f6.keep (hkp.mono hNb)) (Nat.le_trans (Nat.le_trans hN2 f8) hkp.1) hyp
    exact ⟨mem3, m3, rows3, y3, h3, Lim_next hround g1, g2, g3, g4, g5, g6, by omega, g8, g9, ((hset.trans (f10.mono hN2)).trans hkp.x).trans g10⟩

end
end Jq

/- A test made ready by the program. -/
namespace Jq
open Go

theorem plc_get {c : Int} : ∀ (l : List Int) (i : Nat), c ∈ l → ∃ j : Nat, plc l c i = ((i + j : Nat) : Int) ∧ l[j]? = some c
  | [], _, h => by cases h
  | d :: t, i, h => by
    rw [plc]
    by_cases e : d = c
    · exact ⟨0, by rw [if_pos e]; rfl, by rw [e]; rfl⟩
    · rw [if_neg e]
      have hm : c ∈ t := by
        rcases List.mem_cons.1 h with h | h
        · exact absurd h.symm e
        · exact h
      obtain ⟨j, h1, h2⟩ := plc_get t (i + 1) hm
      exact ⟨j + 1, by rw [h1]; congr 1; omega, by simpa using h2⟩

section
variable {E : Env}

end
end Jq

/- A test made ready by the program: the whole. -/
namespace Jq
open Go

def mixL {α : Type} (f : α → α) (l : List α) (i : Nat) : List α := (l.take i).map f ++ l.drop i
theorem KpX.kp {a n m : Nat} {h h' : AHeap} (x : KpX a n h h') (h1 : m ≤ n) (h2 : m ≤ a) : Kp m h h' := ⟨x.1, fun k hk => x.2 k (by omega) (by omega)⟩

section
variable {E : Env}

end
end Jq

namespace Jq
open Go

/- jacquard/jacquardlaw6.Of: 76 -/
set_option maxRecDepth 100000 in
theorem jacquardlaw6_Of_eq (C : CallF) (L : LoopF) (G : Glo) (x0 : Cell) (a1 : Int) (h0 : AHeap) :
    jacquardlaw6_Of.body C L G [(.c x0), (.c (.int .i64 a1))] h0 =
    c1 (C 97 [(.c x0), (.c (.int .i64 a1))] h0) fun y_2 h_1 => asA y_2 fun l_3 => c1 (C 101 [(.agg l_3)] h_1) fun y_5 h_4 => asA y_5 fun l_6 => if 0 = 0 ∧ [Cell.nils, Cell.nils, Cell.nils].length = 3 ∧ l_6.length = 3 then if 0 = 0 ∧ l_6.length = 3 then some ([(.agg l_6)], h_4) else none else none := by kernel_rfl


end Jq

/- Tests made of numbers, and their programs. -/
namespace Jq
open Go

section
variable {E : Env}

def tName : ByteArray := ByteArray.mk #[116]

theorem small_end (hE : jacquardlaw3_Small_1_In E) {h0 h hb : AHeap} {x : Cell} {l : List Int} (hx : SlAt h0 x 1 (intC .i64 l) l.length) (hlow : Low h0.length x) (hl : l.length < 9223372036854775808) {m : Nat} (hv : VarsAt h0 x h m) (hm : m < 1000)
    {most : Nat} {rows : List (List Ins)} {a y : Cell} {inits : List (Int × Int)} {Nb : Nat} (hNb : h0.length + 2 ≤ Nb) (hN : Nb ≤ h.length) (hy : RowsOwn 9 codeC Nb h y rows) (ha : SlAt h a 2 (pairC inits) inits.length ∧ Low h.length a ∧ ∀ k, isBlk a k → k ≠ h0.length + 1)
    (hi : inits = [] ∨ ∃ v : Int, 0 ≤ v ∧ v < 3 ∧ inits = [(120, v)]) (hn : 2 ≤ rows.length ∧ rows.length ≤ 3) (hmem : (rows.map memC).sum ≤ most) (hc : ∃ L : Int, (L = 2 ∨ L = 3) ∧ ∀ c ∈ rows, ∃ k, k ≤ 3 ∧ ThrOk L k c) {s0 : List Cell} (hs0 : s0.length = 5) :
    ∃ (cs : List Cell) (h' : AHeap) (T : PTest), (jacquardlaw3_Small_k4 (R E) Lim E.glob hb) (.exit 0) (jacquardlaw3_Small_x2_1 (nxF h0) s0 [.str tName, a, y, .int .i64 0, .nils] h) = some ([.agg cs], h') ∧ TestAt h' cs T ∧ GoodT most T ∧ Kp h0.length h0 h' := by
  obtain ⟨r, r0, r1, hF, hv2⟩ := next_R hE hx hlow hl hv (by omega)
  have hset := KpX.set (h0.length + 1) h.length h (some ⟨true, 0, [.int .i64 ((m + 1 : Nat) : Int)]⟩)
  have hy2 := hy.keepX (show h0.length + 1 < Nb by omega) hset
  have ha2 : SlAt (setBlk h (h0.length + 1) (some ⟨true, 0, [.int .i64 ((m + 1 : Nat) : Int)]⟩)) a 2 (pairC inits) inits.length := by
    refine ⟨ha.1.1, ha.1.2.imp id ?_⟩
    rintro ⟨k, N, off, e, hh | ⟨b, hb, hN, hle, hat⟩⟩
    · exact ⟨k, N, off, e, .inl hh⟩
    · have hk := ha.2.2 k (by rw [e]; rfl)
      exact ⟨k, N, off, e, .inr ⟨b, by rw [blk_set_ne (fun q => hk q.symm)]; exact hb, hN, hle, hat⟩⟩
  have hal2 : Low (setBlk h (h0.length + 1) (some ⟨true, 0, [.int .i64 ((m + 1 : Nat) : Int)]⟩)).length a := by rw [setBlk_len]; exact ha.2.1
  rw [jacquardlaw3_Small_e2_1, hF, asI_ok]
  generalize setBlk h (h0.length + 1) (some ⟨true, 0, [.int .i64 ((m + 1 : Nat) : Int)]⟩) = H at *
  have q5 := rem_rng (E := E) (shr_nn (E := E) (k := 5) r0) (show (0 : Int) < 3 by omega)
  by_cases h3 : (E.glob.rem .i64 r 3 == 0) = true
  · rw [if_pos h3]
    dsimp only
    generalize E.glob.band .i64 (E.glob.shr .i64 r 3) 1 = b3
    generalize E.glob.band .i64 (E.glob.shr .i64 r 4) 1 = b4
    generalize E.glob.rem .i64 (E.glob.shr .i64 r 5) 3 = v5
    generalize E.glob.band .i64 (E.glob.shr .i64 r 7) 1 = b7
    generalize E.glob.wrap .i64 (E.glob.rem .i64 (E.glob.quo .i64 r 3) 2 + 1) = ck
    have e1 : splice (splice (splice [Cell.int .i64 0, Cell.int .i64 0, Cell.int .i64 0, Cell.int .i64 0] 0 ([(.int .i64 0)] : List Cell)) 1 ([(.int .i64 b3)] : List Cell)) 3 ([(.int .i64 b4)] : List Cell) = (Atm.mk 0 b3 0 b4).cs := rfl
    have e2 : splice (splice (splice [Cell.int .i64 0, Cell.int .i64 0, Cell.int .i64 0, Cell.int .i64 0] 0 ([(.int .i64 (-1))] : List Cell)) 2 ([(.int .i64 120)] : List Cell)) 3 ([(.int .i64 v5)] : List Cell) = (Atm.mk (-1) 0 120 v5).cs := rfl
    have e3 : splice (splice (splice [Cell.int .i64 0, Cell.int .i64 0, Cell.int .i64 0, Cell.int .i64 0] 0 ([(.int .i64 1)] : List Cell)) 1 ([(.int .i64 0)] : List Cell)) 3 ([(.int .i64 b7)] : List Cell) = (Atm.mk 1 0 0 b7).cs := rfl
    have e4 : ∀ a : Atm, splice [Cell.int .i64 0, Cell.int .i64 0, Cell.int .i64 0, Cell.int .i64 0] 0 a.cs = atmC [a] := fun _ => rfl
    have e5 : ∀ a b : Atm, splice (splice (List.replicate 8 (Cell.int .i64 0)) 0 a.cs) 4 b.cs = atmC [a, b] := fun _ _ => rfl
    have e6 : ∀ a b : Cell, splice (splice [Cell.nils, Cell.nils] 0 ([a] : List Cell)) 1 ([b] : List Cell) = [a, b] := fun _ _ => rfl
    have e7 : ∀ a b : Cell, splice (splice [Cell.int .i64 0, Cell.nils] 0 ([a] : List Cell)) 1 ([b] : List Cell) = [a, b] := fun _ _ => rfl
    have l1 : ∀ a : Atm, (atmC [a]).length = 4 := fun _ => rfl
    have l2 : ∀ a b : Atm, (atmC [a, b]).length = 8 := fun _ _ => rfl
    simp only [e1, e2, e3, e4, e5, e6, e7, l1, l2]
    rw [if_pos ⟨rfl, by simp⟩, if_pos trivial, if_pos ⟨rfl, by simp⟩, if_pos ⟨rfl, by simp [splice, Atm.cs]⟩, if_pos trivial, if_pos (by simp), if_pos (by simp), if_pos (by simp [splice]), if_pos (by simp [splice, hs0]), if_pos (by simp [splice])]
    have k1 : Kp H.length H (H ++ [some ⟨true, 4, atmC [⟨0, b3, 0, b4⟩]⟩]) := Kp.app _ (Nat.le_refl _)
    have n1 : (H ++ [some (Blk.mk true 4 (atmC [⟨0, b3, 0, b4⟩]))]).length = H.length + 1 := by simp
    have c1' : blk? (H ++ [some ⟨true, 4, atmC [⟨0, b3, 0, b4⟩]⟩]) H.length = some ⟨true, 4, atmC [⟨0, b3, 0, b4⟩]⟩ := blk_new _ _
    generalize H ++ [some (Blk.mk true 4 (atmC [⟨0, b3, 0, b4⟩]))] = H1 at *
    have k2 : Kp H.length H (H1 ++ [some ⟨true, 4, atmC [⟨-1, 0, 120, v5⟩, ⟨1, 0, 0, b7⟩]⟩]) := k1.trans (Kp.app _ (by omega))
    have n2 : (H1 ++ [some (Blk.mk true 4 (atmC [⟨-1, 0, 120, v5⟩, ⟨1, 0, 0, b7⟩]))]).length = H1.length + 1 := by simp
    have c2' : blk? (H1 ++ [some ⟨true, 4, atmC [⟨-1, 0, 120, v5⟩, ⟨1, 0, 0, b7⟩]⟩]) H1.length = some ⟨true, 4, atmC [⟨-1, 0, 120, v5⟩, ⟨1, 0, 0, b7⟩]⟩ := blk_new _ _
    have c1'' : blk? (H1 ++ [some ⟨true, 4, atmC [⟨-1, 0, 120, v5⟩, ⟨1, 0, 0, b7⟩]⟩]) H.length = some ⟨true, 4, atmC [⟨0, b3, 0, b4⟩]⟩ := blk_old c1' _
    generalize H1 ++ [some (Blk.mk true 4 (atmC [⟨-1, 0, 120, v5⟩, ⟨1, 0, 0, b7⟩]))] = H2 at *
    have k3 : Kp H.length H (H2 ++ [some ⟨true, 1, [Cell.sl H.length 4 0 1, Cell.sl H1.length 8 0 2]⟩]) := k2.trans (Kp.app _ (by omega))
    have c3' : blk? (H2 ++ [some ⟨true, 1, [Cell.sl H.length 4 0 1, Cell.sl H1.length 8 0 2]⟩]) H2.length = some ⟨true, 1, [Cell.sl H.length 4 0 1, Cell.sl H1.length 8 0 2]⟩ := blk_new _ _
    have c2'' : blk? (H2 ++ [some ⟨true, 1, [Cell.sl H.length 4 0 1, Cell.sl H1.length 8 0 2]⟩]) H1.length = some ⟨true, 4, atmC [⟨-1, 0, 120, v5⟩, ⟨1, 0, 0, b7⟩]⟩ := blk_old c2' _
    have c1''' : blk? (H2 ++ [some ⟨true, 1, [Cell.sl H.length 4 0 1, Cell.sl H1.length 8 0 2]⟩]) H.length = some ⟨true, 4, atmC [⟨0, b3, 0, b4⟩]⟩ := blk_old c1'' _
    have n3 : (H2 ++ [some (Blk.mk true 1 [Cell.sl H.length 4 0 1, Cell.sl H1.length 8 0 2])]).length = H2.length + 1 := by simp
    refine ⟨_, _, ⟨tName, inits, rows, ck, [[⟨0, b3, 0, b4⟩], [⟨-1, 0, 120, v5⟩, ⟨1, 0, 0, b7⟩]]⟩, rfl, ?_, ⟨(by show tName.size ≤ 20; decide), hn, hc, hmem, hi, by simp, ?_⟩, hv2.2.2.2.trans (k3.mono (by have := hv2.2.2.1; omega))⟩
    · refine ⟨a, y, .sl H2.length 2 0 2, by simp [splice], ⟨ha2.keep hal2 k3, Low_mono k3.1 hal2⟩, hy2.of.keep k3, ⟨[Cell.sl H.length 4 0 1, Cell.sl H1.length 8 0 2], ⟨rfl, .inr ⟨_, _, 0, rfl, .inr ⟨_, c3', rfl, by simp, fun j _ => by simp⟩⟩⟩, .inr (by omega), fun t r ht => ?_⟩⟩
      match t, ht with
      | 0, ht =>
        cases ht
        exact ⟨_, rfl, ⟨rfl, .inr ⟨_, _, 0, rfl, .inr ⟨_, c1''', rfl, by simp, fun j _ => by simp⟩⟩⟩, .inr (by omega)⟩
      | 1, ht =>
        cases ht
        exact ⟨_, rfl, ⟨rfl, .inr ⟨_, _, 0, rfl, .inr ⟨_, c2'', rfl, by simp, fun j _ => by simp⟩⟩⟩, .inr (by omega)⟩
      | t + 2, ht => simp at ht
    · intro row hr
      simp only [List.mem_cons, List.not_mem_nil, or_false] at hr
      rcases hr with rfl | rfl
      · exact ⟨by simp, fun a ha => by simp at ha; subst ha; exact .inl rfl⟩
      · refine ⟨by simp, fun a ha => ?_⟩
        simp at ha
        rcases ha with rfl | rfl
        · exact .inr rfl
        · exact .inl rfl
  · rw [if_neg h3, if_pos ⟨rfl, rfl⟩, if_pos ⟨rfl, hs0, rfl⟩, if_pos ⟨rfl, rfl⟩]
    refine ⟨_, _, ⟨tName, inits, rows, 0, []⟩, rfl, ⟨a, y, .nils, rfl, ⟨ha2, hal2⟩, hy2.of, ⟨[], ⟨rfl, .inl ⟨rfl, rfl⟩⟩, trivial, fun t r ht => by simp at ht⟩⟩, ⟨(by show tName.size ≤ 20; decide), hn, hc, hmem, hi, by simp, by simp⟩, hv2.2.2.2⟩

theorem Small_R (hE : jacquardlaw3_Small_In E) {h : AHeap} {x : Cell} {l : List Int} (hx : SlAt h x 1 (intC .i64 l) l.length) (hlow : Low h.length x) (hl : l.length < 9223372036854775808) {most : Nat} (hmost : most ≤ 900) :
    ∃ (cs : List Cell) (h' : AHeap) (T : PTest), R E 97 [.c x, .c (.int .i64 (most : Int))] h = some ([.agg cs], h') ∧ TestAt h' cs T ∧ GoodT most T ∧ Kp h.length h h' := by
  suffices hs : ∃ (cs : List Cell) (h' : AHeap) (T : PTest), jacquardlaw3_Small.body (R E) Lim E.glob [.c x, .c (.int .i64 (most : Int))] h = some ([.agg cs], h') ∧ TestAt h' cs T ∧ GoodT most T ∧ Kp h.length h h' by
    obtain ⟨cs, h', T, h1, h2⟩ := hs; exact ⟨cs, h', T, R_intro hE.fn h1, h2⟩
  have hc : AV.cells (.c x) = [x] := rfl
  have hl1 : ([x] : List Cell).length = 1 := rfl
  have hl0 : ([Cell.int .i64 0] : List Cell).length = 1 := rfl
  have hln : (h ++ [some (Blk.mk true 0 [x])]).length = h.length + 1 := by simp
  have hnm : splice [Cell.str (ByteArray.mk #[]), Cell.nils, Cell.nils, Cell.int .i64 0, Cell.nils] 0 ([(.str (ByteArray.mk #[116]))] : List Cell) = [.str tName, .nils, .nils, .int .i64 0, .nils] := rfl
  rw [jacquardlaw3_Small_eq, hc, hl1, hl0, hnm, if_pos ⟨rfl, rfl, rfl⟩, rd1' (blk_new _ _), if_pos (by simp), putH_ok (blk_new _ _) rfl, setBlk_last]
  dsimp only [List.set]
  rw [hln]
  have hv0 : VarsAt h x (h ++ [some ⟨true, 0, [x]⟩] ++ [some ⟨true, 0, [Cell.int .i64 0]⟩]) 0 := by
    refine ⟨blk_old (blk_new _ _) _, ?_, by simp, ?_⟩
    · have := blk_new (h ++ [some (Blk.mk true 0 [x])]) ⟨true, 0, [Cell.int .i64 0]⟩
      rw [hln] at this; exact this
    · rw [List.append_assoc]; exact Kp.app _ (Nat.le_refl _)
  have hlen0 : (h ++ [some (Blk.mk true 0 [x])] ++ [some (Blk.mk true 0 [Cell.int .i64 0])]).length = h.length + 2 := by simp
  generalize h ++ [some (Blk.mk true 0 [x])] ++ [some (Blk.mk true 0 [Cell.int .i64 0])] = H0 at *
  rw [show (Cell.fn 115 [(h.length + 1, 1, 0), (h.length, 1, 0)]) = nxF h from rfl]
  obtain ⟨a0, a0p, _, hF1, hv1⟩ := next_R hE.c115 hx hlow hl hv0 (by omega)
  rw [hF1, asI_ok]
  have hlen1 : (setBlk H0 (h.length + 1) (some ⟨true, 0, [.int .i64 ((0 + 1 : Nat) : Int)]⟩)).length = h.length + 2 := by rw [setBlk_len, hlen0]
  generalize setBlk H0 (h.length + 1) (some ⟨true, 0, [.int .i64 ((0 + 1 : Nat) : Int)]⟩) = H1 at *
  obtain ⟨a1, a1p, _, hF2, hv2⟩ := next_R hE.c115 hx hlow hl hv1 (by omega)
  rw [hF2, asI_ok]
  have hlen2 : (setBlk H1 (h.length + 1) (some ⟨true, 0, [.int .i64 ((0 + 1 + 1 : Nat) : Int)]⟩)).length = h.length + 2 := by rw [setBlk_len, hlen1]
  generalize setBlk H1 (h.length + 1) (some ⟨true, 0, [.int .i64 ((0 + 1 + 1 : Nat) : Int)]⟩) = H2 at *
  obtain ⟨a2, a2p, _, hF3, hv3⟩ := next_R hE.c115 hx hlow hl hv2 (by omega)
  rw [hF3, asI_ok]
  have hlen3 : (setBlk H2 (h.length + 1) (some ⟨true, 0, [.int .i64 ((0 + 1 + 1 + 1 : Nat) : Int)]⟩)).length = h.length + 2 := by rw [setBlk_len, hlen2]
  generalize setBlk H2 (h.length + 1) (some ⟨true, 0, [.int .i64 ((0 + 1 + 1 + 1 : Nat) : Int)]⟩) = H3 at *
  have n2 := rem_rng (E := E) a0p (show (0 : Int) < 2 by omega)
  have n3 := rem_rng (E := E) a1p (show (0 : Int) < 2 by omega)
  have w2 : E.glob.wrap .i64 (E.glob.rem .i64 a0 2 + 2) = E.glob.rem .i64 a0 2 + 2 := g_wrap_i64 (by omega) (by omega)
  have w3 : E.glob.wrap .i64 (E.glob.rem .i64 a1 2 + 2) = E.glob.rem .i64 a1 2 + 2 := g_wrap_i64 (by omega) (by omega)
  rw [w2, w3]
  obtain ⟨n, hn⟩ : ∃ n : Nat, E.glob.rem .i64 a0 2 + 2 = (n : Int) := ⟨(E.glob.rem .i64 a0 2 + 2).toNat, by omega⟩
  generalize hLL : E.glob.rem .i64 a1 2 + 2 = L at *
  rw [hn]
  -- what is there from the loops on
  have rest : ∀ (m : Nat) (H : AHeap) (a : Cell) (inits : List (Int × Int)), m ≤ 4 → VarsAt h x H m → SlAt H a 2 (pairC inits) inits.length → Low H.length a → (∀ k, isBlk a k → k ≠ h.length + 1) → (inits = [] ∨ ∃ v : Int, 0 ≤ v ∧ v < 3 ∧ inits = [(120, v)]) →
      ∃ (cs : List Cell) (h' : AHeap) (T : PTest), (jacquardlaw3_Small_k2 (R E) Lim E.glob h) .normal (jacquardlaw3_Small_c1 (most : Int) (nxF h) (n : Int) L [Cell.str (ByteArray.mk #[]), Cell.nils, Cell.nils, Cell.int .i64 0, Cell.nils] [.str tName, a, .nils, .int .i64 0, .nils] H) = some ([.agg cs], h') ∧ TestAt h' cs T ∧ GoodT most T ∧ Kp h.length h h' := by
    intro m H a inits hm hv ha hal had hi
    obtain ⟨mem', m', rows', y', H', f1, f2, f3, f4, f5, f6, f7, f8, f9, f10⟩ := small_thrs hE.c115 hx hlow hl hmost (n := n) (by omega) (L := L) (by omega) [Cell.str (ByteArray.mk #[]), Cell.nils, Cell.nils, Cell.int .i64 0, Cell.nils] a (name := tName) (Nb := H.length) hv.2.2.1 n 0 0 m [] .nils H (by omega) rfl (by omega) (by omega) rfl (by simp) hv (Nat.le_refl _) (RowsOwn.nil _)
    have ha' : SlAt H' a 2 (pairC inits) inits.length := by
      refine ⟨ha.1, ha.2.imp id ?_⟩
      rintro ⟨k, N, off, e, hh | ⟨b, hb, hN, hle, hat⟩⟩
      · exact ⟨k, N, off, e, .inl hh⟩
      · exact ⟨k, N, off, e, .inr ⟨b, by rw [f10.blk (blk_lt' hb) (had k (by rw [e]; rfl))]; exact hb, hN, hle, hat⟩⟩
    obtain ⟨cs, h', T, g1, g2, g3, g4⟩ := small_end hE.c115 (hb := h) hx hlow hl f6 (by omega) (most := most) (rows := rows') (a := a) (y := y') (inits := inits) (Nb := H.length) hv.2.2.1 f8 f9 ⟨ha', Low_mono f10.1 hal, had⟩ hi (by omega) (by omega) ⟨L, by omega, f5⟩ (s0 := [Cell.str (ByteArray.mk #[]), Cell.nils, Cell.nils, Cell.int .i64 0, Cell.nils]) rfl
    refine ⟨cs, h', T, ?_, g2, g3, g4⟩
    rw [jacquardlaw3_Small_ec1_n]
    have e0 : jacquardlaw3_Small_s2 (most : Int) (nxF h) (n : Int) L 0 0 [Cell.str (ByteArray.mk #[]), Cell.nils, Cell.nils, Cell.int .i64 0, Cell.nils] [.str tName, a, .nils, .int .i64 0, .nils] H = jacquardlaw3_Small_s2 (most : Int) (nxF h) (n : Int) L ((0 : Nat) : Int) ((0 : Nat) : Int) [Cell.str (ByteArray.mk #[]), Cell.nils, Cell.nils, Cell.int .i64 0, Cell.nils] [.str tName, a, .nils, .int .i64 0, .nils] H := rfl
    rw [e0, f1, bind_ok, g1]
  by_cases h4 : (E.glob.rem .i64 a2 4 == 0) = true
  · obtain ⟨a3, a3p, _, hF4, hv4⟩ := next_R hE.c115 hx hlow hl hv3 (by omega)
    have q3 := rem_rng (E := E) a3p (show (0 : Int) < 3 by omega)
    rw [if_pos h4, show ∀ {α : Type} (f : Cell → Option α), atK [Cell.str tName, .nils, .nils, .int .i64 0, .nils] 1 f = f .nils from fun _ => rfl, hF4, asI_ok]
    have hlen4 : (setBlk H3 (h.length + 1) (some ⟨true, 0, [.int .i64 ((0 + 1 + 1 + 1 + 1 : Nat) : Int)]⟩)).length = h.length + 2 := by rw [setBlk_len, hlen3]
    generalize setBlk H3 (h.length + 1) (some ⟨true, 0, [.int .i64 ((0 + 1 + 1 + 1 + 1 : Nat) : Int)]⟩) = H4 at *
    generalize E.glob.rem .i64 a3 3 = v at *
    have e1 : splice (splice [Cell.int .i64 0, Cell.int .i64 0] 0 ([(.int .i64 120)] : List Cell)) 1 ([(.int .i64 v)] : List Cell) = pairC [(120, v)] := rfl
    have e2 : splice [Cell.int .i64 0, Cell.int .i64 0] 0 (pairC [(120, v)]) = pairC [(120, v)] := rfl
    have hm : maxBytes ≥ 100 := by unfold maxBytes; omega
    have hap : ∀ {α : Type} (f : Cell → AHeap → Option α), appK 2 16 .nils (pairC [(120, v)]) H4 f = f (.sl H4.length 2 0 1) (H4 ++ [some ⟨true, 2, pairC [(120, v)]⟩]) := by
      intro α f
      unfold appK
      simp only
      rw [if_neg (by simp [pairC]), if_pos ⟨by simp [pairC]; omega, by simp [pairC]; omega⟩]
      simp [pairC]
    rw [e1, if_pos ⟨rfl, by simp⟩, e2, if_pos (show (pairC [(120, v)]).length = 1 * 2 from rfl), hap, if_pos (by simp), bind_ok]
    have hv5 : VarsAt h x (H4 ++ [some ⟨true, 2, pairC [(120, v)]⟩]) (0 + 1 + 1 + 1 + 1) := hv4.keep (Kp.app _ (by omega))
    exact rest (0 + 1 + 1 + 1 + 1) _ (.sl H4.length 2 0 1) [(120, v)] (by omega) hv5 ⟨rfl, .inr ⟨_, _, 0, rfl, .inr ⟨_, blk_new _ _, rfl, by simp, fun j _ => by simp⟩⟩⟩ (.inr (by simp)) (fun k hk => by have : H4.length = k := hk; omega) (.inr ⟨v, q3.1, q3.2, rfl⟩)
  · rw [if_neg h4, bind_ok]
    exact rest (0 + 1 + 1 + 1) _ .nils [] (by omega) hv3 ⟨rfl, .inl ⟨rfl, rfl⟩⟩ trivial (fun k hk => by cases hk) (.inl rfl)

end
end Jq

/- Laws of events: kinds, orders. -/
namespace Jq
open Go

section
variable {E : Env}

end
end Jq

/- Laws of events: kinds, orders. -/
namespace Jq
open Go

section
variable {E : Env}

/-- A row of a block of its own. -/
theorem SlAt.whole {h : AHeap} {k len esz : Nat} {cs : List Cell} {o : Bool} {e : Nat} (hb : blk? h k = some ⟨o, e, cs⟩) (hl : cs.length = len * esz) : SlAt h (.sl k cs.length 0 len) esz cs len :=
  ⟨hl, .inr ⟨k, _, 0, rfl, .inr ⟨_, hb, rfl, by omega, fun j _ => by simp⟩⟩⟩

end
end Jq

/- Programs made of numbers; what a thread's events are. -/
namespace Jq
open Go

/-- Skips lead to where they may. -/
def SkipOk (code : List Ins) : Prop := ∀ (j : Nat) (i : Ins), code[j]? = some i → i.kind = 6 → 0 ≤ i.n ∧ (j : Int) + 1 + i.n ≤ code.length

structure GoodP (most : Nat) (P : PProg) : Prop where
  small : P.small
  good : P.good
  n : 2 ≤ P.thr.length ∧ P.thr.length ≤ 3
  init : P.init.length ≤ 3
  locs : P.locs.length = P.init.length
  code : ∀ c ∈ P.thr, c.length ≤ 6
  skip : ∀ c ∈ P.thr, SkipOk c

theorem SmI.good {L : Int} {i : Ins} (s : SmI L i) {n : Nat} (hn : 1 ≤ n) : GoodI n i := by
  rcases s with ⟨h1, h2, _⟩ | ⟨h1, h2, _⟩ | rfl | ⟨h1, h2, _⟩ | ⟨h1, h2, _, _, h3, _⟩ | ⟨h1, h2, _, _, h3, _, h4⟩
  all_goals refine ⟨?_, ?_, ?_, ?_⟩ <;> (try simp only) <;> omega

theorem SmI.skip {L : Int} {i : Ins} (s : SmI L i) (h : i.kind = 6) : i.n = 1 := by
  rcases s with ⟨h1, _⟩ | ⟨h1, _⟩ | rfl | ⟨h1, _⟩ | ⟨h1, _⟩ | ⟨h1, h2, _, _, h3, _, h4⟩
  · omega
  · omega
  · simp at h
  · omega
  · omega
  · exact h4

theorem ThrOk.skip {L : Int} {k : Nat} {c : List Ins} (t : ThrOk L k c) : SkipOk c := by
  induction t with
  | nil => intro j i h; simp at h
  | @one k c q t hq h6 ih =>
    intro j i h hk
    rcases Nat.lt_or_ge j c.length with hj | hj
    · rw [List.getElem?_append_left hj] at h
      have := ih j i h hk
      rw [List.length_append]; simp; omega
    · rw [List.getElem?_append_right hj] at h
      have := List.mem_of_getElem? h
      rw [List.mem_singleton] at this
      subst this; exact absurd hk h6
  | @two k c q r t hq h6 hr hr1 ih =>
    intro j i h hk
    rcases Nat.lt_or_ge j c.length with hj | hj
    · rw [List.getElem?_append_left hj] at h
      have := ih j i h hk
      rw [List.length_append]; simp; omega
    · rw [List.getElem?_append_right hj] at h
      have h2 := getI_lt h
      simp only [List.length_cons, List.length_nil] at h2
      rcases (show j - c.length = 0 ∨ j - c.length = 1 by omega) with e | e
      · rw [e] at h
        cases h
        have := hq.skip hk
        rw [List.length_append]; simp; omega
      · rw [e] at h
        cases h
        omega

theorem compI_kn {locs : List Int} {i : Ins} : (compI locs i).kind = i.kind ∧ (compI locs i).n = i.n := by
  unfold compI; split <;> exact ⟨rfl, rfl⟩

theorem SkipOk.map {locs : List Int} {c : List Ins} (s : SkipOk c) : SkipOk (c.map (compI locs)) := by
  intro j i h hk
  rw [List.getElem?_map] at h
  cases hc : c[j]? with
  | none => rw [hc] at h; cases h
  | some q =>
    rw [hc] at h
    cases h
    rw [compI_kn.1] at hk
    rw [compI_kn.2, List.length_map]
    exact s j q hc hk

theorem compI_good {locs : List Int} {i : Ins} {n : Nat} (g : GoodI n i) : GoodI n (compI locs i) := by
  unfold compI
  split
  · exact ⟨g.1, g.2, g.3, g.4⟩
  · exact g

theorem SmI.loc {L : Int} {i : Ins} (s : SmI L i) : i.loc = 0 ∨ (120 ≤ i.loc ∧ i.loc < 120 + L) := by
  rcases s with ⟨h1, h2, h3, _⟩ | ⟨h1, h2, h3, _⟩ | rfl | ⟨h1, h2, h3, _⟩ | ⟨h1, h2, h3, _, _⟩ | ⟨h1, h2, h3, _, _, _⟩
  · exact .inr h3
  · exact .inr h3
  · exact .inl rfl
  · exact .inr h3
  · exact .inl h3
  · exact .inl h3

theorem locsF_few (S : Nat → Bool) (hS : ∀ b, 97 ≤ b → b < 120 → S b = false) : ∀ n, n ≤ 26 → (locsF S n).length ≤ n - 23
  | 0, _ => by simp [locsF]
  | n + 1, h => by
    have ih := locsF_few S hS n (by omega)
    rw [locsF_succ]
    split
    · rename_i hs
      have : ¬ 97 + n < 120 := fun hlt => by rw [hS _ (by omega) hlt] at hs; cases hs
      rw [List.length_append, List.length_singleton]; omega
    · omega

theorem GoodT.small {most : Nat} {T : PTest} (g : GoodT most T) : T.small := by
  obtain ⟨L, hL, hc⟩ := g.code
  refine ⟨?_, by have := g.n; omega, fun c hcm => ?_, by have := g.any.1; omega, fun c hcm => by have := (g.any.2 c hcm).1; omega⟩
  · rcases g.inits with h | ⟨v, _, _, h⟩ <;> rw [h] <;> simp
  · obtain ⟨k, hk, ht⟩ := hc c hcm
    have := ht.len; omega

theorem GoodT.few {most : Nat} {T : PTest} (g : GoodT most T) : (locsT T).length ≤ 3 := by
  obtain ⟨L, hL, hc⟩ := g.code
  refine Nat.le_trans (locsF_few (thereT T) (fun b h1 h2 => ?_) 26 (Nat.le_refl _)) (by omega)
  unfold thereT
  rw [Bool.or_eq_false_iff, Bool.or_eq_false_iff]
  refine ⟨⟨?_, ?_⟩, ?_⟩
  · rw [List.any_eq_false]
    intro p hp
    rcases g.inits with h | ⟨v, _, _, h⟩
    · rw [h] at hp; cases hp
    · rw [h] at hp
      rw [List.mem_singleton] at hp
      subst hp
      rw [beq_iff_eq]; simp only; omega
  · rw [List.any_eq_false]
    intro c hcm
    rw [Bool.not_eq_true, List.any_eq_false]
    intro i hi
    obtain ⟨k, hk, ht⟩ := hc c hcm
    rw [beq_iff_eq]
    have := (ht.all i hi).loc
    omega
  · rw [List.any_eq_false]
    intro c hcm
    rw [Bool.not_eq_true, List.any_eq_false]
    intro i hi
    rw [beq_iff_eq]
    have := (g.any.2 c hcm).2 i hi
    omega

theorem GoodT.goodP {most : Nat} {T : PTest} (g : GoodT most T) : GoodP most (compT T) := by
  obtain ⟨L, hL, hc⟩ := g.code
  have hlen : ∀ c ∈ T.thr, c.length ≤ 6 := fun c hcm => by
    obtain ⟨k, hk, ht⟩ := hc c hcm
    have := ht.len; omega
  have hcode : ∀ c ∈ (compT T).thr, c.length ≤ 6 := fun c hcm => by
    obtain ⟨d, hd, rfl⟩ := List.mem_map.1 hcm
    rw [List.length_map]; exact hlen d hd
  have hn : (compT T).thr.length = T.thr.length := List.length_map _
  have hi : (compT T).init.length = (locsT T).length := List.length_map _
  have hfew := g.few
  have hgn := g.n
  refine ⟨⟨by omega, fun c hcm => by have := hcode c hcm; omega⟩, ⟨⟨by omega, fun c hcm => by have := hcode c hcm; omega⟩, fun c hcm => ?_⟩, by omega, by omega, hi.symm, hcode, fun c hcm => by
    obtain ⟨d, hd, rfl⟩ := List.mem_map.1 hcm
    obtain ⟨k, hk, ht⟩ := hc d hd
    exact ht.skip.map⟩
  obtain ⟨d, hd, rfl⟩ := List.mem_map.1 hcm
  intro i him
  obtain ⟨j, hj, rfl⟩ := List.mem_map.1 him
  rw [List.length_map]
  obtain ⟨k, hk, ht⟩ := hc d hd
  exact compI_good ((ht.all j hj).good (List.length_pos_of_mem hj))

section
variable {E : Env}

end

/-- How many events read. -/
def rdc (l : List Evt) : Nat := l.countP evRd
def EvOk (t : Int) (all : List Int) (j n : Nat) (e : Evt) : Prop :=
  e.t = t ∧ e.i = (j : Int) ∧ 1 ≤ e.kind ∧ e.kind ≤ 5 ∧ (evWr e = false → e.w = 0) ∧ (evRd e = true → all[n]? = some e.r) ∧ (evRd e = false → e.r = 0)
def OutOk (t : Int) (all : List Int) (out : List Evt) : Prop := ∀ (j : Nat) (e : Evt), out[j]? = some e → EvOk t all j (rdc (out.take j)) e

theorem OutOk.nil (t : Int) (all : List Int) : OutOk t all [] := fun j e h => by simp at h
end Jq

/- Laws of threads step by step. -/
namespace Jq
open Go

section
variable {E : Env}

def T6 : PTest := ⟨ByteArray.mk #[97], [], [[⟨5, 0, 0, ⟨-1, 1⟩, 0, ⟨-1, 0⟩, 0⟩, ⟨1, 0, 120, ⟨0, 0⟩, 0, ⟨0, 0⟩, 0⟩]], 0, []⟩

end
end Jq

/- A skip leads over as many as it says. -/
namespace Jq
open Go

def incI : Ins := ⟨5, 0, 0, ⟨0, 0⟩, 1, ⟨-1, 1⟩, 0⟩
def skipI (a b n : Int) : Ins := ⟨6, 0, 0, ⟨-1, a⟩, 0, ⟨-1, b⟩, n⟩

section
variable {E : Env}

end
end Jq

/- Registers are what their numbers make of each other. -/
namespace Jq
open Go

def SetOk (i : Ins) : Prop := i.kind = 5 ∧ (0 ≤ i.reg ∧ i.reg < 4) ∧ 0 ≤ i.op ∧ i.op ≤ 11
def regsC (l : Lcl) : List Cell := [.int .i64 l.r0, .int .i64 l.r1, .int .i64 l.r2, .int .i64 l.r3]

/-- What a row of settings makes, one after another. -/
def setV (i : Ins) (l : Lcl) : Lcl := l.setR i.reg ((doV i.op (opV i.a l) (opV i.b l)).getD (opV i.a l))

section
variable {E : Env}

/-- A setting made of a number. -/
def mkOp (E : Env) (x : Int) : Int := E.glob.rem .i64 (E.glob.band .i64 (E.glob.shr .i64 x 4) 255) 12
def mkRaw (E : Env) (x : Int) : Ins := ⟨5, E.glob.band .i64 x 3, 0, ⟨E.glob.band .i64 (E.glob.shr .i64 x 2) 3, 0⟩, mkOp E x, ⟨E.glob.band .i64 (E.glob.shr .i64 x 12) 3, 0⟩, 0⟩
def mkI (E : Env) (x : Int) : Ins := if mkOp E x = 0 then { mkRaw E x with b := ⟨-1, 0⟩ } else mkRaw E x

def setsBase (a b : Int) : List Ins := [⟨5, 0, 0, ⟨-1, a⟩, 0, ⟨-1, 0⟩, 0⟩, ⟨5, 1, 0, ⟨-1, b⟩, 0, ⟨-1, 0⟩, 0⟩]

end
end Jq

namespace Jq
open Go


end Jq

/- Stores that wait. -/
namespace Jq
open Go

structure Ent where
  loc : Int
  val : Int
  id : Int
  deriving DecidableEq
def Ent.cs (e : Ent) : List Cell := [.int .i64 e.loc, .int .i64 e.val, .int .i64 e.id]
def entsC (l : List Ent) : List Cell := l.flatMap Ent.cs
theorem entsC_len : ∀ l : List Ent, (entsC l).length = l.length * 3
  | [] => rfl
  | s :: l => by simp only [entsC, List.flatMap_cons, List.length_append]; rw [show (l.flatMap _).length = _ from entsC_len l]; simp [Ent.cs]; omega
theorem entsC_get : ∀ (l : List Ent) (i : Nat) (s : Ent), l[i]? = some s → ∀ j, j < 3 → (entsC l)[i * 3 + j]? = s.cs[j]?
  | [], _, _, h, _, _ => by simp at h
  | q :: l, 0, s, h, j, hj => by
    simp at h; subst h
    rw [show entsC (q :: l) = q.cs ++ entsC l from rfl, List.getElem?_append_left (by simp [Ent.cs]; omega)]; congr 1; omega
  | q :: l, i + 1, s, h, j, hj => by
    have := entsC_get l i s (by simpa using h) j hj
    rw [show entsC (q :: l) = q.cs ++ entsC l from rfl, List.getElem?_append_right (by simp [Ent.cs]; omega), ← this]
    congr 1; simp [Ent.cs]; omega

/-- A row of stores, as it lies in memory. -/
def bufC (m : Int) (l : List Ent) : List Cell := [.int .i64 m, .int .i64 (l.length : Int)] ++ (entsC l ++ List.replicate (72 - l.length * 3) (.int .i64 0))
theorem bufC_len (m : Int) {l : List Ent} (h : l.length ≤ 24) : (bufC m l).length = 74 := by
  unfold bufC; rw [List.length_append, List.length_append, entsC_len, List.length_replicate]; simp; omega
/-- Where the one stands that comes to memory first. -/
def oldP (m loc : Int) (e : Ent) : Bool := m == 2 || e.loc == loc
def oldI (m loc : Int) (l : List Ent) : Int := match l.findIdx? (oldP m loc) with | some i => i | none => -1
def newE (loc : Int) (l : List Ent) : Option Ent := l.reverse.find? fun e => e.loc == loc

/-- A loop that looks for the first. -/
theorem Lim_find {α : Type} {F : St → Option (Ex × St)} (S r : Nat → St) (x : St) (e : Nat) (l : List α) (p : α → Bool) (hs : ∀ (i : Nat) (q : α), l[i]? = some q → F (S i) = if p q = true then some (.ret, r i) else some (.normal, S (i + 1))) (he : F (S l.length) = some (.exit e, x)) :
    Lim F (S 0) = some (match l.findIdx? p with | some i => (.ret, r i) | none => (.exit e, x)) := by
  have key : ∀ (t : List α) (i : Nat), l.drop i = t → i ≤ l.length → Lim F (S i) = some (match t.findIdx? p with | some k => (.ret, r (i + k)) | none => (.exit e, x)) := by
    intro t
    induction t with
    | nil =>
      intro i hd hi
      have : l.length ≤ i := by
        have := congrArg List.length hd
        rw [List.length_drop, List.length_nil] at this; omega
      obtain rfl : i = l.length := by omega
      rw [Lim_exit he]; rfl
    | cons q t ih =>
      intro i hd hi
      have hlt : i < l.length := by
        have := congrArg List.length hd
        rw [List.length_drop, List.length_cons] at this; omega
      have hq : l[i]? = some q := by rw [← List.head?_drop, hd]; rfl
      have hd2 : l.drop (i + 1) = t := by rw [← List.drop_drop, hd]; rfl
      have h1 := hs i q hq
      rw [List.findIdx?_cons]
      cases hp : p q with
      | true =>
        rw [hp, if_pos rfl] at h1
        rw [Lim_ret h1, if_pos rfl]; rfl
      | false =>
        rw [hp, if_neg (by simp)] at h1
        rw [Lim_next h1 (ih (i + 1) hd2 (by omega)), if_neg (by simp)]
        cases t.findIdx? p with
        | none => rfl
        | some k => show some (Ex.ret, r (i + 1 + k)) = some (Ex.ret, r (i + (k + 1))); rw [show i + 1 + k = i + (k + 1) by omega]
  have := key l 0 rfl (Nat.zero_le _)
  rw [this]
  cases l.findIdx? p with
  | none => rfl
  | some k => simp

section
variable {E : Env}

theorem entsC_append (a b : List Ent) : entsC (a ++ b) = entsC a ++ entsC b := by simp [entsC]

end
end Jq

/- Is a test one that may be, as the document says? -/
namespace Jq
open Go

theorem dec_iff {p : Prop} [Decidable p] {b : Bool} (h : p ↔ b = true) : decide p = b := by
  rw [Bool.eq_iff_iff, decide_eq_true_eq]; exact h

theorem cs1 (i : Ins) : decide (i.cs = (⟨i.kind, 0, i.loc, i.a, 0, ⟨0, 0⟩, 0⟩ : Ins).cs) = (((i.reg == 0 && i.op == 0) && decide (i.b.cs = [Cell.int .i64 0, Cell.int .i64 0])) && i.n == 0) := by
  refine dec_iff ?_
  simp [Ins.cs, Opd.cs, and_assoc]
theorem cs2 (i : Ins) : decide (i.cs = (⟨i.kind, i.reg, i.loc, ⟨0, 0⟩, 0, ⟨0, 0⟩, 0⟩ : Ins).cs) = (((decide (i.a.cs = [Cell.int .i64 0, Cell.int .i64 0]) && i.op == 0) && decide (i.b.cs = [Cell.int .i64 0, Cell.int .i64 0])) && i.n == 0) := by
  refine dec_iff ?_
  simp [Ins.cs, Opd.cs, and_assoc]
theorem cs4 (i : Ins) : decide (i.cs = (⟨i.kind, i.reg, i.loc, i.a, 0, i.b, 0⟩ : Ins).cs) = (i.op == 0 && i.n == 0) := by
  refine dec_iff ?_
  simp [Ins.cs]
theorem cs5 (i : Ins) : decide (i.cs = (⟨i.kind, i.reg, 0, i.a, i.op, i.b, 0⟩ : Ins).cs) = (i.loc == 0 && i.n == 0) := by
  refine dec_iff ?_
  simp [Ins.cs]
section
variable {E : Env}

end
end Jq

/- Is a test one that may be, as the document says? -/
namespace Jq
open Go

def atB {α : Type} (l : List α) (f : Nat → α → Bool) (i : Nat) : Bool := match l[i]? with | some q => f i q | none => false
theorem atB_ok {α : Type} {l : List α} {f : Nat → α → Bool} {i : Nat} {q : α} (h : l[i]? = some q) : atB l f i = f i q := by unfold atB; rw [h]
def memB (a : Atm) : Bool := (a.thread == -1 && a.reg == 0) && locB a.loc
def ownB (a : Atm) : Bool := ((((decide (a.thread ≥ 0) && decide (a.thread ≤ 9)) && decide (a.reg ≥ 0)) && decide (a.reg ≤ 3)) && a.loc == 0)
section
variable {E : Env}

end
end Jq

/- Is a program one that may be? -/
namespace Jq
open Go

def hasB (P : PProg) (n : Int) : Bool := decide (n ≥ 0) && decide (n < (P.locs.length : Int))
def locBad (l : List Int) (i : Nat) (c : Int) : Bool := !locB c || (decide ((i : Int) > 0) && decide (c ≤ l.getD (i - 1) 0))
def thrBad (P : PProg) (c : List Ins) : Bool := (decide ((c.length : Int) > 10) || !jmpB c) || c.any fun i => !fldB (hasB P) i
def sizeBad (P : PProg) : Bool := ((((P.thr.length : Int) == 0 || decide ((P.thr.length : Int) > 4)) || decide ((P.locs.length : Int) > 4)) || ((P.init.length : Int) != (P.locs.length : Int))) || decide (sumL P.thr > 24)
def pokB (P : PProg) : Bool := if sizeBad P = true then false else if (List.range P.locs.length).any (atB P.locs (locBad P.locs)) = true then false else !(P.thr.any (thrBad P))

section
variable {E : Env}

end
end Jq

/- Rows of numbers copied. -/
namespace Jq
open Go

section
variable {E : Env}

end
end Jq

namespace Jq
open Go


end Jq

/- A program in memory of its own. -/
namespace Jq
open Go

/-- A program whose rows are all of their own blocks. -/
def ProgO (n : Nat) (h : AHeap) (cs : List Cell) (P : PProg) : Prop :=
  ∃ x y th, cs = [x, y, th] ∧ Own n h x 1 (intC .u8 P.locs) P.locs.length ∧ Own n h y 1 (intC .i64 P.init) P.init.length ∧ RowsOwn 9 codeC n h th P.thr

theorem ProgO.at {n : Nat} {h : AHeap} {cs : List Cell} {P : PProg} (p : ProgO n h cs P) : ProgAt h cs P := by
  obtain ⟨x, y, th, rfl, o1, o2, rr⟩ := p
  obtain ⟨us, u1, u2, u3⟩ := rr.of
  exact ⟨x, y, th, us, rfl, ⟨o1.at, o1.low⟩, ⟨o2.at, o2.low⟩, ⟨u1, u2⟩, u3⟩

section
variable {E : Env}

end
end Jq

/- Machines: how one lies in memory. -/
namespace Jq
open Go

/-- A machine. -/
structure MV where
  P : PProg
  m : Int
  lc : List Lcl
  mem : List Int
  frm : List Int
  bf : List (List Ent)
  st : List Stp

def bmod (m : Int) : Int := if m = 2 ∨ m = 3 then m else 0

def vmC (pc : List Cell) (V : MV) (x : Cell) : List Cell :=
  pc ++ (([.int .i64 V.m] : List Cell) ++ (V.lc.flatMap Lcl.cs ++ (intC .i64 V.mem ++ (intC .i64 V.frm ++ (V.bf.flatMap (bufC (bmod V.m)) ++ [x])))))

/-- It has the shape of one. -/
structure MV.Fit (V : MV) : Prop where
  m : 1 ≤ V.m ∧ V.m ≤ 3
  lc : V.lc.length = 4
  mem : V.mem.length = 4
  frm : V.frm.length = 4
  bf : V.bf.length = 4
  b : ∀ l ∈ V.bf, l.length ≤ 24

section seg
variable {α : Type}

theorem seg_get {a s b : List α} {n m : Nat} (hn : a.length = n) (hm : s.length = m) : ((a ++ (s ++ b)).drop n).take m = s := by
  subst hn hm
  rw [List.drop_append_of_le_length (Nat.le_refl _), List.drop_length, List.nil_append, List.take_append_of_le_length (Nat.le_refl _), List.take_length]

theorem seg_set {a s b s' : List Cell} {n : Nat} (hn : a.length = n) (hm : s.length = s'.length) : splice (a ++ (s ++ b)) n s' = a ++ (s' ++ b) := by
  subst hn
  unfold splice
  rw [List.take_append_of_le_length (Nat.le_refl _), List.take_length, ← hm, ← List.append_assoc a s b, List.drop_append, List.drop_of_length_le (by rw [List.length_append]; exact Nat.le_refl _), List.nil_append,
    show a.length + s.length - (a ++ s).length = 0 by rw [List.length_append]; omega, List.drop_zero, List.append_assoc]

theorem flat_len {f : α → List Cell} {n : Nat} : ∀ {l : List α}, (∀ x ∈ l, (f x).length = n) → (l.flatMap f).length = l.length * n
  | [], _ => by simp
  | x :: l, h => by
    rw [List.flatMap_cons, List.length_append, h x List.mem_cons_self, flat_len fun y hy => h y (List.mem_cons_of_mem _ hy), List.length_cons, Nat.succ_mul]; omega

theorem flat_split {f : α → List Cell} {l : List α} {i : Nat} {x : α} (h : l[i]? = some x) : l.flatMap f = (l.take i).flatMap f ++ (f x ++ (l.drop (i + 1)).flatMap f) := by
  have hi := getI_lt h
  have he : l = l.take i ++ x :: l.drop (i + 1) := by
    rw [List.getElem?_eq_getElem hi] at h
    cases h
    rw [List.getElem_cons_drop, List.take_append_drop]
  conv => lhs; rw [he]
  rw [List.flatMap_append, List.flatMap_cons]

theorem flat_set {f : α → List Cell} {l : List α} {i : Nat} (hi : i < l.length) (y : α) : (l.set i y).flatMap f = (l.take i).flatMap f ++ (f y ++ (l.drop (i + 1)).flatMap f) := by
  have := flat_split (f := f) (l := l.set i y) (i := i) (x := y) (by rw [List.getElem?_set_self hi])
  rw [this, List.take_set_of_le (Nat.le_refl _), List.drop_set_of_lt (by omega)]

theorem take_flat_len {f : α → List Cell} {n : Nat} {l : List α} (hl : ∀ x ∈ l, (f x).length = n) {i : Nat} (hi : i ≤ l.length) : ((l.take i).flatMap f).length = i * n := by
  rw [flat_len fun x hx => hl x (List.mem_of_mem_take hx), List.length_take, Nat.min_eq_left hi]
end seg

theorem MV.Fit.lcs {V : MV} {pc : List Cell} (_ : V.Fit) (_ : pc.length = 3) : ∀ l ∈ V.lc, (Lcl.cs l).length = 5 := fun _ _ => rfl
theorem MV.Fit.bfs {V : MV} {pc : List Cell} (f : V.Fit) (_ : pc.length = 3) : ∀ l ∈ V.bf, (bufC (bmod V.m) l).length = 74 := fun l hl => bufC_len _ (f.b l hl)
section
variable {V : MV} {pc : List Cell} {x : Cell} (f : V.Fit) (hpc : pc.length = 3)
include f hpc

theorem vm_len : (vmC pc V x).length = 329 := by
  have h1 := flat_len (f.lcs hpc)
  have h2 := flat_len (f.bfs hpc)
  have := f.lc; have := f.mem; have := f.frm; have := f.bf
  unfold vmC
  simp only [List.length_append, intC_len, List.length_cons, List.length_nil]
  omega

end

/- What may be picked. -/
def MV.l (V : MV) (t : Nat) : Lcl := V.lc.getD t Lcl.zero
def MV.b (V : MV) (t : Nat) : List Ent := V.bf.getD t []
def MV.nxt (V : MV) (t : Nat) : Option Ins := nextI (V.P.code t) (V.l t)
def MV.mayT (V : MV) (t : Nat) : Bool := match V.nxt t with
  | none => false
  | some i => !(i.kind == 3 || i.kind == 4) || (V.b t).length == 0
def MV.mayF (V : MV) (t : Nat) : Bool := V.m == 2 && !((V.b t).length == 0)
def MV.mayL (V : MV) (t loc : Nat) : Bool := V.m == 3 && ((V.b t).find? (oldP 3 (loc : Int))).isSome
def MV.may (V : MV) (i : Nat) : Bool :=
  if i < 4 then V.mayT i else if i < 8 then V.mayF (i - 4) else if i < 24 then V.mayL ((i - 8) / 4) ((i - 8) % 4) else false

/-- A word of what is so. -/
def wordOf (p : Nat → Bool) : Nat → Nat
  | 0 => 0
  | n + 1 => if p n = true then wordOf p n ||| 2 ^ n else wordOf p n

theorem wordOf_bit (p : Nat → Bool) : ∀ n i, (wordOf p n).testBit i = (decide (i < n) && p i)
  | 0, i => by simp [wordOf]
  | n + 1, i => by
    have ih := wordOf_bit p n i
    rw [wordOf]
    split
    · rename_i hp
      rw [Nat.testBit_or, ih, Nat.testBit_two_pow]
      by_cases h : n = i
      · subst h; simp [hp]
      · rw [decide_eq_false h, Bool.or_false]; congr 1; simp; omega
    · rename_i hp
      rw [ih]
      by_cases h : n = i
      · subst h; simp [hp]
      · congr 1; simp; omega

theorem wordOf_lt (p : Nat → Bool) {n : Nat} (hn : n ≤ 64) : wordOf p n < 2 ^ 64 := by
  refine Nat.lt_pow_two_of_testBit _ fun i hi => ?_
  rw [wordOf_bit, decide_eq_false (by omega)]; rfl

def MV.word (V : MV) : Nat := wordOf V.may 24

theorem MV.may_out {V : MV} {i : Nat} (h : 24 ≤ i) : V.may i = false := by
  unfold MV.may
  rw [if_neg (by omega), if_neg (by omega), if_neg (by omega)]

theorem MV.word_bit (V : MV) (i : Nat) : V.word.testBit i = V.may i := by
  unfold MV.word
  rw [wordOf_bit]
  by_cases h : i < 24
  · rw [decide_eq_true h, Bool.true_and]
  · rw [MV.may_out (by omega), Bool.and_false]

theorem MV.l_at {V : MV} {t : Nat} (h : t < V.lc.length) : V.lc[t]? = some (V.l t) := by
  unfold MV.l; rw [List.getD_eq_getElem?_getD, List.getElem?_eq_getElem h]; rfl
theorem MV.b_at {V : MV} {t : Nat} (h : t < V.bf.length) : V.bf[t]? = some (V.b t) := by
  unfold MV.b; rw [List.getD_eq_getElem?_getD, List.getElem?_eq_getElem h]; rfl
end Jq

/- Machines: what may be picked. -/
namespace Jq
open Go

/-- Which picks have been looked at. -/
def Dn (a b c i : Nat) : Bool := if i < 4 then decide (i < a) else if i < 8 then decide (i - 4 < b) else decide (i - 8 < c)

section
variable {E : Env}

end
end Jq

/- Machines: what a thread does, what comes to memory. -/
namespace Jq
open Go

theorem prog_at {n : Nat} {h h' : AHeap} {pc : List Cell} {P : PProg} (p : ProgAt (h.take n) pc P) (hn : n ≤ h.length) (hk : Kp n h h') : ProgAt h' pc P := by
  have hl : (h.take n).length = n := by rw [List.length_take]; omega
  refine p.keep ⟨by rw [hl]; exact Nat.le_trans hn hk.1, fun k hk2 => ?_⟩
  rw [hl] at hk2
  rw [hk.2 k hk2, List.getElem?_take, if_pos hk2]

theorem putB {α : Type} {h : AHeap} {k : Nat} {l : List Cell} (hb : blk? h k = some ⟨true, 0, l⟩) {cs : List Cell} {F : AHeap → Option α} : putH h k cs F = F (setBlk h k (some ⟨true, 0, cs⟩)) := putH_ok hb rfl

/-- What a thread would read, and whose it is. -/
def MV.val (V : MV) (t : Nat) (i : Ins) : Int × Int := match newE i.loc (V.b t) with
  | some e => (e.val, e.id)
  | none => (V.mem.getD i.loc.toNat 0, V.frm.getD i.loc.toNat 0)

/-- What an event does to memory. -/
def MV.wr (V : MV) (t : Nat) (e : Evt) : MV :=
  if e.kind = 2 ∧ V.m ≠ 1 then { V with bf := V.bf.set t (V.b t ++ [⟨e.loc, e.w, V.st.length⟩]) }
  else if evWr e = true then { V with mem := V.mem.set e.loc.toNat e.w, frm := V.frm.set e.loc.toNat V.st.length }
  else V

/-- A thread's next instruction is done. -/
def MV.thrM (V : MV) (t : Nat) (i : Ins) : MV :=
  { V.wr t (evOf i (V.l t) (V.val t i).1) with lc := V.lc.set t (afterL (V.P.code t) (V.l t) (V.val t i).1) }
def MV.thrS (V : MV) (t : Nat) (i : Ins) : Stp :=
  ⟨0, t, (evOf i (V.l t) (V.val t i).1).kind, (evOf i (V.l t) (V.val t i).1).loc, (evOf i (V.l t) (V.val t i).1).r, (evOf i (V.l t) (V.val t i).1).w, if rdI i = true then (V.val t i).2 else -1⟩

theorem evt_kind {α : Type} {e : Evt} {f : Cell → Option α} : atK e.cs 2 f = f (.int .i64 e.kind) := rfl
theorem evt_loc {α : Type} {e : Evt} {f : Cell → Option α} : atK e.cs 3 f = f (.int .i64 e.loc) := rfl
theorem evt_r {α : Type} {e : Evt} {f : Cell → Option α} : atK e.cs 4 f = f (.int .i64 e.r) := rfl
theorem evt_w {α : Type} {e : Evt} {f : Cell → Option α} : atK e.cs 5 f = f (.int .i64 e.w) := rfl

theorem evOf_loc {i : Ins} {l : Lcl} {v : Int} (h : 0 ≤ i.loc ∧ i.loc < 4) : 0 ≤ (evOf i l v).loc ∧ (evOf i l v).loc < 4 := by
  unfold evOf
  split
  · exact h
  · split
    · exact h
    · split
      · split <;> exact h
      · exact ⟨by decide, by decide⟩

section
variable {E : Env}

end
end Jq

/- Machines: a pick is taken. -/
namespace Jq
open Go

def MV.fluE (V : MV) (t : Nat) (loc : Int) : Ent := ((V.b t).find? (oldP (bmod V.m) loc)).getD ⟨0, 0, 0⟩
def MV.fluM (V : MV) (t : Nat) (loc : Int) : MV :=
  { V with bf := V.bf.set t ((V.b t).eraseP (oldP (bmod V.m) loc)), mem := V.mem.set (V.fluE t loc).loc.toNat (V.fluE t loc).val, frm := V.frm.set (V.fluE t loc).loc.toNat (V.fluE t loc).id }
def MV.fluS (V : MV) (t : Nat) (loc : Int) : Stp := ⟨0, t, 6, (V.fluE t loc).loc, 0, (V.fluE t loc).val, (V.fluE t loc).id⟩

def MV.thrI (V : MV) (t : Nat) : Ins := (V.nxt t).getD Ins.zero
/-- The step of a pick, and how the machine stands behind it. -/
def MV.stp (V : MV) (i : Nat) : Stp :=
  { (if i < 4 then V.thrS i (V.thrI i) else if i < 8 then V.fluS (i - 4) 0 else V.fluS ((i - 8) / 4) (((i - 8) % 4 : Nat) : Int)) with pick := i }
def MV.nx (V : MV) (i : Nat) : MV :=
  { (if i < 4 then V.thrM i (V.thrI i) else if i < 8 then V.fluM (i - 4) 0 else V.fluM ((i - 8) / 4) (((i - 8) % 4 : Nat) : Int)) with st := V.st ++ [V.stp i] }

/-- What stays so from pick to pick. -/
structure MV.Inv (V : MV) : Prop where
  fit : V.Fit
  small : V.P.small
  fld : ∀ c ∈ V.P.thr, ∀ i ∈ c, fldB (hasB V.P) i = true
  locs : V.P.locs.length ≤ 4
  c10 : ∀ c ∈ V.P.thr, c.length ≤ 10
  ents : ∀ b ∈ V.bf, ∀ e ∈ b, 0 ≤ e.loc ∧ e.loc < 4
  pcs : ∀ t, t < 4 → ((V.b t).length : Int) ≤ (V.l t).pc

theorem fldV_loc {P : PProg} (h4 : P.locs.length ≤ 4) {i : Ins} (h : fldB (hasB P) i = true) (hk : 1 ≤ i.kind ∧ i.kind ≤ 4) : 0 ≤ i.loc ∧ i.loc < 4 := by
  unfold fldB hasB at h
  split at h
  · simp at h; omega
  · split at h
    · simp at h; omega
    · split at h
      · have h := of_decide_eq_true h
        unfold Ins.cs at h
        simp at h
        omega
      · split at h
        · simp at h; omega
        · omega

theorem MV.Inv.code10 {V : MV} (v : V.Inv) (t : Int) : (V.P.code t).length ≤ 10 := by
  unfold PProg.code
  split
  · rw [List.getD_eq_getElem?_getD]
    cases hq : V.P.thr[t.toNat]? with
    | none => simp
    | some c => exact v.c10 c (List.mem_of_getElem? hq)
  · simp

theorem MV.Inv.nxt {V : MV} (v : V.Inv) {t : Nat} {i : Ins} (h : V.nxt t = some i) : (0 ≤ i.loc ∧ i.loc < 4) ∧ (1 ≤ i.kind ∧ i.kind ≤ 4) ∧ 0 ≤ (V.l t).pc ∧ (V.l t).pc < 10 ∧ i ∈ V.P.code t := by
  obtain ⟨h1, h2, h3, h4, h5⟩ := nextI_kind h
  have hm : i ∈ V.P.code t := List.mem_of_getElem? h3
  have := v.code10 t
  refine ⟨fldV_loc v.locs ?_ ⟨h4, h5⟩, ⟨h4, h5⟩, h1, by omega, hm⟩
  unfold PProg.code at hm
  split at hm
  · rw [List.getD_eq_getElem?_getD] at hm
    cases hq : V.P.thr[(t : Int).toNat]? with
    | none => rw [hq] at hm; simp at hm
    | some c => rw [hq] at hm; exact v.fld c (List.mem_of_getElem? hq) i hm
  · simp at hm

theorem MV.Inv.blen {V : MV} (v : V.Inv) {t : Nat} (ht : t < 4) : (V.b t).length ≤ 24 := v.fit.b _ (List.mem_of_getElem? (MV.b_at (by rw [v.fit.bf]; exact ht)))

/-- It lies there. -/
structure VmAt (n : Nat) (h : AHeap) (k : Nat) (x : Cell) (pc : List Cell) (V : MV) : Prop where
  hn : n ≤ h.length
  nk : n ≤ k
  prog : ProgAt (h.take n) pc V.P
  blk : blk? h k = some ⟨true, 0, vmC pc V x⟩
  st : Own n h x 7 (stepsC V.st) V.st.length
  sep : ¬ isBlk x k

/-- What a machine's call leaves as it was. -/
structure KpV (n k : Nat) (x x' : Cell) (h h' : AHeap) : Prop where
  kp : Kp n h h'
  old : ∀ j b, blk? h j = some b → j ≠ k → ¬ isBlk x j → blk? h' j = some b ∧ ¬ isBlk x' j

theorem Own.blkLt' {n : Nat} {h : AHeap} {x : Cell} {esz len : Nat} {cs : List Cell} (o : Own n h x esz cs len) {k : Nat} (hk : isBlk x k) : n ≤ k ∧ k < h.length := by
  rcases o.2 with ⟨rfl, _⟩ | ⟨k', rfl, h1, h2⟩
  · exact absurd hk (by simp [isBlk])
  · cases hk; exact ⟨h1, blk_lt' h2⟩

theorem Own.setO {n : Nat} {h : AHeap} {x : Cell} {esz len : Nat} {cs : List Cell} (o : Own n h x esz cs len) {k : Nat} (hk : ¬ isBlk x k) (b : Option Blk) : Own n (setBlk h k b) x esz cs len := by
  refine ⟨o.1, o.2.imp id ?_⟩
  rintro ⟨k', rfl, h1, h2⟩
  exact ⟨k', rfl, h1, by rw [blk_set_ne (fun e => hk e.symm)]; exact h2⟩

theorem MV.word_lt (V : MV) : V.word < 2 ^ 64 := wordOf_lt _ (by omega)

section
variable {E : Env}

theorem MV.may_lt {V : MV} {i : Nat} (h : V.may i = true) : i < 24 := by
  rcases Nat.lt_or_ge i 24 with h1 | h1
  · exact h1
  · rw [MV.may_out h1] at h; cases h

end
end Jq

/- Machines: at the beginning. -/
namespace Jq
open Go

/-- The block while threads are laid in it. -/
def nwC (a b c : Cell) (m bm : Int) (l : Nat → Lcl) (t : Nat) : List Cell :=
  [a, b, c, .int .i64 m] ++ (((if 0 < t then (l 0).cs else Lcl.zero.cs) ++ ((if 1 < t then (l 1).cs else Lcl.zero.cs) ++ ((if 2 < t then (l 2).cs else Lcl.zero.cs) ++ (if 3 < t then (l 3).cs else Lcl.zero.cs)))) ++
    (List.replicate 4 (.int .i64 0) ++ (([if 0 < t then .int .i64 (-1) else .int .i64 0, if 1 < t then .int .i64 (-1) else .int .i64 0, if 2 < t then .int .i64 (-1) else .int .i64 0, if 3 < t then .int .i64 (-1) else .int .i64 0] : List Cell) ++
      (((if 0 < t then bufC bm [] else bufC 0 []) ++ ((if 1 < t then bufC bm [] else bufC 0 []) ++ ((if 2 < t then bufC bm [] else bufC 0 []) ++ (if 3 < t then bufC bm [] else bufC 0 [])))) ++ [.nils]))))

theorem splice_len {l xs : List Cell} {n : Nat} (h : n + xs.length ≤ l.length) : (splice l n xs).length = l.length := by
  unfold splice
  rw [List.length_append, List.length_append, List.length_take, List.length_drop]; omega

/-- A machine at the beginning. -/
def MV.new (P : PProg) (m : Int) : MV :=
  ⟨P, m, [startL P 0, startL P 1, startL P 2, startL P 3], P.init ++ List.replicate (4 - P.init.length) 0, [-1, -1, -1, -1], [[], [], [], []], []⟩

theorem MV.new_fit {P : PProg} {m : Int} (hm : 1 ≤ m ∧ m ≤ 3) (hi : P.init.length ≤ 4) : (MV.new P m).Fit :=
  ⟨hm, rfl, by show (P.init ++ List.replicate (4 - P.init.length) 0).length = 4; rw [List.length_append, List.length_replicate]; omega, rfl, rfl, fun l hl => by
    simp [MV.new] at hl; subst hl; simp⟩

attribute [local irreducible] nwC vmC bufC

section
variable {E : Env}

end
end Jq

/- Machines: what stays so. -/
namespace Jq
open Go

theorem getDset {α : Type} {l : List α} {i : Nat} (hi : i < l.length) (y d : α) (j : Nat) : (l.set i y).getD j d = if j = i then y else l.getD j d := by
  rw [List.getD_eq_getElem?_getD, List.getD_eq_getElem?_getD, List.getElem?_set]
  by_cases h : i = j
  · subst h; rw [if_pos rfl, if_pos hi, if_pos rfl]; rfl
  · rw [if_neg h, if_neg (fun e => h e.symm)]

theorem startL_pc (P : PProg) (t : Int) : 0 ≤ (startL P t).pc := by
  unfold startL normL
  exact nrm_pc (code := P.code t) _ Lcl.zero

theorem MV.new_inv {P : PProg} {m : Int} (hm : 1 ≤ m ∧ m ≤ 3) (hs : P.small) (hf : ∀ c ∈ P.thr, ∀ i ∈ c, fldB (hasB P) i = true) (hl : P.locs.length ≤ 4) (hi : P.init.length ≤ 4) (hc : ∀ c ∈ P.thr, c.length ≤ 10) : (MV.new P m).Inv := by
  refine ⟨MV.new_fit hm hi, hs, hf, hl, hc, fun b hb e he => ?_, fun t ht => ?_⟩
  · simp [MV.new] at hb; subst hb; simp at he
  · match t with
    | 0 => exact startL_pc P 0
    | 1 => exact startL_pc P 1
    | 2 => exact startL_pc P 2
    | 3 => exact startL_pc P 3
    | t + 4 => omega

theorem MV.wr_lc (V : MV) (t : Nat) (e : Evt) : (V.wr t e).lc = V.lc ∧ (V.wr t e).P = V.P ∧ (V.wr t e).m = V.m := by
  unfold MV.wr; split <;> (try split) <;> exact ⟨rfl, rfl, rfl⟩

theorem MV.wr_bf (V : MV) (t : Nat) (e : Evt) : (V.wr t e).bf = if e.kind = 2 ∧ V.m ≠ 1 then V.bf.set t (V.b t ++ [⟨e.loc, e.w, V.st.length⟩]) else V.bf := by
  unfold MV.wr; split
  · rfl
  · split <;> rfl

/-- Facts of all four rows are facts of all rows. -/
theorem MV.rows_of {W : MV} (h4 : W.bf.length = 4) {p : List Ent → Prop} (h : ∀ t, t < 4 → p (W.b t)) : ∀ b ∈ W.bf, p b := by
  intro b hb
  obtain ⟨t, ht, rfl⟩ := List.mem_iff_getElem.1 hb
  have := h t (by omega)
  unfold MV.b at this
  rw [List.getD_eq_getElem?_getD, List.getElem?_eq_getElem ht] at this
  exact this

/-- A thread that may go on has an instruction. -/
theorem MV.may_thr {V : MV} {i : Nat} (hi : i < 4) (h : V.may i = true) : V.nxt i = some (V.thrI i) := by
  unfold MV.may at h
  rw [if_pos hi] at h
  unfold MV.mayT at h
  unfold MV.thrI
  cases hq : V.nxt i with
  | none => rw [hq] at h; cases h
  | some q => rfl

section nx
variable {V : MV} (v : V.Inv)
include v

theorem MV.Inv.thrL {i : Nat} (hi : i < 4) (q : Ins) (t : Nat) : (V.thrM i q).l t = if t = i then afterL (V.P.code i) (V.l i) (V.val i q).1 else V.l t := by
  show (V.lc.set i _).getD t Lcl.zero = _
  rw [getDset (by rw [v.fit.lc]; exact hi)]
  rfl
theorem MV.Inv.thrB {i : Nat} (hi : i < 4) (q : Ins) (t : Nat) : (V.thrM i q).b t = if t = i ∧ (evOf q (V.l i) (V.val i q).1).kind = 2 ∧ V.m ≠ 1 then V.b i ++ [⟨(evOf q (V.l i) (V.val i q).1).loc, (evOf q (V.l i) (V.val i q).1).w, V.st.length⟩] else V.b t := by
  show (V.wr i _).bf.getD t [] = _
  rw [V.wr_bf]
  split
  · rename_i h
    rw [getDset (by rw [v.fit.bf]; exact hi)]
    by_cases ht : t = i
    · rw [if_pos ht, if_pos ⟨ht, h⟩]
    · rw [if_neg ht, if_neg (fun q => ht q.1)]; rfl
  · rename_i h
    rw [if_neg (fun q => h q.2)]; rfl
theorem MV.Inv.fluB {i : Nat} (hi : i < 4) (loc : Int) (t : Nat) : (V.fluM i loc).b t = if t = i then (V.b i).eraseP (oldP (bmod V.m) loc) else V.b t := by
  show (V.bf.set i _).getD t [] = _
  rw [getDset (by rw [v.fit.bf]; exact hi)]
  rfl

theorem MV.Inv.mem_b {t : Nat} {e : Ent} (he : e ∈ V.b t) : 0 ≤ e.loc ∧ e.loc < 4 := by
  by_cases ht : t < V.bf.length
  · exact v.ents _ (List.mem_of_getElem? (MV.b_at ht)) e he
  · unfold MV.b at he
    rw [List.getD_eq_getElem?_getD, List.getElem?_eq_none (by omega)] at he
    simp at he

theorem MV.Inv.thr {i : Nat} (hi : i < 4) {q : Ins} (hq : V.nxt i = some q) : (V.thrM i q).Inv := by
  obtain ⟨q1, q2, q3, q4, q5⟩ := v.nxt hq
  have hb := v.thrB hi q
  have hl := v.thrL hi q
  have hpc : (V.l i).pc + 1 ≤ (afterL (V.P.code i) (V.l i) (V.val i q).1).pc := afterL_pc hq _
  have hev := evOf_loc (l := V.l i) (v := (V.val i q).1) q1
  obtain ⟨w1, w2, w3⟩ := V.wr_lc i (evOf q (V.l i) (V.val i q).1)
  have f := v.fit
  have e0 : (V.thrM i q).bf.length = 4 := by
    show (V.wr i _).bf.length = 4
    rw [V.wr_bf]; split
    · rw [List.length_set]; exact f.bf
    · exact f.bf
  have blen : ∀ t, t < 4 → ((V.thrM i q).b t).length ≤ 24 := fun t ht => by
    rw [hb]
    split
    · have := v.pcs i hi
      rw [List.length_append, List.length_singleton]; omega
    · exact v.blen ht
  have hmm : (V.thrM i q).m = V.m := w3
  have hPP : (V.thrM i q).P = V.P := w2
  refine ⟨⟨by rw [hmm]; exact f.m, by show (V.lc.set _ _).length = 4; rw [List.length_set]; exact f.lc, ?_, ?_, e0, MV.rows_of e0 blen⟩, by rw [hPP]; exact v.small, by rw [hPP]; exact v.fld, by rw [hPP]; exact v.locs, by rw [hPP]; exact v.c10, MV.rows_of e0 fun t ht e he => ?_, fun t ht => ?_⟩
  · show (V.wr i _).mem.length = 4
    unfold MV.wr; split
    · exact f.mem
    · split
      · rw [List.length_set]; exact f.mem
      · exact f.mem
  · show (V.wr i _).frm.length = 4
    unfold MV.wr; split
    · exact f.frm
    · split
      · rw [List.length_set]; exact f.frm
      · exact f.frm
  · rw [hb] at he
    split at he
    · rcases List.mem_append.1 he with he | he
      · exact v.mem_b he
      · rw [List.mem_singleton] at he; subst he; exact hev
    · exact v.mem_b he
  · rw [hb, hl]
    by_cases h : t = i
    · subst h
      rw [if_pos rfl]
      have := v.pcs t ht
      split
      · rw [List.length_append, List.length_singleton]; omega
      · omega
    · rw [if_neg h, if_neg (fun q => h q.1)]
      exact v.pcs t ht

theorem MV.Inv.flu {i : Nat} (hi : i < 4) (loc : Int) : (V.fluM i loc).Inv := by
  have hb := v.fluB hi loc
  have f := v.fit
  have e0 : (V.fluM i loc).bf.length = 4 := by show (V.bf.set _ _).length = 4; rw [List.length_set]; exact f.bf
  refine ⟨⟨f.m, f.lc, by show (V.mem.set _ _).length = 4; rw [List.length_set]; exact f.mem, by show (V.frm.set _ _).length = 4; rw [List.length_set]; exact f.frm, e0, MV.rows_of e0 fun t ht => ?_⟩, v.small, v.fld, v.locs, v.c10, MV.rows_of e0 fun t ht e he => ?_, fun t ht => ?_⟩
  · rw [hb]; split
    · exact Nat.le_trans List.length_eraseP_le (v.blen hi)
    · exact v.blen ht
  · rw [hb] at he
    split at he
    · exact v.mem_b (List.mem_of_mem_eraseP he)
    · exact v.mem_b he
  · rw [hb]
    show _ ≤ (V.l t).pc
    split
    · rename_i h
      subst h
      have := v.pcs t ht
      have h2 := List.length_eraseP_le (p := oldP (bmod V.m) loc) (l := V.b t)
      omega
    · exact v.pcs t ht

theorem MV.Inv.st {s : List Stp} : MV.Inv { V with st := s } := ⟨⟨v.fit.m, v.fit.lc, v.fit.mem, v.fit.frm, v.fit.bf, v.fit.b⟩, v.small, v.fld, v.locs, v.c10, v.ents, v.pcs⟩

theorem MV.Inv.nx {i : Nat} (h : V.may i = true) : (V.nx i).Inv := by
  have hi := MV.may_lt h
  unfold MV.nx
  split
  · rename_i h4
    exact (v.thr h4 (MV.may_thr h4 h)).st
  · split
    · exact (v.flu (by omega) _).st
    · exact (v.flu (by omega) _).st
end nx

theorem MV.nx_st (V : MV) (i : Nat) : (V.nx i).st = V.st ++ [V.stp i] := rfl
theorem MV.nx_P (V : MV) (i : Nat) : (V.nx i).P = V.P ∧ (V.nx i).m = V.m := by
  unfold MV.nx
  split
  · exact ⟨(V.wr_lc _ _).2.1, (V.wr_lc _ _).2.2⟩
  · split <;> exact ⟨rfl, rfl⟩
end Jq

/- Machines: what is told of them; copies. -/
namespace Jq
open Go

theorem SlAt.cellsG {h : AHeap} {x : Cell} {esz : Nat} {cs : List Cell} {len : Nat} (s : SlAt h x esz cs len) : slCells h esz x = some cs := by
  have hl := s.1
  rcases s.2 with ⟨rfl, rfl⟩ | ⟨k, N, off, rfl, hb⟩
  · have : cs = [] := List.length_eq_zero_iff.1 (by omega)
    rw [this]; rfl
  · unfold slCells
    dsimp only
    by_cases h0 : len = 0
    · have : cs = [] := List.length_eq_zero_iff.1 (by rw [h0] at hl; omega)
      rw [if_pos h0, this]
    · rw [if_neg h0]
      rcases hb with hb | ⟨b, hb, hN, hle, hat⟩
      · exact absurd hb h0
      · rw [hb]
        simp only
        rw [if_pos ⟨hN, hle⟩]
        congr 1
        refine List.ext_getElem? fun j => ?_
        rw [List.getElem?_take, List.getElem?_drop]
        by_cases hj : j < len * esz
        · rw [if_pos hj, hat j hj]
        · rw [if_neg hj, List.getElem?_eq_none (by omega)]

/-- Cells put behind an empty row. -/
theorem app_emptyG {α : Type} {h : AHeap} {esz bytes len : Nat} {cs : List Cell} (he : 0 < esz) (hlen : cs.length = len * esz) (h1 : len * bytes ≤ maxBytes) (h2 : len ≤ maxBytes) (f : Cell → AHeap → Option α) :
    appK esz bytes (.sl h.length 0 0 0) cs (h ++ [some ⟨true, esz, []⟩]) f = f (.sl h.length cs.length 0 len) (h ++ [some ⟨true, esz, cs⟩]) := by
  unfold appK
  simp only
  rw [blk_new, Option.bind_some]
  dsimp only
  have hd : cs.length / esz = len := by rw [hlen]; exact Nat.mul_div_cancel _ he
  rw [if_pos ⟨rfl, rfl, rfl, by simp, by rw [hd]; simp; omega, by rw [hd]; simp; omega⟩, hd]
  by_cases h0 : len = 0
  · have : cs = [] := List.length_eq_zero_iff.1 (by rw [hlen, h0]; omega)
    subst this
    rw [if_pos (by simp), setBlk_last, h0]
    simp [splice]
  · have hpos : 0 < cs.length := by rw [hlen]; exact Nat.mul_pos (by omega) he
    rw [if_neg (by omega), if_pos trivial, setBlk_last]
    simp

def finC (V : MV) : List Cell := V.lc.flatMap regsC ++ intC .i64 V.mem
def finT (V : MV) (t : Nat) : List Cell := (V.lc.take t).flatMap regsC ++ List.replicate (20 - t * 4) (.int .i64 0)

section
variable {E : Env}

end
end Jq

namespace Jq
open Go


end Jq

namespace Jq
open Go


end Jq

/- What a function needs of an environment. -/
namespace Jq
open Go


end Jq

/- What a function needs of an environment. -/
namespace Jq
open Go


end Jq

namespace Jq
open Go


end Jq

namespace Jq
open Go


end Jq

namespace Jq
open Go


end Jq

namespace Jq
open Go


end Jq

/- NamesNumbers: every number is the document's. -/
namespace Jq
open Go

variable {E : Env}

/-- The numbers. -/
def nums : List (Int × Int) := [(0, 0), (1, 1), (2, 2), (4, 4), (5, 5), (6, 6), (7, 7), (8, 8), (9, 9), (10, 10), (4000, 4000), (4, 4), (10, 10), (24, 24), (4, 4), (1, 1), (2, 2), (3, 3), (4, 4), (5, 5), (6, 6), (7, 7), (8, 8), (9, 9), (10, 10), (11, 11), (1, 1), (2, 2), (3, 3), (4, 4), (1, 1), (2, 2), (3, 3), (4, 4), (5, 5), (6, 6), (1, 1), (2, 2), (1, 1), (2, 2), (3, 3), (4, 4), (5, 5), (6, 6), (1, 1), (2, 2), (3, 3), (0, 0), (1, 1), (2, 2), (1, 1), (2, 2), (3, 3), (4, 4), (5, 5), (6, 6), (7, 7), (8, 8), (9, 9), (10, 10), (11, 11), (12, 12), (13, 13)]

end Jq

namespace Jq
open Go


end Jq

namespace Jq
open Go


end Jq

/- What a function needs of an environment. -/
namespace Jq
open Go


end Jq

namespace Jq
open Go


end Jq

/- Machines: names, and what the document fixes. -/
namespace Jq
open Go

section
variable {E : Env}

def sbC (a b : Int) : List Ins := [⟨1, 0, a, ⟨-1, 1⟩, 0, ⟨0, 0⟩, 0⟩, ⟨2, 0, b, ⟨0, 0⟩, 0, ⟨0, 0⟩, 0⟩]
/-- Two threads, each stores and loads. -/
def sbP : PProg := ⟨[120, 121], [0, 0], [sbC 0 1, sbC 1 0]⟩

/-- A pick's name. -/
def nameOf (i : Int) : ByteArray :=
  if i < 0 ∨ i ≥ 24 then ByteArray.mk #[]
  else if i < 4 then ByteArray.mk #[116] ++ ByteArray.mk #[UInt8.ofNat (48 + i.toNat)]
  else if i < 8 then ByteArray.mk #[102] ++ ByteArray.mk #[UInt8.ofNat (48 + (i.toNat - 4))]
  else ((ByteArray.mk #[102] ++ ByteArray.mk #[UInt8.ofNat (48 + (i.toNat - 8) / 4)]) ++ ByteArray.mk #[46]) ++ ByteArray.mk #[UInt8.ofNat (48 + (i.toNat - 8) % 4)]

def sbV : MV := MV.new sbP 2
end
end Jq

/- Programs made of numbers may be run. -/
namespace Jq
open Go

theorem locs_rise (S : Nat → Bool) (n : Nat) : (locsF S n).Pairwise (· < ·) := by
  unfold locsF
  refine List.Pairwise.map _ (fun a b (hab : a < b) => ?_) (List.Pairwise.filter _ List.pairwise_lt_range)
  omega

theorem locs_ok (S : Nat → Bool) : (List.range (locsF S 26).length).any (atB (locsF S 26) (locBad (locsF S 26))) = false := by
  have hp := locs_rise S 26
  have hm : ∀ x ∈ locsF S 26, 97 ≤ x ∧ x ≤ 122 := fun x h => by
    obtain ⟨c, h1, _, rfl⟩ := locsF_mem.1 h
    omega
  generalize locsF S 26 = l at *
  rw [List.any_eq_false]
  intro i hi
  rw [List.mem_range] at hi
  rw [atB_ok (List.getElem?_eq_getElem hi)]
  have h1 := hm _ (List.getElem_mem hi)
  have h2 : 0 < i → l.getD (i - 1) 0 < l[i] := fun h0 => by
    rw [List.getD_eq_getElem?_getD, List.getElem?_eq_getElem (by omega)]
    exact List.pairwise_iff_getElem.1 hp (i - 1) i (by omega) hi (by omega)
  unfold locBad locB
  rw [decide_eq_true h1.1, decide_eq_true h1.2]
  by_cases h0 : 0 < i
  · have := h2 h0
    rw [decide_eq_false (p := l[i] ≤ _) (by omega)]; simp
  · rw [decide_eq_false (p := (i : Int) > 0) (by omega)]; simp

theorem sumLen_le {c : Nat} : ∀ l : List (List Ins), (∀ x ∈ l, x.length ≤ c) → (l.map List.length).sum ≤ l.length * c
  | [], _ => by simp
  | x :: l, h => by
    have := sumLen_le l fun y hy => h y (List.mem_cons_of_mem _ hy)
    have h1 := h x List.mem_cons_self
    rw [List.map_cons, List.sum_cons, List.length_cons, Nat.succ_mul]; omega

theorem opdOk.opB {o : Opd} (h : opdOk o) : opB o = true := by
  unfold Jq.opB regB
  rcases h with ⟨h1, _⟩ | ⟨h1 | h1, h2⟩ <;> rw [h1] <;> simp [*]

/-- What an instruction of a test made of numbers is, made ready. -/
theorem SmI.fld {L : Int} {T : PTest} {i : Ins} (s : SmI L i) (hin : i.loc ≠ 0 → i.loc ∈ locsT T) : fldB (hasB (compT T)) (compI (locsT T) i) = true := by
  have hl : i.loc ≠ 0 → compI (locsT T) i = { i with loc := plc (locsT T) i.loc 0 } ∧ hasB (compT T) (plc (locsT T) i.loc 0) = true := fun h => by
    refine ⟨by unfold compI; rw [if_pos h], ?_⟩
    obtain ⟨j, hj, hg⟩ := plc_get (locsT T) 0 (hin h)
    have := getI_lt hg
    rw [hj]
    unfold hasB
    rw [show (compT T).locs = locsT T from rfl, decide_eq_true (by omega), decide_eq_true (by omega)]; rfl
  rcases s with ⟨h1, h2, h3, h4, h5, h6, h7⟩ | ⟨h1, h2, h3, h4, h5, h6, h7⟩ | rfl | ⟨h1, h2, h3, h4, h5, h6, h7⟩ | ⟨h1, h2, h3, h4, h5, h6, h7⟩ | ⟨h1, h2, h3, h4, h5, h6, h7⟩
  · obtain ⟨e, hh⟩ := hl (by omega)
    rw [e]
    unfold fldB
    dsimp only
    rw [if_pos h1, hh, h4.opB, h1, h2, h5, h6, h7]
    simp [Ins.cs]
  · obtain ⟨e, hh⟩ := hl (by omega)
    rw [e]
    unfold fldB regB
    dsimp only
    rw [if_neg (by omega), if_pos h1, hh, h1, h4, h5, h6, h7, decide_eq_true (by omega), decide_eq_true (by omega)]
    simp [Ins.cs]
  · rfl
  · obtain ⟨e, hh⟩ := hl (by omega)
    rw [e]
    unfold fldB regB
    dsimp only
    rw [if_neg (by omega), if_neg (by omega), if_neg (by omega), if_pos h1, hh, h4.opB, h1, h5, h6, h7, decide_eq_true (by omega), decide_eq_true (by omega)]
    simp [Ins.cs, opB]
  · have e : compI (locsT T) i = i := by unfold compI; rw [if_neg (by omega)]
    rw [e]
    unfold fldB regB
    rw [if_neg (by omega), if_neg (by omega), if_neg (by omega), if_neg (by omega), if_pos h1, h4.opB, h1, h5, h6, decide_eq_true (by omega), decide_eq_true (by omega)]
    simp [Ins.cs, opB, h1, h3, h5, h6, h7]
  · have e : compI (locsT T) i = i := by unfold compI; rw [if_neg (by omega)]
    rw [e]
    unfold fldB
    rw [if_neg (by omega), if_neg (by omega), if_neg (by omega), if_neg (by omega), if_neg (by omega), if_pos h1, h4.opB, h1, h6, h7]
    simp [Ins.cs, opB, h1, h2, h3, h5, h6, h7]

theorem there_loc {T : PTest} {c : List Ins} (hc : c ∈ T.thr) {i : Ins} (hi : i ∈ c) (hl : 97 ≤ i.loc ∧ i.loc ≤ 122) : i.loc ∈ locsT T := by
  unfold locsT
  refine locsF_mem.2 ⟨(i.loc - 97).toNat, by omega, ?_, by omega⟩
  unfold thereT
  rw [Bool.or_eq_true, Bool.or_eq_true]
  refine .inl (.inr (List.any_eq_true.2 ⟨c, hc, List.any_eq_true.2 ⟨i, hi, ?_⟩⟩))
  rw [beq_iff_eq]; omega

theorem SkipOk.jmp {c : List Ins} (s : SkipOk c) (h1 : ∀ i ∈ c, i.kind = 6 → i.n = 1) : jmpB c = true := by
  unfold jmpB
  rw [List.all_eq_true]
  intro k hk
  cases hq : c[k]? with
  | none => rfl
  | some i =>
    dsimp only
    by_cases h6 : i.kind = 6
    · have a := s k i hq h6
      have b := h1 i (List.mem_of_getElem? hq) h6
      rw [decide_eq_false (p := i.n < 1) (by omega), decide_eq_false (p := i.n > _) (by omega)]; simp
    · rw [beq_false_of_ne h6]; rfl

structure RunP (P : PProg) : Prop where
  pok : pokB P = true
  fld : ∀ c ∈ P.thr, ∀ i ∈ c, fldB (hasB P) i = true

theorem GoodT.run {most : Nat} {T : PTest} (g : GoodT most T) : RunP (compT T) := by
  have gp := g.goodP
  obtain ⟨L, hL, hc⟩ := g.code
  have hf : ∀ c ∈ (compT T).thr, ∀ i ∈ c, fldB (hasB (compT T)) i = true := fun c hcm i hi => by
    obtain ⟨d, hd, rfl⟩ := List.mem_map.1 hcm
    obtain ⟨j, hj, rfl⟩ := List.mem_map.1 hi
    obtain ⟨k, hk, ht⟩ := hc d hd
    have := ht.all j hj
    refine this.fld fun h0 => there_loc hd hj ?_
    have := this.loc; omega
  refine ⟨?_, hf⟩
  have hgn := gp.n
  have hgl := gp.locs
  have hgi := gp.init
  have hsum := sumLen_le (c := 6) (compT T).thr gp.code
  have hs : sizeBad (compT T) = false := by
    unfold sizeBad sumL
    rw [beq_false_of_ne (by omega), decide_eq_false (p := ((compT T).thr.length : Int) > 4) (by omega), decide_eq_false (p := ((compT T).locs.length : Int) > 4) (by omega), decide_eq_false (p := _ > (24 : Int)) (by omega), show (((compT T).init.length : Int) != ((compT T).locs.length : Int)) = false by simp [hgl]]
    rfl
  unfold pokB
  rw [if_neg (by rw [hs]; simp), if_neg (by rw [show (compT T).locs = locsF (thereT T) 26 from rfl, locs_ok]; simp), Bool.not_eq_true', List.any_eq_false]
  intro c hcm
  have hj : jmpB c = true := (gp.skip c hcm).jmp fun i hi h6 => by
    obtain ⟨d, hd, rfl⟩ := List.mem_map.1 hcm
    obtain ⟨j, hj, rfl⟩ := List.mem_map.1 hi
    obtain ⟨k, hk, ht⟩ := hc d hd
    rw [compI_kn.1] at h6
    rw [compI_kn.2]
    exact (ht.all j hj).skip h6
  have hcl := gp.code c hcm
  unfold thrBad
  rw [hj, decide_eq_false (by omega), show (c.any fun i => !fldB (hasB (compT T)) i) = false by
    rw [List.any_eq_false]; intro i hi; rw [hf c hcm i hi]; simp]
  simp

section
variable {E : Env}

/-- A program made of numbers. -/
theorem OfO_R (hE : jacquardlaw6_Of_In E) {h : AHeap} {x : Cell} {l : List Int} (hx : SlAt h x 1 (intC .i64 l) l.length) (hlow : Low h.length x) (hl : l.length < 9223372036854775808) {most : Nat} (hmost : most ≤ 900) :
    ∃ (cs : List Cell) (h' : AHeap) (P : PProg), R E 76 [.c x, .c (.int .i64 (most : Int))] h = some ([.agg cs], h') ∧ ProgOwn h.length h' cs P ∧ GoodP most P ∧ RunP P ∧ (∀ x ∈ P.locs, 0 ≤ x ∧ x < 256) ∧ Kp h.length h h' := by
  obtain ⟨cs, h1, T, s1, s2, s3, s4⟩ := Small_R hE.c97 hx hlow hl hmost
  obtain ⟨cs2, h2, t1, t2, t3⟩ := refCompile_S hE.c101 s2 s3.small
  refine ⟨cs2, h2, compT T, R_intro hE.fn ?_, by obtain ⟨m, a, b, y, e1, e2, e3⟩ := t2; exact ⟨m, a, b, y, e1, Nat.le_trans s4.1 e2, e3⟩, s3.goodP, s3.run, fun x hx => by have := locsT_u8 (T := T) hx; omega, s4.trans (t3.mono s4.1)⟩
  rw [jacquardlaw6_Of_eq, s1, c1_ok, asA_ok, t1, c1_ok, asA_ok, if_pos ⟨rfl, rfl, t2.at.len⟩, if_pos ⟨rfl, t2.at.len⟩]

theorem OfP_R (hE : jacquardlaw6_Of_In E) {h : AHeap} {x : Cell} {l : List Int} (hx : SlAt h x 1 (intC .i64 l) l.length) (hlow : Low h.length x) (hl : l.length < 9223372036854775808) {most : Nat} (hmost : most ≤ 900) :
    ∃ (cs : List Cell) (h' : AHeap) (P : PProg), R E 76 [.c x, .c (.int .i64 (most : Int))] h = some ([.agg cs], h') ∧ ProgAt h' cs P ∧ GoodP most P ∧ RunP P ∧ (∀ x ∈ P.locs, 0 ≤ x ∧ x < 256) ∧ Kp h.length h h' := by
  obtain ⟨cs, h', P, r1, r2, r3⟩ := OfO_R hE hx hlow hl hmost
  exact ⟨cs, h', P, r1, r2.at, r3⟩

end
end Jq

/- Machines: what the laws' loops share. -/
namespace Jq
open Go

theorem take_keep {n : Nat} {h h' : AHeap} (hk : Kp n h h') : h'.take n = h.take n := by
  refine List.ext_getElem? fun j => ?_
  rw [List.getElem?_take, List.getElem?_take]
  split
  · exact hk.2 j (by assumption)
  · rfl

theorem VmAt.keep {n : Nat} {h h' : AHeap} {k : Nat} {x : Cell} {pc : List Cell} {V : MV} (a : VmAt n h k x pc V) (hk : Kp h.length h h') : VmAt n h' k x pc V :=
  ⟨Nat.le_trans a.hn hk.1, a.nk, by rw [take_keep (hk.mono a.hn)]; exact a.prog, by rw [hk.blk (blk_lt' a.blk)]; exact a.blk, a.st.keepK hk, a.sep⟩

/-- What does not belong to a machine leaves it as it was. -/
theorem VmAt.other {n : Nat} {h h' : AHeap} {k : Nat} {x : Cell} {pc : List Cell} {V : MV} (a : VmAt n h k x pc V) (hl : h.length ≤ h'.length) (hn : Kp n h h') (hk : blk? h' k = blk? h k) (hx : ∀ j, isBlk x j → blk? h' j = blk? h j) : VmAt n h' k x pc V := by
  refine ⟨Nat.le_trans a.hn hl, a.nk, by rw [take_keep hn]; exact a.prog, by rw [hk]; exact a.blk, ⟨a.st.1, a.st.2.imp id ?_⟩, a.sep⟩
  rintro ⟨j, rfl, h1, h2⟩
  exact ⟨j, rfl, h1, by rw [hx j rfl]; exact h2⟩

theorem GoodP.inv {most : Nat} {P : PProg} (g : GoodP most P) (r : RunP P) {m : Int} (hm : 1 ≤ m ∧ m ≤ 3) : (MV.new P m).Inv :=
  MV.new_inv hm g.small r.fld (by have := g.locs; have := g.init; omega) (by have := g.init; omega) (fun c hc => by have := g.code c hc; omega)

theorem bits_may {V : MV} {j i : Nat} (h : (bitsL V.word)[j]? = some i) : V.may i = true := by
  have := (mem_bitsL.1 (List.mem_of_getElem? h)).2
  rwa [MV.word_bit] at this

section
variable {E : Env}

end
end Jq

/- VmWaits: what waits is told by what may be picked. -/
namespace Jq
open Go

/-- How many wait there. -/
def MV.cnt (V : MV) (q : Nat) : Int :=
  if V.m = 2 ∧ 4 ≤ q ∧ q < 8 then ((V.b (q - 4)).length : Int)
  else if V.m = 3 ∧ 8 ≤ q ∧ q < 24 then ((V.b ((q - 8) / 4)).countP (oldP 3 (((q - 8) % 4 : Nat) : Int)) : Int) else 0

theorem MV.cnt2 {V : MV} (hm : V.m = 2) (q : Nat) : V.cnt q = if 4 ≤ q ∧ q < 8 then ((V.b (q - 4)).length : Int) else 0 := by
  unfold MV.cnt
  by_cases h : 4 ≤ q ∧ q < 8
  · rw [if_pos ⟨hm, h⟩, if_pos h]
  · rw [if_neg (fun c => h c.2), if_neg (fun c => by omega), if_neg h]
theorem MV.cnt3 {V : MV} (hm : V.m = 3) (q : Nat) : V.cnt q = if 8 ≤ q ∧ q < 24 then ((V.b ((q - 8) / 4)).countP (oldP 3 (((q - 8) % 4 : Nat) : Int)) : Int) else 0 := by
  unfold MV.cnt
  rw [if_neg (fun c => by omega)]
  by_cases h : 8 ≤ q ∧ q < 24
  · rw [if_pos ⟨hm, h⟩, if_pos h]
  · rw [if_neg (fun c => h c.2), if_neg h]

def cntC (V : MV) : List Cell := (List.range 24).map fun q => .int .i64 (V.cnt q)

theorem MV.may_cnt (V : MV) {k : Nat} (h4 : 4 ≤ k) (h24 : k < 24) : V.may k = decide (V.cnt k > 0) := by
  unfold MV.may MV.cnt
  rw [if_neg (by omega)]
  by_cases h8 : k < 8
  · rw [if_pos h8]
    unfold MV.mayF
    by_cases hm : V.m = 2
    · rw [if_pos ⟨hm, h4, h8⟩, hm]
      cases V.b (k - 4) with
      | nil => rfl
      | cons e l => rw [decide_eq_true (by rw [List.length_cons]; omega)]; rfl
    · rw [if_neg (fun q => hm q.1), if_neg (show ¬ (V.m = 3 ∧ 8 ≤ k ∧ k < 24) by omega), beq_false_of_ne hm]; rfl
  · rw [if_neg h8, if_pos h24, if_neg (by omega)]
    unfold MV.mayL
    by_cases hm : V.m = 3
    · rw [if_pos ⟨hm, by omega, h24⟩, hm, Bool.eq_iff_iff, decide_eq_true_eq]
      have : ((3 : Int) == 3) = true := rfl
      rw [this, Bool.true_and, List.find?_isSome]
      constructor
      · rintro ⟨e, he, hp⟩
        have := List.countP_pos_iff.2 ⟨e, he, hp⟩
        omega
      · intro hp
        obtain ⟨e, he, hp⟩ := List.countP_pos_iff.1 (show 0 < (V.b ((k - 8) / 4)).countP (oldP 3 (((k - 8) % 4 : Nat) : Int)) by omega)
        exact ⟨e, he, hp⟩
    · rw [if_neg (fun q => hm q.1), beq_false_of_ne hm]; rfl

/-- Where a step's stores are counted. -/
def qOf (m : Int) (s : Stp) : Nat := if m = 3 then 8 + (4 * s.t.toNat + s.loc.toNat) else 4 + s.t.toNat

theorem evOf_kinds (i : Ins) (l : Lcl) (v : Int) : 1 ≤ (evOf i l v).kind ∧ (evOf i l v).kind ≤ 5 := by
  unfold evOf
  split
  · exact ⟨by dsimp only; omega, by dsimp only; omega⟩
  · split
    · exact ⟨by dsimp only; omega, by dsimp only; omega⟩
    · split
      · split <;> exact ⟨by dsimp only; omega, by dsimp only; omega⟩
      · exact ⟨by dsimp only; omega, by dsimp only; omega⟩

theorem new_b (P : PProg) (m : Int) (t : Nat) : (MV.new P m).b t = [] := by
  unfold MV.b MV.new
  match t with
  | 0 => rfl
  | 1 => rfl
  | 2 => rfl
  | 3 => rfl
  | t + 4 => rfl

section
variable {E : Env}

end
end Jq

/- Each thread comes to its end. -/
namespace Jq
open Go

section
variable {E : Env}

end
end Jq

/- The document's check of a test. -/
namespace Jq
open Go

def sumM (l : List (List Ins)) : Int := ((l.map fun c => min c.length 100).sum : Nat)
def jmpAt (len : Nat) (k : Nat) (i : Ins) : Bool := i.kind == 6 && (decide (i.n < 1) || decide (i.n > (len : Int) - k - 1))
section
variable {E : Env}

end
end Jq

/- The document's check of a test: the whole. -/
namespace Jq
open Go

section
variable {E : Env}

end
end Jq

namespace Jq
open Go


end Jq

/- Threads step by step, of any test. -/
namespace Jq
open Go

def shOpd : Sh := .agg (.cons (.i .i64) (.cons (.i .i64) .nil))
def shIns : Sh := .agg (.cons (.i .i64) (.cons (.i .i64) (.cons (.i .i64) (.cons shOpd (.cons (.i .i64) (.cons shOpd (.cons (.i .i64) .nil)))))))
def shAtm : Sh := .agg (.cons (.i .i64) (.cons (.i .i64) (.cons (.i .i64) (.cons (.i .i64) .nil))))
def shCond : Sh := .agg (.cons (.i .i64) (.cons (.sl (.sl shAtm)) .nil))
def shTest : Sh := .agg (.cons .s (.cons (.sl shPair) (.cons (.sl (.sl shIns)) (.cons shCond .nil))))
def shLcl : Sh := .agg (.cons (.i .i64) (.cons (.agg (Sh.rep (.i .i64) 4)) .nil))

/-- Is a test of few parts? -/
def fewB (T : PTest) : Bool := !(((decide ((T.thr.length : Int) > 6) || decide ((T.inits.length : Int) > 40)) || decide ((T.name.size : Int) > 60)) || decide ((T.any.length : Int) > 12)) && !(T.thr.any fun c => decide ((c.length : Int) > 30)) && !(T.any.any fun c => decide ((c.length : Int) > 12))

section
variable {E : Env}

end

end Jq

/- Threads step by step, of any test: the law. -/
namespace Jq
open Go

section
variable {E : Env}

end
end Jq

/- A test is made ready as the document says, or refused. -/
namespace Jq
open Go

section
variable {E : Env}

end
end Jq

/- Machines: how long one goes on. -/
namespace Jq
open Go

def MV.sumB (V : MV) : Int := (V.b 0).length + (V.b 1).length + (V.b 2).length + (V.b 3).length
def MV.sumP (V : MV) : Int := (V.l 0).pc + (V.l 1).pc + (V.l 2).pc + (V.l 3).pc
def isSt (m : Int) (s : Stp) : Bool := s.kind == 2 && m != 1
def isFl (s : Stp) : Bool := s.kind == 6
def MV.skips (V : MV) : Prop := ∀ c ∈ V.P.thr, SkipOk c

structure MV.Inv2 (V : MV) : Prop where
  le : ∀ t, t < 4 → (V.l t).pc ≤ (V.P.code t).length
  ms : (V.st.length : Int) + V.sumB ≤ 2 * V.sumP
  m1 : V.m = 1 → ∀ t, V.b t = []
  bal : (V.st.countP (isSt V.m) : Int) = V.st.countP isFl + V.sumB

/-- All of a program's instructions. -/
theorem sum_codes {P : PProg} (h4 : P.thr.length ≤ 4) : ((P.code 0).length : Int) + (P.code 1).length + (P.code 2).length + (P.code 3).length = sumL P.thr := by
  have hc : ∀ t : Nat, P.code (t : Int) = P.thr.getD t [] := fun t => by unfold PProg.code; rw [if_pos (by omega), Int.toNat_natCast]
  have e0 := hc 0; have e1 := hc 1; have e2 := hc 2; have e3 := hc 3
  rw [show ((0 : Nat) : Int) = 0 from rfl] at e0
  rw [show ((1 : Nat) : Int) = 1 from rfl] at e1
  rw [show ((2 : Nat) : Int) = 2 from rfl] at e2
  rw [show ((3 : Nat) : Int) = 3 from rfl] at e3
  rw [e0, e1, e2, e3]
  unfold sumL
  generalize P.thr = l at *
  match l with
  | [] => rfl
  | [a] => simp
  | [a, b] => simp
  | [a, b, c] => simp <;> omega
  | [a, b, c, d] => simp <;> omega
  | a :: b :: c :: d :: e :: r => simp at h4

theorem MV.Inv2.most {V : MV} (w : V.Inv2) (h4 : V.P.thr.length ≤ 4) : (V.st.length : Int) ≤ 2 * sumL V.P.thr := by
  have := w.ms
  have h := sum_codes h4
  have l0 := w.le 0 (by omega); have l1 := w.le 1 (by omega); have l2 := w.le 2 (by omega); have l3 := w.le 3 (by omega)
  rw [show ((0 : Nat) : Int) = 0 from rfl] at l0
  rw [show ((1 : Nat) : Int) = 1 from rfl] at l1
  rw [show ((2 : Nat) : Int) = 2 from rfl] at l2
  rw [show ((3 : Nat) : Int) = 3 from rfl] at l3
  unfold MV.sumB MV.sumP at this
  omega

/-- If nothing may be picked nothing waits. -/
theorem MV.Inv.done {V : MV} (v : V.Inv) (w : V.Inv2) (h0 : V.word = 0) : V.sumB = 0 := by
  have hno : ∀ i, V.may i = false := fun i => by rw [← MV.word_bit, h0, Nat.zero_testBit]
  have hb : ∀ t, t < 4 → V.b t = [] := fun t ht => by
    have hm := v.fit.m
    rcases (show V.m = 1 ∨ V.m = 2 ∨ V.m = 3 by omega) with h1 | h2 | h3
    · exact w.m1 h1 t
    · have := hno (4 + t)
      rw [MV.may_cnt V (by omega) (by omega), MV.cnt2 h2, if_pos ⟨by omega, by omega⟩, show 4 + t - 4 = t by omega, decide_eq_false_iff_not] at this
      exact List.length_eq_zero_iff.1 (by omega)
    · cases hbb : V.b t with
      | nil => rfl
      | cons e l =>
        exfalso
        have he := v.mem_b (t := t) (e := e) (by rw [hbb]; exact List.mem_cons_self)
        have := hno (8 + (4 * t + e.loc.toNat))
        rw [MV.may_cnt V (by omega) (by omega), MV.cnt3 h3, if_pos ⟨by omega, by omega⟩, show (8 + (4 * t + e.loc.toNat) - 8) / 4 = t by omega, show (8 + (4 * t + e.loc.toNat) - 8) % 4 = e.loc.toNat by omega, decide_eq_false_iff_not, hbb, List.countP_cons, if_pos (show oldP 3 ((e.loc.toNat : Nat) : Int) e = true by unfold oldP; simp; omega)] at this
        omega
  unfold MV.sumB
  rw [hb 0 (by omega), hb 1 (by omega), hb 2 (by omega), hb 3 (by omega)]; rfl
end Jq

/- Machines of the document: how one lies in memory. -/
namespace Jq
open Go

/-- SEVERAL MORE at the end. -/
theorem Own.appN {n : Nat} {h : AHeap} {x : Cell} {esz len m bytes : Nat} {cs xs : List Cell} (o : Own n h x esz cs len) (hn : n ≤ h.length) (hx : xs.length = m * esz) (he : 0 < esz) (h1 : (len + m) * bytes ≤ maxBytes) (h2 : len + m ≤ maxBytes) :
    ∃ x' h', (∀ {α : Type} (f : Cell → AHeap → Option α), appK esz bytes x xs h f = f x' h') ∧ Own n h' x' esz (cs ++ xs) (len + m) ∧ Kp n h h' ∧ (∀ j b, blk? h j = some b → ¬ isBlk x j → blk? h' j = some b ∧ ¬ isBlk x' j) := by
  have hd : xs.length / esz = m := by rw [hx]; exact Nat.mul_div_cancel _ he
  rcases o.2 with ⟨rfl, rfl⟩ | ⟨k, rfl, hk, hb⟩
  · have hcs : cs = [] := List.length_eq_zero_iff.1 (by have := o.1; omega)
    subst hcs
    by_cases h0 : m = 0
    · subst h0
      have : xs = [] := List.length_eq_zero_iff.1 (by omega)
      subst this
      exact ⟨.nils, h, fun f => rfl, Own.nil _ _ _, Kp.refl _ _, fun j b hj hi => ⟨hj, hi⟩⟩
    · have hpos : 0 < xs.length := by rw [hx]; exact Nat.mul_pos (by omega) he
      refine ⟨.sl h.length xs.length 0 m, h ++ [some ⟨true, esz, xs⟩], fun f => ?_, ⟨by simp [hx], .inr ⟨h.length, by simp, hn, by rw [List.nil_append]; exact blk_new _ _⟩⟩, Kp.app _ hn, fun j b hj _ => ⟨blk_old hj _, fun hi => ?_⟩⟩
      · unfold appK; simp only; rw [if_neg (by omega), hd, if_pos ⟨by rw [Nat.zero_add] at h1; exact h1, by omega⟩]
      · have := blk_lt' hj; simp only [isBlk] at hi; omega
  · have hl := o.1
    refine ⟨.sl k (len * esz + xs.length) 0 (len + m), setBlk h k (some ⟨true, esz, cs ++ xs⟩), fun f => ?_, ⟨by simp [hl, hx, Nat.add_mul], .inr ⟨k, by simp [hl], hk, blk_set_self (blk_lt' hb) _⟩⟩, Kp.set hk _, fun j b hj hi => ?_⟩
    · unfold appK; simp only; rw [hb, Option.bind_some]; dsimp only
      rw [if_pos ⟨rfl, rfl, rfl, by omega, by rw [hd]; exact h1, by rw [hd]; exact h2⟩, hd]
      by_cases h0 : xs.length = 0
      · have : xs = [] := List.length_eq_zero_iff.1 h0
        subst this
        have e : splice cs (0 + len * esz) [] = cs ++ [] := by unfold splice; simp
        rw [if_pos (by simp; omega), e, List.length_nil, hl]
        rfl
      · rw [if_neg (by omega), if_pos trivial, List.take_of_length_le (by omega)]
    · have hne : k ≠ j := fun h => hi h
      exact ⟨by rw [blk_set_ne hne]; exact hj, fun q => hne q⟩

/-- Cut behind, cut in front. -/
theorem Own.slc {n : Nat} {h : AHeap} {x : Cell} {esz len : Nat} {cs : List Cell} (o : Own n h x esz cs len) (h0 : 0 < len) {a : Nat} (ha : a ≤ len) :
    (∃ x', (∀ {α : Type} (f : Cell → Option α), sliceK h esz false true x [.v (.c (.int .i64 (a : Int)))] f = f x') ∧ slCells h esz x' = some (cs.take (a * esz))) ∧
    (∃ x', (∀ {α : Type} (f : Cell → Option α), sliceK h esz true false x [.v (.c (.int .i64 (a : Int)))] f = f x') ∧ slCells h esz x' = some (cs.drop (a * esz))) := by
  have hl := o.1
  have hae : a * esz ≤ len * esz := Nat.mul_le_mul_right _ ha
  rcases o.2 with ⟨rfl, rfl⟩ | ⟨k, rfl, hk, hb⟩
  · omega
  · have hok : okSl h esz k cs.length = true := by unfold okSl; rw [hb]; simp
    refine ⟨⟨.sl k cs.length (0 + 0 * esz) (a - 0), fun f => ?_, ?_⟩, ⟨.sl k cs.length (0 + a * esz) (len - a), fun f => ?_, ?_⟩⟩
    · unfold sliceK boundsK
      simp only
      rw [if_pos hok, if_pos ⟨by omega, by omega⟩, Int.toNat_natCast]
    · unfold slCells
      dsimp only
      by_cases h1 : a - 0 = 0
      · rw [if_pos h1, show a = 0 by omega, Nat.zero_mul, List.take_zero]
      · rw [if_neg h1, hb]
        simp only
        rw [if_pos ⟨by trivial, by rw [Nat.sub_zero]; omega⟩]
        simp
    · unfold sliceK boundsK
      simp only
      rw [if_pos hok, if_pos ⟨by omega, by omega⟩, Int.toNat_natCast]
    · unfold slCells
      dsimp only
      have hm : (len - a) * esz = len * esz - a * esz := Nat.sub_mul _ _ _
      by_cases h1 : len - a = 0
      · rw [if_pos h1, List.drop_of_length_le (by rw [show a = len by omega]; omega)]
      · rw [if_neg h1, hb]
        simp only
        rw [if_pos ⟨by trivial, by omega⟩, Nat.zero_add, List.take_of_length_le (by rw [List.length_drop]; omega)]

theorem ents_take (l : List Ent) (j : Nat) : (entsC l).take (min j l.length * 3) = entsC (l.take j) ∧ (entsC l).drop (min j l.length * 3) = entsC (l.drop j) := by
  have e : entsC l = entsC (l.take j) ++ entsC (l.drop j) := by rw [← entsC_append, List.take_append_drop]
  have hl : (entsC (l.take j)).length = min j l.length * 3 := by rw [entsC_len, List.length_take]
  rw [e, ← hl]
  exact ⟨by rw [List.take_append_of_le_length (Nat.le_refl _), List.take_length], by rw [List.drop_append_of_le_length (Nat.le_refl _), List.drop_length, List.nil_append]⟩

/-- The last one of a location. -/
theorem newE_snoc (loc : Int) (l : List Ent) (e : Ent) : newE loc (l ++ [e]) = if e.loc = loc then some e else newE loc l := by
  unfold newE
  rw [List.reverse_append, List.reverse_singleton, List.singleton_append, List.find?_cons]
  by_cases h : e.loc = loc
  · rw [if_pos h, h, beq_self_eq_true]
  · rw [if_neg h, beq_false_of_ne h]

/-- The block. -/
def rvC (pc : List Cell) (V : MV) (bs : List Cell) (x : Cell) : List Cell :=
  pc ++ (([.int .i64 V.m] : List Cell) ++ (intC .i64 V.mem ++ (intC .i64 V.frm ++ (V.lc.flatMap Lcl.cs ++ (bs ++ [x])))))

section
variable {V : MV} {pc bs : List Cell} {x : Cell} (f : V.Fit) (hpc : pc.length = 3) (hbs : bs.length = 4)

theorem rv_prog (hpc : pc.length = 3) : ((rvC pc V bs x).drop (0 + 0)).take 3 = pc := by
  unfold rvC
  exact seg_get (a := []) rfl hpc
theorem rv_m (hpc : pc.length = 3) {α : Type} {g : Cell → Option α} : atK (rvC pc V bs x) (0 + 3) g = g (.int .i64 V.m) := by
  unfold rvC
  refine atK_ok ?_
  rw [List.getElem?_append_right (by omega), hpc]; rfl

theorem rv_lensM (_ : V.Fit) (hpc : pc.length = 3) : ∃ A B : List Cell, rvC pc V bs x = A ++ (intC .i64 V.mem ++ B) ∧ A.length = 0 + 4 ∧ ∀ l' : List Int, rvC pc { V with mem := l' } bs x = A ++ (intC .i64 l' ++ B) := by
  refine ⟨pc ++ [.int .i64 V.m], intC .i64 V.frm ++ (V.lc.flatMap Lcl.cs ++ (bs ++ [x])), ?_, ?_, fun l' => ?_⟩
  · unfold rvC; simp only [List.append_assoc]
  · simp only [List.length_append, hpc, List.length_cons, List.length_nil]
  · unfold rvC; simp only [List.append_assoc]

include f hpc

theorem rv_lensF : ∃ A B : List Cell, rvC pc V bs x = A ++ (intC .i64 V.frm ++ B) ∧ A.length = 0 + 8 ∧ ∀ l' : List Int, rvC pc { V with frm := l' } bs x = A ++ (intC .i64 l' ++ B) := by
  have := f.mem
  refine ⟨pc ++ (([.int .i64 V.m] : List Cell) ++ intC .i64 V.mem), V.lc.flatMap Lcl.cs ++ (bs ++ [x]), ?_, ?_, fun l' => ?_⟩
  · unfold rvC; simp only [List.append_assoc]
  · simp only [List.length_append, hpc, List.length_cons, List.length_nil, intC_len]; omega
  · unfold rvC; simp only [List.append_assoc]

theorem rv_lensL {t : Nat} {l : Lcl} (h : V.lc[t]? = some l) : ∃ A B : List Cell, rvC pc V bs x = A ++ (l.cs ++ B) ∧ A.length = (0 + 12) + t * 5 ∧ ∀ l' : Lcl, rvC pc { V with lc := V.lc.set t l' } bs x = A ++ (l'.cs ++ B) := by
  have hi := getI_lt h
  have e := take_flat_len (f.lcs hpc) (Nat.le_of_lt hi)
  have := f.mem; have := f.frm
  refine ⟨pc ++ (([.int .i64 V.m] : List Cell) ++ (intC .i64 V.mem ++ (intC .i64 V.frm ++ (V.lc.take t).flatMap Lcl.cs))), (V.lc.drop (t + 1)).flatMap Lcl.cs ++ (bs ++ [x]), ?_, ?_, fun l' => ?_⟩
  · unfold rvC; rw [flat_split h]; simp only [List.append_assoc]
  · simp only [List.length_append, e, hpc, List.length_cons, List.length_nil, intC_len]; omega
  · unfold rvC; dsimp only; rw [flat_set hi]; simp only [List.append_assoc]

theorem rv_lensB : ∃ A : List Cell, A.length = 0 + 32 ∧ ∀ bs x, rvC pc V bs x = A ++ (bs ++ [x]) := by
  have e2 := flat_len (f.lcs hpc)
  have := f.lc; have := f.mem; have := f.frm
  refine ⟨pc ++ (([.int .i64 V.m] : List Cell) ++ (intC .i64 V.mem ++ (intC .i64 V.frm ++ V.lc.flatMap Lcl.cs))), ?_, fun bs x => ?_⟩
  · simp only [List.length_append, e2, hpc, List.length_cons, List.length_nil, intC_len]; omega
  · unfold rvC; simp only [List.append_assoc]

theorem rv_lcl {t : Nat} {l : Lcl} (h : V.lc[t]? = some l) : ((rvC pc V bs x).drop ((0 + 12) + t * 5)).take 5 = l.cs := by
  obtain ⟨A, B, e, hA, _⟩ := rv_lensL (bs := bs) (x := x) f hpc h
  rw [e]; exact seg_get hA rfl
theorem rv_setL {t : Nat} (ht : t < 4) (l : Lcl) : splice (rvC pc V bs x) ((0 + 12) + t * 5) l.cs = rvC pc { V with lc := V.lc.set t l } bs x := by
  obtain ⟨A, B, e, hA, h2⟩ := rv_lensL (bs := bs) (x := x) f hpc (List.getElem?_eq_getElem (show t < V.lc.length by rw [f.lc]; exact ht))
  rw [e, h2]; exact seg_set hA rfl
theorem rv_mem {α : Type} {i : Nat} {v : Int} (h : V.mem[i]? = some v) {g : Cell → Option α} : atK (rvC pc V bs x) ((0 + 4) + i * 1) g = g (.int .i64 v) := by
  obtain ⟨A, B, e, hA, _⟩ := rv_lensM (bs := bs) (x := x) f hpc
  have hi := getI_lt h
  refine atK_ok ?_
  rw [e, List.getElem?_append_right (by omega), List.getElem?_append_left (by rw [intC_len]; omega), show 0 + 4 + i * 1 - A.length = i by omega]
  exact intC_get h
theorem rv_frm {α : Type} {i : Nat} {v : Int} (h : V.frm[i]? = some v) {g : Cell → Option α} : atK (rvC pc V bs x) ((0 + 8) + i * 1) g = g (.int .i64 v) := by
  obtain ⟨A, B, e, hA, _⟩ := rv_lensF (bs := bs) (x := x) f hpc
  have hi := getI_lt h
  refine atK_ok ?_
  rw [e, List.getElem?_append_right (by omega), List.getElem?_append_left (by rw [intC_len]; omega), show 0 + 8 + i * 1 - A.length = i by omega]
  exact intC_get h
theorem rv_setM {i : Nat} (hi : i < 4) (v : Int) : (rvC pc V bs x).set ((0 + 4) + i * 1) (.int .i64 v) = rvC pc { V with mem := V.mem.set i v } bs x := by
  obtain ⟨A, B, e, hA, h2⟩ := rv_lensM (bs := bs) (x := x) f hpc
  have := f.mem
  rw [e, h2, List.set_append_right _ _ (by omega), List.set_append_left _ _ (by rw [intC_len]; omega), show 0 + 4 + i * 1 - A.length = i by omega]
  unfold intC
  rw [List.map_set]
theorem rv_setF {i : Nat} (hi : i < 4) (v : Int) : (rvC pc V bs x).set ((0 + 8) + i * 1) (.int .i64 v) = rvC pc { V with frm := V.frm.set i v } bs x := by
  obtain ⟨A, B, e, hA, h2⟩ := rv_lensF (bs := bs) (x := x) f hpc
  have := f.frm
  rw [e, h2, List.set_append_right _ _ (by omega), List.set_append_left _ _ (by rw [intC_len]; omega), show 0 + 8 + i * 1 - A.length = i by omega]
  unfold intC
  rw [List.map_set]
theorem rv_mems : ((rvC pc V bs x).drop (0 + 4)).take 4 = intC .i64 V.mem := by
  obtain ⟨A, B, e, hA, _⟩ := rv_lensM (bs := bs) (x := x) f hpc
  rw [e]; exact seg_get hA (by rw [intC_len, f.mem])

include hbs

theorem rv_len : (rvC pc V bs x).length = 37 := by
  obtain ⟨A, hA, e⟩ := rv_lensB f hpc
  rw [e]
  simp only [List.length_append, hA, hbs, List.length_cons, List.length_nil]

theorem rv_buf {α : Type} {t : Nat} (ht : t < 4) {g : Cell → Option α} : atK (rvC pc V bs x) ((0 + 32) + t * 1) g = g (bs.getD t .nils) := by
  obtain ⟨A, hA, e⟩ := rv_lensB f hpc
  refine atK_ok ?_
  rw [e, List.getElem?_append_right (by omega), List.getElem?_append_left (by omega), show 0 + 32 + t * 1 - A.length = t by omega, List.getD_eq_getElem?_getD, List.getElem?_eq_getElem (by omega)]; rfl
theorem rv_setB {t : Nat} (ht : t < 4) (c : Cell) : (rvC pc V bs x).set ((0 + 32) + t * 1) c = rvC pc V (bs.set t c) x := by
  obtain ⟨A, hA, e⟩ := rv_lensB f hpc
  rw [e, e, List.set_append_right _ _ (by omega), List.set_append_left _ _ (by omega), show 0 + 32 + t * 1 - A.length = t by omega]
theorem rv_steps {α : Type} {g : Cell → Option α} : atK (rvC pc V bs x) (0 + 36) g = g x := by
  obtain ⟨A, hA, e⟩ := rv_lensB f hpc
  refine atK_ok ?_
  rw [e, List.getElem?_append_right (by omega), List.getElem?_append_right (by omega), hA, hbs]; rfl
theorem rv_setX (y : Cell) : (rvC pc V bs x).set (0 + 36) y = rvC pc V bs y := by
  obtain ⟨A, hA, e⟩ := rv_lensB f hpc
  rw [e, e, List.set_append_right _ _ (by omega), List.set_append_right _ _ (by omega), hA, hbs]; rfl
end

/-- It lies there. -/
structure RvAt (n : Nat) (h : AHeap) (k : Nat) (x : Cell) (bs pc : List Cell) (V : MV) : Prop where
  hn : n ≤ h.length
  nk : n ≤ k
  prog : ProgAt (h.take n) pc V.P
  blk : blk? h k = some ⟨true, 0, rvC pc V bs x⟩
  st : Own n h x 7 (stepsC V.st) V.st.length
  sep : ¬ isBlk x k
  bl : bs.length = 4
  bf : ∀ t, t < 4 → Own n h (bs.getD t .nils) 3 (entsC (V.b t)) (V.b t).length ∧ ¬ isBlk (bs.getD t .nils) k ∧ ∀ j, isBlk (bs.getD t .nils) j → ¬ isBlk x j

/-- What may be picked, of any number. -/
def mayI (V : MV) (i : Int) : Bool := decide (0 ≤ i) && V.may i.toNat

theorem mayI_nat (V : MV) (i : Nat) : mayI V (i : Int) = V.may i := by
  unfold mayI
  rw [decide_eq_true (by omega), Int.toNat_natCast]; rfl
theorem ent_loc {h : AHeap} {y : Cell} {l : List Ent} (o : SlAt h y 3 (entsC l) l.length) {i : Nat} {e : Ent} (hq : l[i]? = some e) {α : Type} {f : Cell → Option α} :
    (idxSK 3 y (i : Int) fun k N o => rdH h k N fun l => atK l (o + 0) f) = f (.int .i64 e.loc) := o.get (getI_lt hq) (by omega) (by rw [entsC_get l i e hq 0 (by omega)]; rfl)
theorem ent_val {h : AHeap} {y : Cell} {l : List Ent} (o : SlAt h y 3 (entsC l) l.length) {i : Nat} {e : Ent} (hq : l[i]? = some e) {α : Type} {f : Cell → Option α} :
    (idxSK 3 y (i : Int) fun k N o => rdH h k N fun l => atK l (o + 1) f) = f (.int .i64 e.val) := o.get (getI_lt hq) (by omega) (by rw [entsC_get l i e hq 1 (by omega)]; rfl)
theorem ent_id {h : AHeap} {y : Cell} {l : List Ent} (o : SlAt h y 3 (entsC l) l.length) {i : Nat} {e : Ent} (hq : l[i]? = some e) {α : Type} {f : Cell → Option α} :
    (idxSK 3 y (i : Int) fun k N o => rdH h k N fun l => atK l (o + 2) f) = f (.int .i64 e.id) := o.get (getI_lt hq) (by omega) (by rw [entsC_get l i e hq 2 (by omega)]; rfl)

section
variable {E : Env}

theorem oldest_R' (hE : jacquardref16_VM_oldest_In E) {n k : Nat} {h : AHeap} {x : Cell} {bs pc : List Cell} {V : MV} (a : RvAt n h k x bs pc V) (f : V.Fit) {t : Nat} (ht : t < 4) (loc : Int) (p : Ent → Bool) (hp : ∀ e, (decide (loc < 0) || e.loc == loc) = p e) :
    R E 198 [.c (.ptr k 37 0), .c (.int .i64 (t : Int)), .c (.int .i64 loc)] h = some ([.c (.int .i64 (match (V.b t).findIdx? p with | some i => (i : Int) | none => -1))], h) := by
  refine R_intro hE.fn ?_
  have hpc := a.prog.len
  have hl := rv_len (x := x) f hpc a.bl
  have rd : ∀ {α : Type} {F : List Cell → Option α}, rdH h k 37 F = F (rvC pc V bs x) := fun {α F} => rdH_ok a.blk hl
  have hr : 0 ≤ (t : Int) ∧ (t : Int) < ((4 : Nat) : Int) := ⟨by omega, by omega⟩
  have o := (a.bf t ht).1.at
  have hbl : (V.b t).length ≤ 24 := f.b _ (List.mem_of_getElem? (MV.b_at (by rw [f.bf]; exact ht)))
  have hL := Lim_find (F := jacquardref16_VM_oldest_F1 (R E) Lim E.glob) (fun i => jacquardref16_VM_oldest_s1 k 37 0 (t : Int) loc (i : Int) h) (fun i => jacquardref16_VM_oldest_x1_0 (i : Int) h) (jacquardref16_VM_oldest_x1_1 h) 0 (V.b t) p (fun i q hq => by
    have hi := getI_lt hq
    rw [jacquardref16_VM_oldest_r1, if_pos hr, rd, Int.toNat_natCast, rv_buf f hpc a.bl ht, o.len, if_pos (by simp; omega)]
    simp only [rd, if_pos hr, rv_buf f hpc a.bl ht, ent_loc o hq, asI_ok, scK_or]
    rw [hp q, g_succ (by omega)]) (by rw [jacquardref16_VM_oldest_r1, if_pos hr, rd, Int.toNat_natCast, rv_buf f hpc a.bl ht, o.len, if_neg (by simp)])
  have hL' : Lim (jacquardref16_VM_oldest_F1 (R E) Lim E.glob) (jacquardref16_VM_oldest_s1 k 37 0 (t : Int) loc 0 h) = _ := hL
  rw [jacquardref16_VM_oldest_eq, hL', bind_ok]
  cases (V.b t).findIdx? p with
  | none => dsimp only; rw [jacquardref16_VM_oldest_e1_1]
  | some i => dsimp only; rw [jacquardref16_VM_oldest_e1_0]

/-- Whose flush, of which location. -/
def fluOf (m i : Int) : Int × Int × Bool :=
  if m = 2 ∧ 4 ≤ i ∧ i < 8 then (i - 4, -1, true) else if m = 3 ∧ 8 ≤ i ∧ i < 24 then ((i - 8) / 4, (i - 8) % 4, true) else (0, 0, false)

theorem refFlush_R (hE : jacquardref16_VM_flush_In E) {n k : Nat} {h : AHeap} {x : Cell} {bs pc : List Cell} {V : MV} (a : RvAt n h k x bs pc V) (f : V.Fit) (i : Int) :
    R E 197 [.c (.ptr k 37 0), .c (.int .i64 i)] h = some ([.c (.int .i64 (fluOf V.m i).1), .c (.int .i64 (fluOf V.m i).2.1), .c (.bool (fluOf V.m i).2.2)], h) := by
  refine R_intro hE.fn ?_
  have hpc := a.prog.len
  have hl := rv_len (x := x) f hpc a.bl
  have rd : ∀ {α : Type} {F : List Cell → Option α}, rdH h k 37 F = F (rvC pc V bs x) := fun {α F} => rdH_ok a.blk hl
  rw [jacquardref16_VM_flush_eq]
  simp only [rd, rv_m hpc, asI_ok, scK_and]
  unfold fluOf
  by_cases h2 : V.m = 2 ∧ 4 ≤ i ∧ i < 8
  · rw [if_pos (by simp; omega), if_pos h2, g_wrap_i64 (by omega) (by omega)]
  · rw [if_neg (by simp; omega), if_neg h2]
    by_cases h3 : V.m = 3 ∧ 8 ≤ i ∧ i < 24
    · rw [if_pos (by simp; omega), if_pos h3, g_wrap_i64 (by omega) (by omega), g_quo, g_rem, Int.tdiv_eq_ediv_of_nonneg (by omega), Int.tmod_eq_emod_of_nonneg (by omega), wrap_i64 (by omega) (by omega)]
    · rw [if_neg (by simp; omega), if_neg h3]

theorem findIdx_some {l : List Ent} {p : Ent → Bool} : (decide ((match l.findIdx? p with | some i => (i : Int) | none => -1) ≥ 0)) = (l.find? p).isSome := by
  cases hf : l.findIdx? p with
  | none =>
    rw [List.findIdx?_eq_none_iff] at hf
    have : l.find? p = none := by
      rw [List.find?_eq_none]
      intro e he
      rw [hf e he]; simp
    rw [this]; rfl
  | some i =>
    obtain ⟨hi, hp, _⟩ := List.findIdx?_eq_some_iff_getElem.1 hf
    have : (l.find? p).isSome = true := by rw [List.find?_isSome]; exact ⟨_, List.getElem_mem hi, hp⟩
    rw [this]
    exact decide_eq_true (by dsimp only; omega)

theorem May_R (hE : jacquardref16_VM_May_In E) {n k : Nat} {h : AHeap} {x : Cell} {bs pc : List Cell} {V : MV} (a : RvAt n h k x bs pc V) (f : V.Fit) (hg : V.P.good) (i : Int) :
    R E 196 [.c (.ptr k 37 0), .c (.int .i64 i)] h = some ([.c (.bool (mayI V i))], h) := by
  refine R_intro hE.fn ?_
  have hpc := a.prog.len
  have hl := rv_len (x := x) f hpc a.bl
  have rd : ∀ {α : Type} {F : List Cell → Option α}, rdH h k 37 F = F (rvC pc V bs x) := fun {α F} => rdH_ok a.blk hl
  have p := prog_at a.prog a.hn (Kp.refl n h)
  rw [jacquardref16_VM_May_eq, scK_and]
  by_cases h4 : 0 ≤ i ∧ i < 4
  · obtain ⟨t, rfl⟩ := Int.eq_ofNat_of_zero_le h4.1
    have ht : t < 4 := by omega
    have hr : 0 ≤ (t : Int) ∧ (t : Int) < ((4 : Nat) : Int) := ⟨by omega, by omega⟩
    have hql := MV.l_at (V := V) (t := t) (by rw [f.lc]; exact ht)
    have o := (a.bf t ht).1.at
    rw [if_pos (by simp; omega), rd, if_pos (by rw [hl]; omega), if_pos hr, rd, Int.toNat_natCast, if_pos (by rw [hl]; omega), rv_prog hpc, rv_lcl f hpc hql, refNext_R hE.c81 hg p, qh_ok, c2_ok, asA_ok, asB_ok, if_pos (by exact ⟨rfl, rfl, rfl⟩)]
    simp only [ins_kind, asI_ok, scK_and, rd, if_pos hr, rv_buf f hpc a.bl ht, o.len, scK_or]
    rw [mayI_nat]
    have hT : V.may t = match nextI (V.P.code t) (V.l t) with | none => false | some i => !(i.kind == 3 || i.kind == 4) || (V.b t).length == 0 := by
      unfold MV.may; rw [if_pos ht]; rfl
    rw [hT]
    cases hn : nextI (V.P.code t) (V.l t) with
    | none => rfl
    | some q =>
      dsimp only [Option.getD_some, Option.isSome_some]
      have e : ((((V.b t).length : Nat) : Int) == 0) = ((V.b t).length == 0) := by rw [Bool.eq_iff_iff, beq_iff_eq, beq_iff_eq]; omega
      rw [e, Bool.true_and]
      have : (q.kind != 3 && q.kind != 4) = !(q.kind == 3 || q.kind == 4) := by cases h3 : (q.kind == 3) <;> cases h4 : (q.kind == 4) <;> simp [bne, h3, h4]
      rw [this]
  · rw [if_neg (by simp; omega), refFlush_R hE.c197 a f, c3_ok, asI_ok, asI_ok, asB_ok]
    unfold fluOf
    by_cases h2 : V.m = 2 ∧ 4 ≤ i ∧ i < 8
    · rw [if_pos h2]
      obtain ⟨t, rfl⟩ := Int.eq_ofNat_of_zero_le (show 0 ≤ i by omega)
      dsimp only
      rw [scK_ok, show ((t : Int) - 4) = ((t - 4 : Nat) : Int) by omega, oldest_R' hE.c198 a f (by omega) (-1) (oldP 2 0) (fun e => rfl), c1_ok, asI_ok, findIdx_some, bind_ok]
      dsimp only
      rw [mayI_nat]
      congr 4
      unfold MV.may MV.mayF
      rw [if_neg (by omega), if_pos (by omega), h2.1]
      cases V.b (t - 4) with
      | nil => rfl
      | cons e l => rfl
    · rw [if_neg h2]
      by_cases h3 : V.m = 3 ∧ 8 ≤ i ∧ i < 24
      · rw [if_pos h3]
        obtain ⟨t, rfl⟩ := Int.eq_ofNat_of_zero_le (show 0 ≤ i by omega)
        dsimp only
        rw [scK_ok, show (((t : Int) - 8) / 4) = (((t - 8) / 4 : Nat) : Int) by omega, show (((t : Int) - 8) % 4) = (((t - 8) % 4 : Nat) : Int) by omega, oldest_R' hE.c198 a f (by omega) _ (oldP 3 (((t - 8) % 4 : Nat) : Int)) (fun e => by rw [decide_eq_false (by omega)]; rfl), c1_ok, asI_ok, findIdx_some, bind_ok]
        dsimp only
        rw [mayI_nat]
        congr 4
        unfold MV.may MV.mayL
        rw [if_neg (by omega), if_neg (by omega), if_pos (by omega), h3.1]
        rfl
      · rw [if_neg h3]
        dsimp only
        rw [scK_ft]
        congr 4
        unfold mayI
        by_cases h0 : 0 ≤ i
        · rw [decide_eq_true h0, Bool.true_and]
          have hm := f.m
          unfold MV.may MV.mayF MV.mayL
          rw [if_neg (by omega)]
          by_cases h8 : i.toNat < 8
          · rw [if_pos h8, beq_false_of_ne (by omega)]; rfl
          · rw [if_neg h8]
            by_cases h24 : i.toNat < 24
            · rw [if_pos h24, beq_false_of_ne (by omega)]; rfl
            · rw [if_neg h24]
        · rw [decide_eq_false h0]; rfl
end
end Jq

/- Machines of the document: a pick is taken. -/
namespace Jq
open Go

theorem ents_at {l : List Ent} {i : Nat} {e : Ent} (h : l[i]? = some e) : ((entsC l).drop (i * 3)).take 3 = e.cs := by
  unfold entsC
  rw [flat_split h]
  exact seg_get (take_flat_len (f := Ent.cs) (n := 3) (fun _ _ => rfl) (Nat.le_of_lt (getI_lt h))) rfl

theorem rd0G {α : Type} {h : AHeap} {k N : Nat} {l : List Cell} (hb : blk? h k = some ⟨true, 0, l⟩) (hl : l.length = N) {F : List Cell → Option α} : rd0 h k N F = F l := by
  unfold rd0
  rw [hb, Option.bind_some, if_pos rfl]
  exact rdH_ok hb hl

theorem Own.via {n : Nat} {h h' : AHeap} {y : Cell} {esz len : Nat} {cs : List Cell} (o : Own n h y esz cs len) (hf : ∀ j b, isBlk y j → blk? h j = some b → blk? h' j = some b) : Own n h' y esz cs len := by
  refine ⟨o.1, o.2.imp id ?_⟩
  rintro ⟨j, rfl, h1, h2⟩
  exact ⟨j, rfl, h1, hf j _ rfl h2⟩

/-- What a flush is of. -/
theorem flu_data {V : MV} {i : Nat} (h4 : ¬ i < 4) (hi : V.may i = true) : ∃ (t : Nat) (loc : Int) (p : Ent → Bool) (e : Ent), t < 4 ∧ (∀ e, (decide (loc < 0) || e.loc == loc) = p e) ∧ fluOf V.m i = ((t : Int), loc, true) ∧ (V.b t).find? p = some e ∧ V.stp i = ⟨i, t, 6, e.loc, 0, e.val, e.id⟩ ∧
    (V.nx i) = { V with bf := V.bf.set t ((V.b t).eraseP p), mem := V.mem.set e.loc.toNat e.val, frm := V.frm.set e.loc.toNat e.id, st := V.st ++ [V.stp i] } := by
  have h24 := MV.may_lt hi
  have key : ∀ (t : Nat) (loc : Int) (e : Ent), (V.b t).find? (oldP (bmod V.m) loc) = some e → V.stp i = { V.fluS t loc with pick := i } → V.nx i = { V.fluM t loc with st := V.st ++ [V.stp i] } →
      V.stp i = ⟨i, t, 6, e.loc, 0, e.val, e.id⟩ ∧ (V.nx i) = { V with bf := V.bf.set t ((V.b t).eraseP (oldP (bmod V.m) loc)), mem := V.mem.set e.loc.toNat e.val, frm := V.frm.set e.loc.toNat e.id, st := V.st ++ [V.stp i] } := by
    intro t loc e he e1 e2
    have hee : V.fluE t loc = e := by unfold MV.fluE; rw [he]; rfl
    refine ⟨?_, ?_⟩
    · rw [e1]; unfold MV.fluS; rw [hee]
    · rw [e2]; unfold MV.fluM; rw [hee]
  by_cases h8 : i < 8
  · have hi' := hi
    unfold MV.may MV.mayF at hi'
    rw [if_neg h4, if_pos h8, Bool.and_eq_true] at hi'
    have hm2 : V.m = 2 := beq_iff_eq.1 hi'.1
    have hne : (V.b (i - 4)).length ≠ 0 := by simpa using hi'.2
    obtain ⟨e, he⟩ : ∃ e, (V.b (i - 4)).find? (oldP (bmod V.m) 0) = some e := by
      rw [hm2]
      cases hbb : V.b (i - 4) with
      | nil => rw [hbb] at hne; exact absurd rfl hne
      | cons e l => exact ⟨e, rfl⟩
    obtain ⟨k1, k2⟩ := key (i - 4) 0 e he (by unfold MV.stp; rw [if_neg h4, if_pos h8]) (by unfold MV.nx; rw [if_neg h4, if_pos h8])
    refine ⟨i - 4, -1, oldP (bmod V.m) 0, e, by omega, fun e => by rw [hm2]; rfl, ?_, he, k1, k2⟩
    unfold fluOf
    rw [if_pos ⟨hm2, by omega, by omega⟩, show ((i : Int) - 4) = ((i - 4 : Nat) : Int) by omega]
  · have hi' := hi
    unfold MV.may MV.mayL at hi'
    rw [if_neg h4, if_neg h8, if_pos h24, Bool.and_eq_true] at hi'
    have hm3 : V.m = 3 := beq_iff_eq.1 hi'.1
    obtain ⟨e, he⟩ := Option.isSome_iff_exists.1 hi'.2
    have he' : (V.b ((i - 8) / 4)).find? (oldP (bmod V.m) (((i - 8) % 4 : Nat) : Int)) = some e := by rw [hm3]; exact he
    obtain ⟨k1, k2⟩ := key ((i - 8) / 4) _ e he' (by unfold MV.stp; rw [if_neg h4, if_neg h8]) (by unfold MV.nx; rw [if_neg h4, if_neg h8])
    refine ⟨(i - 8) / 4, (((i - 8) % 4 : Nat) : Int), _, e, by omega, fun e => ?_, ?_, he', k1, k2⟩
    · rw [decide_eq_false (by omega), hm3]; rfl
    · unfold fluOf
      rw [if_neg (by omega), if_pos ⟨hm3, by omega, by omega⟩, show (((i : Int) - 8) / 4) = (((i - 8) / 4 : Nat) : Int) by omega, show (((i : Int) - 8) % 4) = (((i - 8) % 4 : Nat) : Int) by omega]

theorem eraseP_idx {l : List Ent} {p : Ent → Bool} {e : Ent} (he : l.find? p = some e) : ∃ j, l.findIdx? p = some j ∧ l[j]? = some e ∧ l.eraseP p = l.take j ++ l.drop (j + 1) := by
  obtain ⟨j, hj⟩ : ∃ j, l.findIdx? p = some j := by
    cases hx : l.findIdx? p with
    | some j => exact ⟨j, rfl⟩
    | none =>
      rw [List.findIdx?_eq_none_iff] at hx
      have := hx e (List.mem_of_find?_eq_some he)
      rw [List.find?_some he] at this; cases this
  obtain ⟨h1, h2, h3⟩ := List.findIdx?_eq_some_iff_getElem.1 hj
  have hfi : l.find? p = some l[j] := by
    rw [List.find?_eq_some_iff_getElem]
    exact ⟨h2, j, h1, rfl, fun k hk => by have := h3 k hk; simpa using this⟩
  rw [hfi] at he
  refine ⟨j, hj, by rw [List.getElem?_eq_getElem h1]; exact he, ?_⟩
  rw [List.eraseP_eq_eraseIdx, hj]
  exact List.eraseIdx_eq_take_drop_succ _ _

section
variable {E : Env}

/-- One step more is kept. -/
theorem rv_push {n k : Nat} {h : AHeap} {x : Cell} {bs pc : List Cell} {W : MV} (b : blk? h k = some ⟨true, 0, rvC pc W bs x⟩) (f : W.Fit) (hpc : pc.length = 3) (bl : bs.length = 4) (hn : n ≤ h.length) (nk : n ≤ k) (prog : ProgAt (h.take n) pc W.P) (st : Own n h x 7 (stepsC W.st) W.st.length) (sep : ¬ isBlk x k)
    (bf : ∀ t, t < 4 → Own n h (bs.getD t .nils) 3 (entsC (W.b t)) (W.b t).length ∧ ¬ isBlk (bs.getD t .nils) k ∧ ∀ j, isBlk (bs.getD t .nils) j → ¬ isBlk x j) (hst : W.st.length < 100000) (s : Stp) :
    ∃ x' h', (∀ {α : Type} (F : AHeap → Option α), (appK 7 56 x s.cs h fun x_57 h_58 => rdH h_58 k 37 fun l_59 => if (0 + 36) < l_59.length then putH h_58 k (l_59.set (0 + 36) x_57) F else none) = F h') ∧
      RvAt n h' k x' bs pc { W with st := W.st ++ [s] } ∧ Kp n h h' ∧ (∀ j b, blk? h j = some b → j ≠ k → ¬ isBlk x j → blk? h' j = some b ∧ ¬ isBlk x' j) := by
  have hb : maxBytes ≥ 200000 * 56 := by unfold maxBytes; omega
  obtain ⟨x', h', e1, o1, k1, r1⟩ := st.app (bytes := 56) hn (stp_len s) (by omega) (by omega) (by omega)
  obtain ⟨c1, c2⟩ := r1 k _ b sep
  have hl := rv_len (x := x) f hpc bl
  have kp2 : Kp n h (setBlk h' k (some ⟨true, 0, rvC pc W bs x'⟩)) := k1.trans (Kp.set nk _)
  have fr : ∀ j b, blk? h j = some b → j ≠ k → ¬ isBlk x j → blk? (setBlk h' k (some ⟨true, 0, rvC pc W bs x'⟩)) j = some b ∧ ¬ isBlk x' j := fun j b hj hne hnx => by
    obtain ⟨d1, d2⟩ := r1 j b hj hnx
    exact ⟨by rw [blk_set_ne (fun e => hne e.symm)]; exact d1, d2⟩
  refine ⟨x', setBlk h' k (some ⟨true, 0, rvC pc W bs x'⟩), fun F => ?_, ⟨Nat.le_trans hn kp2.1, nk, ?_, blk_set_self (blk_lt' c1) _, ?_, c2, bl, fun t ht => ?_⟩, kp2, fr⟩
  · rw [e1, rdH_ok c1 hl, if_pos (by rw [hl]; omega), rv_setX f hpc bl, putB c1]
  · rw [take_keep kp2]; exact prog
  · show Own n _ x' 7 (stepsC (W.st ++ [s])) (W.st ++ [s]).length
    rw [stepsC_snoc, List.length_append, List.length_singleton]
    exact o1.setO c2 _
  · obtain ⟨b1, b2, b3⟩ := bf t ht
    have hj : ∀ j b, isBlk (bs.getD t .nils) j → blk? h j = some b → blk? (setBlk h' k (some ⟨true, 0, rvC pc W bs x'⟩)) j = some b ∧ ¬ isBlk x' j := fun j b q1 q2 => fr j b q2 (fun e => b2 (e ▸ q1)) (b3 j q1)
    refine ⟨b1.via fun j b q1 q2 => (hj j b q1 q2).1, b2, fun j q => ?_⟩
    obtain ⟨_, hlt⟩ := b1.blkLt' q
    rcases b1.2 with ⟨e, _⟩ | ⟨j', e, _, hbb⟩
    · rw [e] at q; exact absurd q (by simp [isBlk])
    · have : j' = j := by rw [e] at q; exact q
      subst this
      exact (hj j' _ q hbb).2

set_option maxHeartbeats 2000000 in
theorem rFlush (hE : jacquardref16_VM_Pick_In E) {n k : Nat} {h : AHeap} {x : Cell} {bs pc : List Cell} {V : MV} (a : RvAt n h k x bs pc V) (v : V.Inv) (hst : V.st.length < 100000) {i : Int} {t : Nat} (ht : t < 4) {loc : Int} {p : Ent → Bool} {e : Ent}
    (hp : ∀ e, (decide (loc < 0) || e.loc == loc) = p e) (hf : (V.b t).find? p = some e) (z : List Cell) (hz : z.length = 7) :
    ∃ x' bs' h', (jacquardref16_VM_Pick_k6 (R E) Lim E.glob) .normal (jacquardref16_VM_Pick_c5 k 37 0 i V.st.length (t : Int) loc true z (Stp.cs ⟨i, i, 0, 0, 0, 0, -1⟩) h) = some (.ret, jacquardref16_VM_Pick_c4_0 true (Stp.cs ⟨i, t, 6, e.loc, 0, e.val, e.id⟩) h') ∧
      RvAt n h' k x' bs' pc { V with bf := V.bf.set t ((V.b t).eraseP p), mem := V.mem.set e.loc.toNat e.val, frm := V.frm.set e.loc.toNat e.id, st := V.st ++ [⟨i, t, 6, e.loc, 0, e.val, e.id⟩] } ∧ KpV n k x x' h h' := by
  have f := v.fit
  have hpc := a.prog.len
  have hl := rv_len (x := x) f hpc a.bl
  have hr : 0 ≤ (t : Int) ∧ (t : Int) < ((4 : Nat) : Int) := ⟨by omega, by omega⟩
  have hk : k < h.length := blk_lt' a.blk
  have hbl := v.blen ht
  obtain ⟨j, hj, hje, her⟩ := eraseP_idx hf
  have hjl := getI_lt hje
  have hel := v.mem_b (List.mem_of_getElem? hje)
  have hel' : 0 ≤ e.loc ∧ e.loc < ((4 : Nat) : Int) := ⟨hel.1, by omega⟩
  have he4 : e.loc.toNat < 4 := by omega
  have hM : maxBytes ≥ 1000 * 24 := by unfold maxBytes; omega
  obtain ⟨b1, b2, b3⟩ := a.bf t ht
  -- the new row
  have kA : Kp h.length h (h ++ [some ⟨true, 3, ([] : List Cell)⟩]) := Kp.app _ (Nat.le_refl _)
  obtain ⟨⟨xa, ea1, ea2⟩, _⟩ := (b1.keepK kA).slc (by omega) (a := j) (by omega)
  have tk := ents_take (V.b t) j
  rw [Nat.min_eq_left (by omega)] at tk
  rw [tk.1] at ea2
  have lenA : (entsC ((V.b t).take j)).length = j * 3 := by rw [entsC_len, List.length_take, Nat.min_eq_left (by omega)]
  have kB : Kp h.length h (h ++ [some ⟨true, 3, entsC ((V.b t).take j)⟩]) := Kp.app _ (Nat.le_refl _)
  have oB : Own h.length (h ++ [some ⟨true, 3, entsC ((V.b t).take j)⟩]) (.sl h.length (entsC ((V.b t).take j)).length 0 j) 3 (entsC ((V.b t).take j)) j := ⟨lenA, .inr ⟨h.length, rfl, Nat.le_refl _, blk_new _ _⟩⟩
  obtain ⟨_, ⟨xb, eb1, eb2⟩⟩ := (b1.keepK kB).slc (by omega) (a := j + 1) (by omega)
  have tk2 := ents_take (V.b t) (j + 1)
  rw [Nat.min_eq_left (by omega)] at tk2
  rw [tk2.2] at eb2
  have lenB : (entsC ((V.b t).drop (j + 1))).length = ((V.b t).length - (j + 1)) * 3 := by rw [entsC_len, List.length_drop]
  obtain ⟨x3, h3, e3, o3, k3, _⟩ := oB.appN (bytes := 24) (by simp) lenB (by omega) (by omega) (by omega)
  have kC : Kp h.length h h3 := kB.trans k3
  have nl : ((V.b t).eraseP p).length = j + ((V.b t).length - (j + 1)) := by rw [her, List.length_append, List.length_take, List.length_drop, Nat.min_eq_left (by omega)]
  have o3' : Own h.length h3 x3 3 (entsC ((V.b t).eraseP p)) ((V.b t).eraseP p).length := by rw [nl, her, entsC_append]; exact o3
  have bk3 : blk? h3 k = some ⟨true, 0, rvC pc V bs x⟩ := by rw [kC.blk hk]; exact a.blk
  have bl' : (bs.set t x3).length = 4 := by rw [List.length_set]; exact a.bl
  have el24 : ((V.b t).eraseP p).length ≤ 24 := by omega
  have f1 : MV.Fit { V with bf := V.bf.set t ((V.b t).eraseP p) } := ⟨f.m, f.lc, f.mem, f.frm, by rw [List.length_set]; exact f.bf, fun l hl => by
    rcases List.mem_or_eq_of_mem_set hl with hl | rfl
    · exact f.b l hl
    · exact el24⟩
  have f2 : MV.Fit { V with bf := V.bf.set t ((V.b t).eraseP p), mem := V.mem.set e.loc.toNat e.val } := ⟨f1.m, f1.lc, by rw [List.length_set]; exact f1.mem, f1.frm, f1.bf, f1.b⟩
  have f3 : MV.Fit { V with bf := V.bf.set t ((V.b t).eraseP p), mem := V.mem.set e.loc.toNat e.val, frm := V.frm.set e.loc.toNat e.id } := ⟨f2.m, f2.lc, f2.mem, by rw [List.length_set]; exact f2.frm, f2.bf, f2.b⟩
  have hbW : ∀ (t' : Nat), (MV.mk V.P V.m V.lc (V.mem.set e.loc.toNat e.val) (V.frm.set e.loc.toNat e.id) (V.bf.set t ((V.b t).eraseP p)) V.st).b t' = if t' = t then (V.b t).eraseP p else V.b t' := fun t' => by
    show (V.bf.set t _).getD t' [] = _
    rw [getDset (by rw [f.bf]; exact ht)]; rfl
  have k3l : k < h3.length := blk_lt' bk3
  have bw : ∀ l, blk? (setBlk h3 k (some ⟨true, 0, l⟩)) k = some ⟨true, 0, l⟩ := fun l => blk_set_self k3l _
  have kD : ∀ b, Kp n h (setBlk h3 k b) := fun b => (kC.mono a.hn).trans (Kp.set a.nk b)
  have xlt : ∀ j, isBlk x j → j < h.length := fun j q => (a.st.blkLt' q).2
  obtain ⟨x', h', e9, r9, k9, fr9⟩ := rv_push (W := { V with bf := V.bf.set t ((V.b t).eraseP p), mem := V.mem.set e.loc.toNat e.val, frm := V.frm.set e.loc.toNat e.id }) (bs := bs.set t x3) (bw _) f3 hpc bl' (Nat.le_trans a.hn (kD _).1) a.nk (by rw [take_keep (kD _)]; exact a.prog)
    ((a.st.keepK kC).setO a.sep _) a.sep (fun t' ht' => by
      rw [hbW, getDset (by rw [a.bl]; exact ht)]
      by_cases e : t' = t
      · rw [if_pos e, if_pos e]
        have nk3 : ¬ isBlk x3 k := fun q => by have := (o3.blkLt q).2; omega
        exact ⟨(o3'.monoN a.hn).setO nk3 _, nk3, fun j q1 q2 => by have := (o3.blkLt q1).2; have := xlt j q2; omega⟩
      · rw [if_neg e, if_neg e]
        obtain ⟨q1, q2, q3⟩ := a.bf t' ht'
        exact ⟨(q1.keepK kC).setO q2 _, q2, q3⟩) hst ⟨i, t, 6, e.loc, 0, e.val, e.id⟩
  refine ⟨x', bs.set t x3, h', ?_, r9, ⟨(kD _).trans k9, fun j b hj hne hnx => fr9 j b (by rw [blk_set_ne (fun e => hne e.symm), kC.blk (blk_lt' hj)]; exact hj) hne hnx⟩⟩
  have rd : ∀ {α : Type} {F : List Cell → Option α}, rdH h k 37 F = F (rvC pc V bs x) := fun {α F} => rdH_ok a.blk hl
  have bA : blk? (h ++ [some ⟨true, 3, ([] : List Cell)⟩]) k = some ⟨true, 0, rvC pc V bs x⟩ := blk_old a.blk _
  have bB : blk? (h ++ [some ⟨true, 3, entsC ((V.b t).take j)⟩]) k = some ⟨true, 0, rvC pc V bs x⟩ := blk_old a.blk _
  have rdW : ∀ (W : MV) (fW : W.Fit) {α : Type} {F : List Cell → Option α}, rdH (setBlk h3 k (some ⟨true, 0, rvC pc W (bs.set t x3) x⟩)) k 37 F = F (rvC pc W (bs.set t x3) x) := fun W fW {α F} => rdH_ok (bw _) (rv_len (x := x) fW hpc bl')
  obtain ⟨off, cs', g1, g2, g3⟩ := b1.at.elG hjl
  rw [ents_at hje] at g3
  have ca0 : ∀ {α : Type} {g : Cell → Option α}, atK e.cs 0 g = g (.int .i64 e.loc) := rfl
  have ca1 : ∀ {α : Type} {g : Cell → Option α}, atK e.cs 1 g = g (.int .i64 e.val) := rfl
  have ca2 : ∀ {α : Type} {g : Cell → Option α}, atK e.cs 2 g = g (.int .i64 e.id) := rfl
  rw [jacquardref16_VM_Pick_ec5_n, if_pos rfl, oldest_R' hE.c198 a f ht loc p hp, c1_ok, asI_ok, hj, bind_ok]
  dsimp only
  rw [jacquardref16_VM_Pick_ec6_n, if_pos hr, rd, Int.toNat_natCast, rv_buf f hpc a.bl ht, g1, if_pos g2, g3, if_pos (by exact ⟨rfl, rfl, rfl⟩), bind_ok]
  dsimp only
  rw [jacquardref16_VM_Pick_ec7_n, if_pos (by rfl), if_pos hr, Int.toNat_natCast, rd0G bA hl, rv_buf f hpc a.bl ht, ea1, ea2, bind_ok, show ([] : List Cell).length = 0 from rfl, app_emptyG (len := j) (by omega) lenA (by omega) (by omega), if_pos hr, rd0G bB hl, rv_buf f hpc a.bl ht, g_succ (by omega), eb1, eb2, bind_ok, e3, if_pos hr, rdH_ok bk3 hl, if_pos (by rw [hl]; omega), rv_setB f hpc a.bl ht, putB bk3, bind_ok]
  dsimp only
  rw [jacquardref16_VM_Pick_ec8_n, ca0, asI_ok, ca0, asI_ok, ca1, asI_ok, ca2, asI_ok]
  have e1 : rvC pc V (bs.set t x3) x = rvC pc { V with bf := V.bf.set t ((V.b t).eraseP p) } (bs.set t x3) x := rfl
  rw [e1, if_pos hel', rdW _ f1, if_pos (by rw [rv_len (x := x) f1 hpc bl']; omega), rv_setM f1 hpc he4, putB (bw _), setBlk_set, if_pos hel', rdW _ f2, if_pos (by rw [rv_len (x := x) f2 hpc bl']; omega), rv_setF f2 hpc he4, putB (bw _), setBlk_set, bind_ok]
  dsimp only
  rw [jacquardref16_VM_Pick_ec9_n, ca0, asI_ok, ca1, asI_ok, ca2, asI_ok, if_pos (by exact (by decide : 1 < 7)), if_pos (by exact (by decide : 2 < 7)), if_pos (by exact (by decide : 3 < 7)), if_pos (by exact (by decide : 5 < 7)), if_pos (by exact (by decide : 6 < 7)), bind_ok]
  dsimp only
  have eS : ((((((Stp.cs ⟨i, i, 0, 0, 0, 0, -1⟩).set 1 (.int .i64 (t : Int))).set 2 (.int .i64 6)).set 3 (.int .i64 e.loc)).set 5 (.int .i64 e.val)).set 6 (.int .i64 e.id)) = Stp.cs ⟨i, t, 6, e.loc, 0, e.val, e.id⟩ := rfl
  have s7' : ∀ s : Stp, splice (List.replicate 7 (Cell.int .i64 0)) 0 s.cs = s.cs := fun _ => rfl
  rw [eS, jacquardref16_VM_Pick_ec10_n, rdW _ f3, rv_steps f3 hpc bl', if_pos (by exact ⟨rfl, rfl⟩), if_pos (by exact ⟨rfl, by decide⟩), s7', if_pos (by exact rfl), e9, if_pos (by exact ⟨rfl, rfl⟩), if_pos (by exact ⟨rfl, hz, rfl⟩)]
end
end Jq

/- Machines of the document: a thread's pick; any pick. -/
namespace Jq
open Go

theorem wr_fit {V : MV} (v : V.Inv) {i : Nat} (e : Evt) (hb : (V.b i).length < 24) : (V.wr i e).Fit := by
  have f := v.fit
  unfold MV.wr
  split
  · refine ⟨f.m, f.lc, f.mem, f.frm, by rw [List.length_set]; exact f.bf, fun l hl => ?_⟩
    rcases List.mem_or_eq_of_mem_set hl with hl | rfl
    · exact f.b l hl
    · rw [List.length_append, List.length_singleton]; omega
  · split
    · exact ⟨f.m, f.lc, by rw [List.length_set]; exact f.mem, by rw [List.length_set]; exact f.frm, f.bf, f.b⟩
    · exact f

section
variable {E : Env}

set_option maxHeartbeats 1000000 in
/-- What an event does to memory. -/
theorem rWrite {n k : Nat} {h : AHeap} {x : Cell} {bs pc : List Cell} {V : MV} (a : RvAt n h k x bs pc V) (v : V.Inv) {i : Nat} (hi : i < 4) (hb : (V.b i).length < 24) (e : Evt) (he : 0 ≤ e.loc ∧ e.loc < 4) (he45 : e.kind = 2 ∨ e.kind = 4 ∨ evWr e = false) (a15 : Int) (z s1 : List Cell) :
    ∃ bs' h', (jacquardref16_VM_Pick_k25 (R E) Lim E.glob) .normal (jacquardref16_VM_Pick_c20 k 37 0 (i : Int) V.st.length a15 (e.kind == 4 || (e.kind == 2 && V.m == 1)) z s1 e.cs h) = some (.normal, jacquardref16_VM_Pick_c19 k 37 0 (i : Int) a15 z s1 h') ∧
      blk? h' k = some ⟨true, 0, rvC pc (V.wr i e) bs' x⟩ ∧ bs'.length = 4 ∧ (∀ t, t < 4 → Own n h' (bs'.getD t .nils) 3 (entsC ((V.wr i e).b t)) ((V.wr i e).b t).length ∧ ¬ isBlk (bs'.getD t .nils) k ∧ ∀ j, isBlk (bs'.getD t .nils) j → ¬ isBlk x j) ∧
      Kp n h h' ∧ (∀ j b, blk? h j = some b → j ≠ k → blk? h' j = some b) := by
  have f := v.fit
  have hpc := a.prog.len
  have hl := rv_len (x := x) f hpc a.bl
  have hr : 0 ≤ (i : Int) ∧ (i : Int) < ((4 : Nat) : Int) := ⟨by omega, by omega⟩
  have hk : k < h.length := blk_lt' a.blk
  have hel' : 0 ≤ e.loc ∧ e.loc < ((4 : Nat) : Int) := ⟨he.1, by omega⟩
  have he4 : e.loc.toNat < 4 := by omega
  have hM : maxBytes ≥ 1000 * 24 := by unfold maxBytes; omega
  have rd : ∀ {α : Type} {F : List Cell → Option α}, rdH h k 37 F = F (rvC pc V bs x) := fun {α F} => rdH_ok a.blk hl
  have bw : ∀ l, blk? (setBlk h k (some ⟨true, 0, l⟩)) k = some ⟨true, 0, l⟩ := fun l => blk_set_self hk _
  have xlt : ∀ j, isBlk x j → j < h.length := fun j q => (a.st.blkLt' q).2
  rw [jacquardref16_VM_Pick_ec20_n]
  by_cases hmem : e.kind = 4 ∨ (e.kind = 2 ∧ V.m = 1)
  · rw [if_pos (by rw [Bool.or_eq_true, Bool.and_eq_true, beq_iff_eq, beq_iff_eq, beq_iff_eq]; exact hmem)]
    have hw : V.wr i e = { V with mem := V.mem.set e.loc.toNat e.w, frm := V.frm.set e.loc.toNat V.st.length } := by
      unfold MV.wr
      rw [if_neg (by omega), if_pos (by unfold evWr; rw [Bool.or_eq_true, beq_iff_eq, beq_iff_eq]; omega)]
    rw [hw]
    have f1 : MV.Fit { V with mem := V.mem.set e.loc.toNat e.w } := ⟨f.m, f.lc, by rw [List.length_set]; exact f.mem, f.frm, f.bf, f.b⟩
    have rd1 : ∀ {α : Type} {F : List Cell → Option α}, rdH (setBlk h k (some ⟨true, 0, rvC pc { V with mem := V.mem.set e.loc.toNat e.w } bs x⟩)) k 37 F = F (rvC pc { V with mem := V.mem.set e.loc.toNat e.w } bs x) := fun {α F} => rdH_ok (bw _) (rv_len (x := x) f1 hpc a.bl)
    refine ⟨bs, setBlk h k (some ⟨true, 0, rvC pc { V with mem := V.mem.set e.loc.toNat e.w, frm := V.frm.set e.loc.toNat V.st.length } bs x⟩), ?_, bw _, a.bl, fun t ht => ?_, Kp.set a.nk _, fun j b hj hne => by rw [blk_set_ne (fun e => hne e.symm)]; exact hj⟩
    · rw [evt_loc, asI_ok, evt_loc, asI_ok, evt_w, asI_ok, if_pos hel', rd, if_pos (by rw [hl]; omega), rv_setM f hpc he4, putB a.blk, if_pos hel', rd1, if_pos (by rw [rv_len (x := x) f1 hpc a.bl]; omega), rv_setF f1 hpc he4, putB (bw _), setBlk_set]
    · obtain ⟨q1, q2, q3⟩ := a.bf t ht
      exact ⟨q1.setO q2 _, q2, q3⟩
  · rw [if_neg (by rw [Bool.or_eq_true, Bool.and_eq_true, beq_iff_eq, beq_iff_eq, beq_iff_eq]; exact hmem), evt_kind, asI_ok, bind_ok]
    dsimp only
    rw [jacquardref16_VM_Pick_ec21_n]
    by_cases h2 : e.kind = 2
    · have hm1 : V.m ≠ 1 := fun q => hmem (.inr ⟨h2, q⟩)
      have hw : V.wr i e = { V with bf := V.bf.set i (V.b i ++ [⟨e.loc, e.w, V.st.length⟩]) } := by
        unfold MV.wr
        rw [if_pos ⟨h2, hm1⟩]
      rw [hw]
      obtain ⟨b1, b2, b3⟩ := a.bf i hi
      have kA : Kp h.length h (h ++ [some ⟨true, 3, ([] : List Cell)⟩]) := Kp.app _ (Nat.le_refl _)
      have cl := (b1.keepK kA).at.cellsG
      have lenA : (entsC (V.b i)).length = (V.b i).length * 3 := entsC_len _
      have oB : Own h.length (h ++ [some ⟨true, 3, entsC (V.b i)⟩]) (.sl h.length (entsC (V.b i)).length 0 (V.b i).length) 3 (entsC (V.b i)) (V.b i).length := ⟨lenA, .inr ⟨h.length, rfl, Nat.le_refl _, blk_new _ _⟩⟩
      have kB : Kp h.length h (h ++ [some ⟨true, 3, entsC (V.b i)⟩]) := Kp.app _ (Nat.le_refl _)
      obtain ⟨x3, h3, e3, o3, k3, _⟩ := oB.app (bytes := 24) (xs := Ent.cs ⟨e.loc, e.w, V.st.length⟩) (by simp) rfl (by omega) (by omega) (by omega)
      have kC : Kp h.length h h3 := kB.trans k3
      have o3' : Own h.length h3 x3 3 (entsC (V.b i ++ [⟨e.loc, e.w, V.st.length⟩])) (V.b i ++ [(⟨e.loc, e.w, V.st.length⟩ : Ent)]).length := by
        rw [entsC_append, List.length_append, List.length_singleton]; exact o3
      have bk3 : blk? h3 k = some ⟨true, 0, rvC pc V bs x⟩ := by rw [kC.blk hk]; exact a.blk
      have k3l : k < h3.length := blk_lt' bk3
      have bA : blk? (h ++ [some ⟨true, 3, ([] : List Cell)⟩]) k = some ⟨true, 0, rvC pc V bs x⟩ := blk_old a.blk _
      have nk3 : ¬ isBlk x3 k := fun q => by have := (o3.blkLt q).2; omega
      refine ⟨bs.set i x3, setBlk h3 k (some ⟨true, 0, rvC pc V (bs.set i x3) x⟩), ?_, blk_set_self k3l _, by rw [List.length_set]; exact a.bl, fun t ht => ?_, (kC.mono a.hn).trans (Kp.set a.nk _), fun j b hj hne => by rw [blk_set_ne (fun e => hne e.symm), kC.blk (blk_lt' hj)]; exact hj⟩
      · rw [if_pos (by rw [beq_iff_eq]; exact h2), if_pos (by rfl), if_pos hr, rd0G bA hl, Int.toNat_natCast, rv_buf f hpc a.bl hi, cl, bind_ok, show ([] : List Cell).length = 0 from rfl, app_emptyG (len := (V.b i).length) (by omega) lenA (by omega) (by omega), evt_loc, asI_ok, evt_w, asI_ok, if_pos (by exact ⟨rfl, by decide⟩), if_pos (by rfl)]
        have eE : splice [Cell.int .i64 0, Cell.int .i64 0, Cell.int .i64 0] 0 (splice (splice (splice [Cell.int .i64 0, Cell.int .i64 0, Cell.int .i64 0] 0 ([(.int .i64 e.loc)] : List Cell)) 1 ([(.int .i64 e.w)] : List Cell)) 2 ([(.int .i64 (V.st.length : Int))] : List Cell)) = Ent.cs ⟨e.loc, e.w, V.st.length⟩ := rfl
        rw [eE, e3, if_pos hr, rdH_ok bk3 hl, if_pos (by rw [hl]; omega), rv_setB f hpc a.bl hi, putB bk3]
      · have hbW : (MV.mk V.P V.m V.lc V.mem V.frm (V.bf.set i (V.b i ++ [⟨e.loc, e.w, V.st.length⟩])) V.st).b t = if t = i then V.b i ++ [⟨e.loc, e.w, V.st.length⟩] else V.b t := by
          show (V.bf.set i _).getD t [] = _
          rw [getDset (by rw [f.bf]; exact hi)]; rfl
        rw [hbW, getDset (by rw [a.bl]; exact hi)]
        by_cases q : t = i
        · rw [if_pos q, if_pos q]
          exact ⟨(o3'.monoN a.hn).setO nk3 _, nk3, fun j q1 q2 => by have := (o3.blkLt q1).2; have := xlt j q2; omega⟩
        · rw [if_neg q, if_neg q]
          obtain ⟨q1, q2, q3⟩ := a.bf t ht
          exact ⟨(q1.keepK kC).setO q2 _, q2, q3⟩
    · have hw : V.wr i e = V := by
        unfold MV.wr
        have : evWr e = false := by
          rcases he45 with q | q | q
          · exact absurd q h2
          · exact absurd (.inl q) hmem
          · exact q
        rw [if_neg (fun c => h2 c.1), this]; rfl
      rw [hw]
      exact ⟨bs, h, by rw [if_neg (by rw [beq_iff_eq]; exact h2)], a.blk, a.bl, a.bf, Kp.refl _ _, fun j b hj _ => hj⟩

/-- What is read. -/
theorem rRead {n k : Nat} {h : AHeap} {x : Cell} {bs pc : List Cell} {V : MV} (a : RvAt n h k x bs pc V) (f : V.Fit) {i : Nat} (hi : i < 4) {q : Ins} (hq : 0 ≤ q.loc ∧ q.loc < 4) (n6 : Int) (z : List Cell) :
    (jacquardref16_VM_Pick_k14 (R E) Lim E.glob) .normal (jacquardref16_VM_Pick_c13 k 37 0 (i : Int) n6 0 (rdI q) z (Stp.cs ⟨i, i, 0, 0, 0, 0, -1⟩) q.cs h) =
      some (.normal, jacquardref16_VM_Pick_c12 k 37 0 (i : Int) n6 (if rdI q = true then (V.val i q).1 else 0) z (Stp.cs ⟨i, i, 0, 0, 0, 0, if rdI q = true then (V.val i q).2 else -1⟩) q.cs h) := by
  have hpc := a.prog.len
  have hl := rv_len (x := x) f hpc a.bl
  have hr : 0 ≤ (i : Int) ∧ (i : Int) < ((4 : Nat) : Int) := ⟨by omega, by omega⟩
  have rd : ∀ {α : Type} {F : List Cell → Option α}, rdH h k 37 F = F (rvC pc V bs x) := fun {α F} => rdH_ok a.blk hl
  have hql : 0 ≤ q.loc ∧ q.loc < ((4 : Nat) : Int) := ⟨hq.1, by omega⟩
  have hq4 : q.loc.toNat < 4 := by omega
  have hmem : V.mem[q.loc.toNat]? = some (V.mem.getD q.loc.toNat 0) := by
    rw [List.getD_eq_getElem?_getD, List.getElem?_eq_getElem (by rw [f.mem]; exact hq4)]; rfl
  have hfrm : V.frm[q.loc.toNat]? = some (V.frm.getD q.loc.toNat 0) := by
    rw [List.getD_eq_getElem?_getD, List.getElem?_eq_getElem (by rw [f.frm]; exact hq4)]; rfl
  have o := (a.bf i hi).1.at
  have hbl : (V.b i).length ≤ 24 := f.b _ (List.mem_of_getElem? (MV.b_at (by rw [f.bf]; exact hi)))
  rw [jacquardref16_VM_Pick_ec13_n]
  cases hrd : rdI q with
  | false => rfl
  | true =>
    rw [if_pos rfl, if_pos rfl, if_pos rfl]
    generalize hg : (fun l : List Ent => match newE q.loc l with | some e => (e.val, e.id) | none => (V.mem.getD q.loc.toNat 0, V.frm.getD q.loc.toNat 0)) = g
    have g0 : g [] = (V.mem.getD q.loc.toNat 0, V.frm.getD q.loc.toNat 0) := by rw [← hg]; rfl
    have gs : ∀ (l : List Ent) (e : Ent), g (l ++ [e]) = if e.loc = q.loc then (e.val, e.id) else g l := fun l e => by
      rw [← hg]
      dsimp only
      rw [newE_snoc]
      by_cases c : e.loc = q.loc
      · rw [if_pos c, if_pos c]
      · rw [if_neg c, if_neg c]
    have gv : V.val i q = g (V.b i) := by rw [← hg]; rfl
    have lp : Lim (jacquardref16_VM_Pick_F1 (R E) Lim E.glob) (jacquardref16_VM_Pick_s1 k 37 0 (i : Int) n6 (g []).1 ((0 : Nat) : Int) z (Stp.cs ⟨i, i, 0, 0, 0, 0, (g []).2⟩) q.cs h) = some (.exit 0, jacquardref16_VM_Pick_x1_1 k 37 0 (i : Int) n6 (g (V.b i)).1 z (Stp.cs ⟨i, i, 0, 0, 0, 0, (g (V.b i)).2⟩) q.cs h) := by
      have lc := Lim_count (F := jacquardref16_VM_Pick_F1 (R E) Lim E.glob) (fun j => jacquardref16_VM_Pick_s1 k 37 0 (i : Int) n6 (g ((V.b i).take j)).1 (j : Int) z (Stp.cs ⟨i, i, 0, 0, 0, 0, (g ((V.b i).take j)).2⟩) q.cs h) 0 (V.b i).length (by omega) (fun j _ hj => by
        have he : (V.b i)[j]? = some (V.b i)[j] := List.getElem?_eq_getElem hj
        generalize (V.b i)[j] = e at he
        rw [takeI_succ he, gs]
        rw [jacquardref16_VM_Pick_r1, if_pos hr, rd, Int.toNat_natCast, rv_buf f hpc a.bl hi, o.len, if_pos (by simp; omega), bind_ok]
        dsimp only
        rw [jacquardref16_VM_Pick_ec15_n, if_pos hr, rd, Int.toNat_natCast, rv_buf f hpc a.bl hi, ent_loc o he, asI_ok, ins_loc, asI_ok, bind_ok]
        dsimp only
        rw [jacquardref16_VM_Pick_ec16_n, g_succ (by omega)]
        by_cases c : e.loc = q.loc
        · rw [if_pos (by rw [beq_iff_eq]; exact c), if_pos c, if_pos hr, rd, Int.toNat_natCast, rv_buf f hpc a.bl hi, ent_val o he, asI_ok, if_pos hr, rd, rv_buf f hpc a.bl hi, ent_id o he, asI_ok, if_pos (by exact (by decide : 6 < 7))]
          rfl
        · rw [if_neg (by rw [beq_iff_eq]; exact c), if_neg c]) (p := (.exit 0, jacquardref16_VM_Pick_x1_1 k 37 0 (i : Int) n6 (g (V.b i)).1 z (Stp.cs ⟨i, i, 0, 0, 0, 0, (g (V.b i)).2⟩) q.cs h)) (Lim_exit (by
        rw [jacquardref16_VM_Pick_r1, if_pos hr, rd, Int.toNat_natCast, rv_buf f hpc a.bl hi, o.len, if_neg (by simp), bind_ok, List.take_of_length_le (Nat.le_refl _)]
        dsimp only
        rw [jacquardref16_VM_Pick_ec15_1]))
      rw [List.take_zero] at lc
      exact lc
    rw [show ((0 : Nat) : Int) = 0 from rfl, g0] at lp
    rw [ins_loc, asI_ok, if_pos hql, rd, rv_mem f hpc hmem, asI_ok, ins_loc, asI_ok, if_pos hql, rd, rv_frm f hpc hfrm, asI_ok, if_pos (by exact (by decide : 6 < 7)), bind_ok]
    dsimp only
    rw [show (Stp.cs ⟨i, i, 0, 0, 0, 0, -1⟩).set 6 (.int .i64 (V.frm.getD q.loc.toNat 0)) = Stp.cs ⟨i, i, 0, 0, 0, 0, V.frm.getD q.loc.toNat 0⟩ from rfl, jacquardref16_VM_Pick_ec14_n, lp, bind_ok]
    dsimp only
    rw [jacquardref16_VM_Pick_e1_1, gv]

set_option maxHeartbeats 2000000 in
theorem rThread (hE : jacquardref16_VM_Pick_In E) {n k : Nat} {h : AHeap} {x : Cell} {bs pc : List Cell} {V : MV} (a : RvAt n h k x bs pc V) (v : V.Inv) (hg : V.P.good) (hst : V.st.length < 100000) {i : Nat} (h4 : i < 4) (hi : V.may i = true) (h0 : AHeap) (z : List Cell) (hz : z.length = 7) :
    ∃ x' bs' h', (jacquardref16_VM_Pick_k5 (R E) Lim E.glob h0) .normal (jacquardref16_VM_Pick_c4 k 37 0 (i : Int) V.st.length z (Stp.cs ⟨i, i, 0, 0, 0, 0, -1⟩) h) = some ([.agg (V.stp i).cs, .c (.bool true)], h') ∧ RvAt n h' k x' bs' pc (V.nx i) ∧ KpV n k x x' h h' := by
  have f := v.fit
  have hpc := a.prog.len
  have hl := rv_len (x := x) f hpc a.bl
  have hr : 0 ≤ (i : Int) ∧ (i : Int) < ((4 : Nat) : Int) := ⟨by omega, by omega⟩
  have hk : k < h.length := blk_lt' a.blk
  have rd : ∀ {α : Type} {F : List Cell → Option α}, rdH h k 37 F = F (rvC pc V bs x) := fun {α F} => rdH_ok a.blk hl
  have p := prog_at a.prog a.hn (Kp.refl n h)
  have hql := MV.l_at (V := V) (t := i) (by rw [f.lc]; exact h4)
  have hq := MV.may_thr h4 hi
  have hS : V.stp i = { V.thrS i (V.thrI i) with pick := i } := by unfold MV.stp; rw [if_pos h4]
  have hN : V.nx i = { V.thrM i (V.thrI i) with st := V.st ++ [V.stp i] } := by unfold MV.nx; rw [if_pos h4]
  generalize V.thrI i = q at hq hS hN
  obtain ⟨q1, q2, q3, q4, q5⟩ := v.nxt hq
  have hbl : (V.b i).length < 24 := by have := v.pcs i h4; omega
  have hrd : (q.kind == 2 || q.kind == 4) = rdI q := by unfold rdI; rw [Bool.eq_iff_iff]; simp
  -- the value
  generalize ha15 : (if rdI q = true then (V.val i q).1 else 0) = a15
  have hev : evOf q (V.l i) a15 = evOf q (V.l i) (V.val i q).1 := by
    cases c : rdI q with
    | true => rw [← ha15, c, if_pos rfl]
    | false => exact evOf_novalue c _ _ _
  have haf : afterL (V.P.code i) (V.l i) a15 = afterL (V.P.code i) (V.l i) (V.val i q).1 := by
    cases c : rdI q with
    | true => rw [← ha15, c, if_pos rfl]
    | false => exact afterL_novalue hq c _ _
  have rR := rRead (E := E) a f h4 q1 V.st.length z
  rw [ha15] at rR
  generalize hfr : (if rdI q = true then (V.val i q).2 else -1) = fr at rR
  -- the event
  generalize hee : evOf q (V.l i) (V.val i q).1 = e at *
  have he : 0 ≤ e.loc ∧ e.loc < 4 := by rw [← hee]; exact evOf_loc q1
  have he45 : e.kind = 2 ∨ e.kind = 4 ∨ evWr e = false := by
    by_cases c2 : e.kind = 2
    · exact .inl c2
    · by_cases c4 : e.kind = 4
      · exact .inr (.inl c4)
      · refine .inr (.inr ?_)
        unfold evWr
        rw [beq_false_of_ne c2, beq_false_of_ne c4]; rfl
  have eS : V.stp i = ⟨i, i, e.kind, e.loc, e.r, e.w, fr⟩ := by
    rw [hS]; unfold MV.thrS; rw [hee, hfr]
  obtain ⟨bs', h', w1, w2, w3, w4, w5, w6⟩ := rWrite (E := E) a v h4 hbl e he he45 a15 z (V.stp i).cs
  have fW := wr_fit v e hbl
  obtain ⟨wl, wP, wm⟩ := V.wr_lc i e
  have hl' := rv_len (x := x) fW hpc w3
  have hk' : k < h'.length := blk_lt' w2
  have p' := prog_at a.prog a.hn w5
  have fN : MV.Fit { V.wr i e with lc := V.lc.set i (afterL (V.P.code i) (V.l i) (V.val i q).1) } := ⟨fW.m, by rw [List.length_set]; exact f.lc, fW.mem, fW.frm, fW.bf, fW.b⟩
  have hsetL : splice (rvC pc (V.wr i e) bs' x) ((0 + 12) + i * 5) (afterL (V.P.code i) (V.l i) a15).cs = rvC pc { V.wr i e with lc := V.lc.set i (afterL (V.P.code i) (V.l i) (V.val i q).1) } bs' x := by
    rw [haf, rv_setL fW hpc h4, wl]
  have k5 : Kp n h' (setBlk h' k (some ⟨true, 0, rvC pc { V.wr i e with lc := V.lc.set i (afterL (V.P.code i) (V.l i) (V.val i q).1) } bs' x⟩)) := Kp.set a.nk _
  have kk : Kp n h (setBlk h' k (some ⟨true, 0, rvC pc { V.wr i e with lc := V.lc.set i (afterL (V.P.code i) (V.l i) (V.val i q).1) } bs' x⟩)) := w5.trans k5
  have hstW : (V.wr i e).st = V.st := by unfold MV.wr; split <;> (try split) <;> rfl
  obtain ⟨x', h9, e9, r9, k9, fr9⟩ := rv_push (W := { V.wr i e with lc := V.lc.set i (afterL (V.P.code i) (V.l i) (V.val i q).1) }) (bs := bs') (x := x) (blk_set_self hk' _) fN hpc w3 (Nat.le_trans a.hn kk.1) a.nk (by rw [take_keep kk]; show ProgAt _ _ (V.wr i e).P; rw [wP]; exact a.prog)
    (by
      show Own n _ x 7 (stepsC (V.wr i e).st) (V.wr i e).st.length
      rw [hstW]
      exact a.st.via fun j b s1 s2 => by
        have hne : j ≠ k := fun c => a.sep (c ▸ s1)
        rw [blk_set_ne (fun c => hne c.symm)]; exact w6 j b s2 hne) a.sep
    (fun t ht => by
      obtain ⟨s1, s2, s3⟩ := w4 t ht
      exact ⟨s1.setO s2 _, s2, s3⟩) (by show (V.wr i e).st.length < 100000; rw [hstW]; exact hst) (V.stp i)
  have hNX : V.nx i = { V.wr i e with lc := V.lc.set i (afterL (V.P.code i) (V.l i) (V.val i q).1), st := (V.wr i e).st ++ [V.stp i] } := by
    rw [hN, hstW]; unfold MV.thrM; rw [hee]
  refine ⟨x', bs', h9, ?_, by rw [hNX]; exact r9, ⟨kk.trans k9, fun j b hj hne hnx => fr9 j b (by rw [blk_set_ne (fun c => hne c.symm)]; exact w6 j b hj hne) hne hnx⟩⟩
  have sets : ((((Stp.cs ⟨i, i, 0, 0, 0, 0, fr⟩).set 2 (.int .i64 e.kind)).set 3 (.int .i64 e.loc)).set 4 (.int .i64 e.r)).set 5 (.int .i64 e.w) = (V.stp i).cs := by rw [eS]; rfl
  have s7' : ∀ s : Stp, splice (List.replicate 7 (Cell.int .i64 0)) 0 s.cs = s.cs := fun _ => rfl
  have hqn : nextI (V.P.code i) (V.l i) = some q := hq
  rw [jacquardref16_VM_Pick_ec4_n, rd, if_pos (by rw [hl]; omega), if_pos hr, rd, Int.toNat_natCast, if_pos (by rw [hl]; omega), rv_prog hpc, rv_lcl f hpc hql, refNext_R hE.c81 hg p, hqn, qh_ok, c2_ok, asA_ok, asB_ok, if_pos (by exact ⟨rfl, rfl, rfl⟩), bind_ok]
  dsimp only [Option.getD_some]
  rw [jacquardref16_VM_Pick_ec11_n, ins_kind, asI_ok, ins_kind, asI_ok, scK_or, bind_ok, hrd]
  dsimp only
  rw [rR, bind_ok]
  dsimp only
  rw [jacquardref16_VM_Pick_ec12_n, if_pos (by exact ⟨rfl, rfl⟩), if_pos hr, rd, Int.toNat_natCast, if_pos (by rw [hl]; omega), rv_lcl f hpc hql, evOf_ref hE.c111, hev, qh_ok, c1_ok, asA_ok, if_pos (by exact ⟨rfl, rfl, rfl⟩), bind_ok]
  dsimp only
  rw [jacquardref16_VM_Pick_ec17_n, evt_kind, asI_ok, evt_loc, asI_ok, evt_r, asI_ok, evt_w, asI_ok, if_pos (by exact (by decide : 2 < 7)), if_pos (by exact (by decide : 3 < 7)), if_pos (by exact (by decide : 4 < 7)), if_pos (by exact (by decide : 5 < 7)), bind_ok]
  dsimp only
  rw [sets, jacquardref16_VM_Pick_ec18_n]
  simp only [evt_kind, asI_ok, rd, rv_m hpc, scK_and, scK_or, bind_ok]
  rw [w1, bind_ok]
  dsimp only
  rw [jacquardref16_VM_Pick_ec19_n, rdH_ok w2 hl', if_pos (by rw [hl']; omega), if_pos hr, rdH_ok w2 hl', Int.toNat_natCast, if_pos (by rw [hl']; omega), rv_prog hpc, rv_lcl fW hpc (by rw [wl]; exact hql), refAfter_R hE.c107 hg p', qh_ok, c1_ok, asA_ok, if_pos hr, rdH_ok w2 hl', if_pos (by exact ⟨by rw [hl']; omega, rfl⟩), hsetL, putB w2, bind_ok]
  dsimp only
  rw [jacquardref16_VM_Pick_ec22_n, rdH_ok (blk_set_self hk' _) (rv_len (x := x) fN hpc w3), rv_steps fN hpc w3, if_pos (by exact ⟨rfl, rfl⟩), if_pos (by exact ⟨rfl, by decide⟩), s7', if_pos (by exact rfl), e9, if_pos (by exact ⟨rfl, rfl⟩), if_pos (by exact ⟨rfl, hz, rfl⟩), if_pos (by exact ⟨rfl, rfl⟩)]

theorem rPick_no (hE : jacquardref16_VM_Pick_In E) {n k : Nat} {h : AHeap} {x : Cell} {bs pc : List Cell} {V : MV} (a : RvAt n h k x bs pc V) (f : V.Fit) (hg : V.P.good) {i : Int} (hi : mayI V i = false) :
    R E 182 [.c (.ptr k 37 0), .c (.int .i64 i)] h = some ([.agg (Stp.cs ⟨0, 0, 0, 0, 0, 0, 0⟩), .c (.bool false)], h) := by
  refine R_intro hE.fn ?_
  rw [jacquardref16_VM_Pick_eq, May_R hE.c196 a f hg, c1_ok, asB_ok, hi, if_pos (by simp), if_pos (by exact ⟨rfl, rfl, rfl⟩), bind_ok]
  dsimp only
  rw [jacquardref16_VM_Pick_ec1_0, if_pos (by exact ⟨rfl, rfl⟩)]
  rfl

theorem rPick_R (hE : jacquardref16_VM_Pick_In E) {n k : Nat} {h : AHeap} {x : Cell} {bs pc : List Cell} {V : MV} (a : RvAt n h k x bs pc V) (v : V.Inv) (hg : V.P.good) (hst : V.st.length < 100000) {i : Nat} (hi : V.may i = true) :
    ∃ x' bs' h', R E 182 [.c (.ptr k 37 0), .c (.int .i64 (i : Int))] h = some ([.agg (V.stp i).cs, .c (.bool true)], h') ∧ RvAt n h' k x' bs' pc (V.nx i) ∧ KpV n k x x' h h' := by
  have f := v.fit
  have hpc := a.prog.len
  have hl := rv_len (x := x) f hpc a.bl
  have rd : ∀ {α : Type} {F : List Cell → Option α}, rdH h k 37 F = F (rvC pc V bs x) := fun {α F} => rdH_ok a.blk hl
  have e1 : splice (splice (splice (List.replicate 7 (Cell.int .i64 0)) 0 ([(.int .i64 (i : Int))] : List Cell)) 1 ([(.int .i64 (i : Int))] : List Cell)) 6 ([(.int .i64 (-1))] : List Cell) = Stp.cs ⟨i, i, 0, 0, 0, 0, -1⟩ := rfl
  by_cases h4 : i < 4
  · obtain ⟨x', bs', h', r1, r2, r3⟩ := rThread hE a v hg hst h4 hi h (List.replicate 7 (Cell.int .i64 0)) rfl
    refine ⟨x', bs', h', R_intro hE.fn ?_, r2, r3⟩
    have hno : fluOf V.m (i : Int) = (0, 0, false) := by unfold fluOf; rw [if_neg (by omega), if_neg (by omega)]
    rw [jacquardref16_VM_Pick_eq, May_R hE.c196 a f hg, c1_ok, asB_ok, mayI_nat, hi, if_neg (by simp), bind_ok]
    dsimp only
    rw [jacquardref16_VM_Pick_ec1_n, rd, rv_steps f hpc a.bl, a.st.at.len, bind_ok]
    dsimp only
    rw [jacquardref16_VM_Pick_ec2_n, e1, if_pos (by exact ⟨rfl, rfl, rfl⟩), bind_ok]
    dsimp only
    rw [jacquardref16_VM_Pick_ec3_n, refFlush_R hE.c197 a f, hno, c3_ok, asI_ok, asI_ok, asB_ok, bind_ok]
    dsimp only
    rw [jacquardref16_VM_Pick_ec5_n, if_neg (by simp), bind_ok]
    exact r1
  · obtain ⟨t, loc, p, e, ht, hp, hfl, hf, hs, hnx⟩ := flu_data h4 hi
    obtain ⟨x', bs', h', r1, r2, r3⟩ := rFlush hE a v hst (i := (i : Int)) ht hp hf (List.replicate 7 (Cell.int .i64 0)) rfl
    refine ⟨x', bs', h', R_intro hE.fn ?_, by rw [hnx, hs]; exact r2, r3⟩
    rw [jacquardref16_VM_Pick_eq, May_R hE.c196 a f hg, c1_ok, asB_ok, mayI_nat, hi, if_neg (by simp), bind_ok]
    dsimp only
    rw [jacquardref16_VM_Pick_ec1_n, rd, rv_steps f hpc a.bl, a.st.at.len, bind_ok]
    dsimp only
    rw [jacquardref16_VM_Pick_ec2_n, e1, if_pos (by exact ⟨rfl, rfl, rfl⟩), bind_ok]
    dsimp only
    rw [jacquardref16_VM_Pick_ec3_n, refFlush_R hE.c197 a f, hfl, c3_ok, asI_ok, asI_ok, asB_ok, bind_ok]
    dsimp only
    rw [r1, bind_ok]
    dsimp only
    rw [jacquardref16_VM_Pick_ec4_0, if_pos (by exact ⟨rfl, rfl⟩), hs]
end
end Jq

/- Machines of the document: at the beginning; what is told of them. -/
namespace Jq
open Go

theorem RvAt.keep {n : Nat} {h h' : AHeap} {k : Nat} {x : Cell} {bs pc : List Cell} {V : MV} (a : RvAt n h k x bs pc V) (hk : Kp h.length h h') : RvAt n h' k x bs pc V :=
  ⟨Nat.le_trans a.hn hk.1, a.nk, by rw [take_keep (hk.mono a.hn)]; exact a.prog, by rw [hk.blk (blk_lt' a.blk)]; exact a.blk, a.st.keepK hk, a.sep, a.bl, fun t ht => by
    obtain ⟨q1, q2, q3⟩ := a.bf t ht
    exact ⟨q1.keepK hk, q2, q3⟩⟩

/-- What does not belong to it leaves it as it was. -/
theorem RvAt.other {n : Nat} {h h' : AHeap} {k : Nat} {x : Cell} {bs pc : List Cell} {V : MV} (a : RvAt n h k x bs pc V) (hl : h.length ≤ h'.length) (hn : Kp n h h') (hk : ∀ j b, blk? h j = some b → j = k ∨ isBlk x j ∨ (∃ t, t < 4 ∧ isBlk (bs.getD t .nils) j) → blk? h' j = some b) : RvAt n h' k x bs pc V :=
  ⟨Nat.le_trans a.hn hl, a.nk, by rw [take_keep hn]; exact a.prog, hk k _ a.blk (.inl rfl), a.st.via fun j b q1 q2 => hk j b q2 (.inr (.inl q1)), a.sep, a.bl, fun t ht => by
    obtain ⟨q1, q2, q3⟩ := a.bf t ht
    exact ⟨q1.via fun j b s1 s2 => hk j b s2 (.inr (.inr ⟨t, ht, s1⟩)), q2, q3⟩⟩

theorem may_bits (V : MV) : (List.range 24).filter V.may = bitsL V.word := by
  unfold bitsL
  rw [show (fun i => V.word.testBit i) = V.may from funext fun i => V.word_bit i]
  have e : List.range 64 = List.range 24 ++ List.range' 24 40 := by decide
  rw [e, List.filter_append]
  have : (List.range' 24 40).filter V.may = [] := by
    rw [List.filter_eq_nil_iff]
    intro a ha
    rw [List.mem_range'_1] at ha
    rw [MV.may_out (by omega)]; simp
  rw [this, List.append_nil]

theorem startL_out {P : PProg} {t : Nat} (h : P.thr.length ≤ t) : startL P (t : Int) = Lcl.zero := by
  have : P.code (t : Int) = [] := code_out (by omega)
  unfold startL normL
  rw [this]; rfl

def lcU (P : PProg) (t : Nat) : List Lcl := [if 0 < t then startL P 0 else Lcl.zero, if 1 < t then startL P 1 else Lcl.zero, if 2 < t then startL P 2 else Lcl.zero, if 3 < t then startL P 3 else Lcl.zero]

theorem lcU_next (P : PProg) : ∀ t, t < 4 → (lcU P t).set t (startL P (t : Int)) = lcU P (t + 1)
  | 0, _ => rfl
  | 1, _ => rfl
  | 2, _ => rfl
  | 3, _ => rfl
  | t + 4, h => by omega

theorem lcU_end (P : PProg) : lcU P P.thr.length = [startL P 0, startL P 1, startL P 2, startL P 3] := by
  have key : ∀ t : Nat, (if t < P.thr.length then startL P (t : Int) else Lcl.zero) = startL P (t : Int) := fun t => by
    split
    · rfl
    · exact (startL_out (by omega)).symm
  unfold lcU
  have e0 := key 0; have e1 := key 1; have e2 := key 2; have e3 := key 3
  rw [show ((0 : Nat) : Int) = 0 from rfl] at e0
  rw [show ((1 : Nat) : Int) = 1 from rfl] at e1
  rw [show ((2 : Nat) : Int) = 2 from rfl] at e2
  rw [show ((3 : Nat) : Int) = 3 from rfl] at e3
  rw [e0, e1, e2, e3]

def MV.raw (P : PProg) (m : Int) (lc : List Lcl) (mem : List Int) : MV := ⟨P, m, lc, mem, [-1, -1, -1, -1], [[], [], [], []], []⟩

theorem MV.raw_fit {P : PProg} {m : Int} {lc : List Lcl} {mem : List Int} (hm : 1 ≤ m ∧ m ≤ 3) (h1 : lc.length = 4) (h2 : mem.length = 4) : (MV.raw P m lc mem).Fit :=
  ⟨hm, h1, h2, rfl, rfl, fun l hl => by simp [MV.raw] at hl; subst hl; simp⟩

set_option maxRecDepth 100000 in
theorem raw_0 (a b c : Cell) (P : PProg) (m : Int) : splice (splice (splice ([Cell.nils, Cell.nils, Cell.nils] ++ List.replicate 29 (Cell.int .i64 0) ++ List.replicate 5 (Cell.nils)) 0 [a, b, c]) 3 ([(.int .i64 m)] : List Cell)) 8 (splice (splice (splice (splice [Cell.int .i64 0, Cell.int .i64 0, Cell.int .i64 0, Cell.int .i64 0] 0 ([(.int .i64 (-1))] : List Cell)) 1 ([(.int .i64 (-1))] : List Cell)) 2 ([(.int .i64 (-1))] : List Cell)) 3 ([(.int .i64 (-1))] : List Cell)) =
    rvC [a, b, c] (MV.raw P m (lcU P 0) [0, 0, 0, 0]) [.nils, .nils, .nils, .nils] .nils := by kernel_rfl

theorem init_take_set {l : List Int} (h4 : l.length ≤ 4) {i : Nat} {v : Int} (hv : l[i]? = some v) : (l.take i ++ List.replicate (4 - i) 0).set i v = l.take (i + 1) ++ List.replicate (4 - (i + 1)) 0 := by
  have hi := getI_lt hv
  have hl : (l.take i).length = i := by rw [List.length_take]; omega
  rw [takeI_succ hv, List.set_append_right _ _ (by omega), hl, Nat.sub_self, show 4 - i = (4 - (i + 1)) + 1 by omega, List.replicate_succ, List.set_cons_zero, List.append_assoc]
  rfl

section
variable {E : Env}

theorem rNew_R (hE : jacquardref16_New_In E) {h : AHeap} {pc : List Cell} {P : PProg} (p : ProgAt h pc P) (hg : P.good) (h4 : P.thr.length ≤ 4) (hil : P.init.length ≤ 4) {m : Int} (hm : 1 ≤ m ∧ m ≤ 3) :
    ∃ h', R E 180 [.agg pc, .c (.int .i64 m)] h = some ([.c (.ptr h.length 37 0)], h') ∧ RvAt h.length h' h.length .nils [.nils, .nils, .nils, .nils] pc (MV.new P m) ∧ Kp h.length h h' := by
  obtain ⟨a, b, c, ts, he, _⟩ := id p
  subst he
  have hpc : ([a, b, c] : List Cell).length = 3 := rfl
  have hbs : ([.nils, .nils, .nils, .nils] : List Cell).length = 4 := rfl
  have b8 : ∀ l : List Cell, blk? (h ++ [some ⟨true, 0, l⟩]) h.length = some ⟨true, 0, l⟩ := fun l => blk_new _ _
  have p9 : ∀ q, ProgAt (h ++ [some q]) [a, b, c] P := fun q => p.keep (Kp.app _ (Nat.le_refl _))
  have put : ∀ (l cs : List Cell) {α : Type} {F : AHeap → Option α}, putH (h ++ [some ⟨true, 0, l⟩]) h.length cs F = F (h ++ [some ⟨true, 0, cs⟩]) := fun l cs α F => by rw [putB (b8 l), setBlk_last]
  obtain ⟨bi, hbi, hbl, hbg⟩ := p.initG
  have q1 : ∀ {α : Type} (f : Cell → Option α), atK [a, b, c] 1 f = f b := fun _ => rfl
  have ebi : bi = b := by
    have := hbg (α := Cell) (fun c => some c)
    rw [q1] at this
    exact (Option.some.inj this).symm
  subst ebi
  have lens : ∀ lc mem, lc.length = 4 → mem.length = 4 → (rvC [a, bi, c] (MV.raw P m lc mem) [.nils, .nils, .nils, .nils] .nils).length = 37 := fun lc mem h1 h2 => rv_len (MV.raw_fit hm h1 h2) hpc hbs
  have rd : ∀ (lc : List Lcl) (mem : List Int) {α : Type} {F : List Cell → Option α}, lc.length = 4 → mem.length = 4 → rdH (h ++ [some ⟨true, 0, rvC [a, bi, c] (MV.raw P m lc mem) [.nils, .nils, .nils, .nils] .nils⟩]) h.length 37 F = F (rvC [a, bi, c] (MV.raw P m lc mem) [.nils, .nils, .nils, .nils] .nils) := fun lc mem α F h1 h2 => rdH_ok (b8 _) (lens lc mem h1 h2)
  have hbi' : ∀ q, SlAt (h ++ [some q]) bi 1 (intC .i64 P.init) P.init.length := fun q => hbi.keep hbl (Kp.app _ (Nat.le_refl _))
  have ml : ∀ i, i ≤ P.init.length → (P.init.take i ++ List.replicate (4 - i) 0).length = 4 := fun i hi => by rw [List.length_append, List.length_take, List.length_replicate]; omega
  have l1 : Lim (jacquardref16_New_F1 (R E) Lim E.glob) (jacquardref16_New_s1 h.length 37 0 ((0 : Nat) : Int) [a, bi, c] (h ++ [some ⟨true, 0, rvC [a, bi, c] (MV.raw P m (lcU P 0) (P.init.take 0 ++ List.replicate (4 - 0) 0)) [.nils, .nils, .nils, .nils] .nils⟩])) = some (.exit 0, jacquardref16_New_x1_1 h.length 37 0 [a, bi, c] (h ++ [some ⟨true, 0, rvC [a, bi, c] (MV.raw P m (lcU P 0) (MV.new P m).mem) [.nils, .nils, .nils, .nils] .nils⟩])) := by
    refine Lim_count (F := jacquardref16_New_F1 (R E) Lim E.glob) (fun i => jacquardref16_New_s1 h.length 37 0 (i : Int) [a, bi, c] (h ++ [some ⟨true, 0, rvC [a, bi, c] (MV.raw P m (lcU P 0) (P.init.take i ++ List.replicate (4 - i) 0)) [.nils, .nils, .nils, .nils] .nils⟩])) 0 P.init.length (by omega) (fun i _ hi => ?_) (Lim_exit ?_)
    · have hv : P.init[i]? = some P.init[i] := List.getElem?_eq_getElem hi
      generalize P.init[i] = v at hv
      have hr : 0 ≤ (i : Int) ∧ (i : Int) < ((4 : Nat) : Int) := ⟨by omega, by omega⟩
      have hset := rv_setM (bs := [.nils, .nils, .nils, .nils]) (x := .nils) (MV.raw_fit (P := P) (lc := lcU P 0) hm rfl (ml i (by omega))) hpc (i := i) (by omega) v
      rw [jacquardref16_New_r1, q1, hbi.len, if_pos (by simp; omega), q1, (hbi' _).get1 hi (intC_get hv), asI_ok, if_pos hr, rd _ _ rfl (ml i (by omega)), Int.toNat_natCast, if_pos (by rw [lens _ _ rfl (ml i (by omega))]; omega), hset, put, g_succ (by omega)]
      rw [show ({ MV.raw P m (lcU P 0) (P.init.take i ++ List.replicate (4 - i) 0) with mem := (MV.raw P m (lcU P 0) (P.init.take i ++ List.replicate (4 - i) 0)).mem.set i v } : MV) = MV.raw P m (lcU P 0) ((P.init.take i ++ List.replicate (4 - i) 0).set i v) from rfl, init_take_set hil hv]
    · rw [jacquardref16_New_r1, q1, hbi.len, if_neg (by simp), List.take_of_length_le (Nat.le_refl _)]
      rfl
  have nm : (MV.new P m).mem.length = 4 := (MV.new_fit hm hil).mem
  have n3 : ∀ {α : Type} {h' : AHeap} {F : Int → Option α}, ProgAt h' [a, bi, c] P → (atK [a, bi, c] 2 fun q => lenK q F) = F P.thr.length := fun pp => pp.nthr
  have l2 : Lim (jacquardref16_New_F2 (R E) Lim E.glob) (jacquardref16_New_s2 h.length 37 0 ((0 : Nat) : Int) [a, bi, c] (h ++ [some ⟨true, 0, rvC [a, bi, c] (MV.raw P m (lcU P 0) (MV.new P m).mem) [.nils, .nils, .nils, .nils] .nils⟩])) = some (.exit 2, jacquardref16_New_x2_3 h.length 37 0 (h ++ [some ⟨true, 0, rvC [a, bi, c] (MV.raw P m (lcU P P.thr.length) (MV.new P m).mem) [.nils, .nils, .nils, .nils] .nils⟩])) := by
    refine Lim_count (F := jacquardref16_New_F2 (R E) Lim E.glob) (fun i => jacquardref16_New_s2 h.length 37 0 (i : Int) [a, bi, c] (h ++ [some ⟨true, 0, rvC [a, bi, c] (MV.raw P m (lcU P i) (MV.new P m).mem) [.nils, .nils, .nils, .nils] .nils⟩])) 0 P.thr.length (by omega) (fun i _ hi => ?_) (Lim_exit ?_)
    · have hr : 0 ≤ (i : Int) ∧ (i : Int) < ((4 : Nat) : Int) := ⟨by omega, by omega⟩
      have hset := rv_setL (bs := [.nils, .nils, .nils, .nils]) (x := .nils) (MV.raw_fit (P := P) (lc := lcU P i) hm rfl nm) hpc (t := i) (by omega) (startL P (i : Int))
      rw [jacquardref16_New_r2, n3 p, if_pos (by simp; omega), if_pos (by exact ⟨rfl, rfl⟩), refStart_R hE.c104 hg (p9 _), qh_ok, c1_ok, asA_ok, if_pos hr, rd _ _ rfl nm, Int.toNat_natCast, if_pos (by exact ⟨by rw [lens _ _ rfl nm]; omega, rfl⟩), hset, put, g_succ (by omega)]
      rw [show ({ MV.raw P m (lcU P i) (MV.new P m).mem with lc := (MV.raw P m (lcU P i) (MV.new P m).mem).lc.set i (startL P (i : Int)) } : MV) = MV.raw P m ((lcU P i).set i (startL P (i : Int))) (MV.new P m).mem from rfl, lcU_next P i (by omega)]
    · rw [jacquardref16_New_r2, n3 p, if_neg (by simp)]
  rw [show ((0 : Nat) : Int) = 0 from rfl] at l1 l2
  have efin : MV.raw P m (lcU P P.thr.length) (MV.new P m).mem = MV.new P m := by rw [lcU_end P]; rfl
  rw [efin] at l2
  refine ⟨h ++ [some ⟨true, 0, rvC [a, bi, c] (MV.new P m) [.nils, .nils, .nils, .nils] .nils⟩], R_intro hE.fn ?_, ⟨by simp, Nat.le_refl _, ?_, b8 _, Own.nil _ _ _, fun q => q, hbs, fun t ht => ?_⟩, Kp.app _ (Nat.le_refl _)⟩
  · have hz : ([Cell.nils, Cell.nils, Cell.nils] ++ List.replicate 29 (Cell.int .i64 0) ++ List.replicate 5 (Cell.nils)).length = 37 := by kernel_rfl
    have ec : ∀ z : List Cell, AV.cells (.agg z) = z := fun _ => rfl
    rw [jacquardref16_New_eq, if_pos (by exact ⟨rfl, rfl⟩), if_pos (by exact ⟨rfl, by rw [hz]; omega⟩), if_pos (by exact ⟨rfl, by rw [splice_len (by rw [hz]; simp), hz]; omega⟩), if_pos (by exact ⟨rfl, by rw [splice_len (by rw [splice_len (by rw [hz]; simp), hz]; simp), splice_len (by rw [hz]; simp), hz]; omega⟩), ec, raw_0 a bi c P m, lens _ _ rfl rfl]
    have e0 : P.init.take 0 ++ List.replicate (4 - 0) 0 = [0, 0, 0, 0] := rfl
    rw [e0] at l1
    rw [l1, bind_ok]
    dsimp only
    rw [jacquardref16_New_e1_1, l2, bind_ok]
    dsimp only
    rw [jacquardref16_New_e2_3]
  · rw [List.take_append_of_le_length (Nat.le_refl _), List.take_length]; exact p
  · have : (([.nils, .nils, .nils, .nils] : List Cell).getD t .nils) = .nils := by
      match t with
      | 0 => rfl
      | 1 => rfl
      | 2 => rfl
      | 3 => rfl
      | t + 4 => rfl
    rw [this, new_b]
    exact ⟨Own.nil _ _ _, fun q => q, fun j q => absurd q (by simp [isBlk])⟩

theorem rEnabled_R (hE : jacquardref16_VM_Enabled_In E) {n k : Nat} {h : AHeap} {x : Cell} {bs pc : List Cell} {V : MV} (a : RvAt n h k x bs pc V) (f : V.Fit) (hg : V.P.good) :
    ∃ y h', R E 181 [.c (.ptr k 37 0)] h = some ([.c y], h') ∧ Own h.length h' y 1 (natC (bitsL V.word)) (bitsL V.word).length ∧ Kp h.length h h' := by
  have hM : maxBytes ≥ 1000 * 8 := by unfold maxBytes; omega
  obtain ⟨st, ⟨y, h', rfl, o, kk⟩, hL⟩ := Lim_inv (F := jacquardref16_VM_Enabled_F1 (R E) Lim E.glob) (fun i st => ∃ y h', st = jacquardref16_VM_Enabled_s1 k 37 0 y (i : Int) h' ∧ Own h.length h' y 1 (natC ((List.range i).filter V.may)) ((List.range i).filter V.may).length ∧ Kp h.length h h') 0 24 (by omega)
    (fun i st _ hi => by
      rintro ⟨y, h', rfl, o, kk⟩
      have hlen : ((List.range i).filter V.may).length ≤ i := Nat.le_trans (List.length_filter_le _ _) (by simp)
      have my := May_R hE.c196 (a.keep kk) f hg (i : Int)
      rw [mayI_nat] at my
      cases hm : V.may i with
      | false =>
        refine ⟨jacquardref16_VM_Enabled_s1 k 37 0 y ((i + 1 : Nat) : Int) h', ?_, y, h', rfl, ?_, kk⟩
        · rw [jacquardref16_VM_Enabled_r1, if_pos (by simp; omega), my, c1_ok, asB_ok, hm, if_neg (by simp), g_succ (by omega)]
        · rw [List.range_succ, List.filter_append, List.filter_cons, hm]
          simpa using o
      | true =>
        obtain ⟨y2, h2, e2, o2, k2, _⟩ := o.app (bytes := 8) (xs := [.int .i64 (i : Int)]) kk.1 rfl (by omega) (by omega) (by omega)
        refine ⟨jacquardref16_VM_Enabled_s1 k 37 0 y2 ((i + 1 : Nat) : Int) h2, ?_, y2, h2, rfl, ?_, kk.trans k2⟩
        · rw [jacquardref16_VM_Enabled_r1, if_pos (by simp; omega), my, c1_ok, asB_ok, hm, if_pos rfl, if_pos (by rfl), show splice [Cell.int .i64 0] 0 ([(.int .i64 (i : Int))] : List Cell) = [.int .i64 (i : Int)] from rfl, e2, g_succ (by omega)]
        · rw [List.range_succ, List.filter_append, List.filter_cons, hm, if_pos rfl, List.filter_nil, natC_snoc, List.length_append, List.length_singleton]
          exact o2) (st := jacquardref16_VM_Enabled_s1 k 37 0 .nils ((0 : Nat) : Int) h) ⟨.nils, h, rfl, Own.nil _ _ _, Kp.refl _ _⟩
  rw [may_bits] at o
  have hr := hL _ (Lim_exit (show jacquardref16_VM_Enabled_F1 (R E) Lim E.glob (jacquardref16_VM_Enabled_s1 k 37 0 y ((24 : Nat) : Int) h') = some (.exit 0, jacquardref16_VM_Enabled_x1_1 y h') by rw [jacquardref16_VM_Enabled_r1, if_neg (by simp)]))
  rw [show ((0 : Nat) : Int) = 0 from rfl] at hr
  refine ⟨y, h', R_intro hE.fn ?_, o, kk⟩
  rw [jacquardref16_VM_Enabled_eq, hr, bind_ok]
  dsimp only
  rw [jacquardref16_VM_Enabled_e1_1]

def finU (V : MV) (t : Nat) : List Cell := (V.lc.take t).flatMap regsC ++ (List.replicate (16 - t * 4) (.int .i64 0) ++ intC .i64 V.mem)

end
end Jq

/- VmEnds: however it is picked a machine is done. -/
namespace Jq
open Go

theorem g_rem3 {E : Env} (a : Int) : 0 ≤ E.glob.rem .i64 (E.glob.band .i64 a 255) 3 ∧ E.glob.rem .i64 (E.glob.band .i64 a 255) 3 < 3 := by
  refine rem_rng ?_ (by omega)
  rw [g_band255]; omega

theorem bits_none {V : MV} : (bitsL V.word).length = 0 ↔ V.word = 0 := by
  rw [List.length_eq_zero_iff]
  exact bitsL_nil V.word_lt

section
variable {E : Env}

end
end Jq

/- Two machines that stand alike. -/
namespace Jq
open Go

theorem Own.has {n : Nat} {h : AHeap} {y : Cell} {esz len : Nat} {cs : List Cell} (o : Own n h y esz cs len) {j : Nat} (hj : isBlk y j) : blk? h j = some ⟨true, esz, cs⟩ := by
  rcases o.2 with ⟨e, _⟩ | ⟨j', e, _, hb⟩
  · rw [e] at hj; exact absurd hj (by simp [isBlk])
  · have : j' = j := by rw [e] at hj; exact hj
    subst this; exact hb

structure Both (n : Nat) (h : AHeap) (k : Nat) (x : Cell) (pc : List Cell) (V : MV) (n' k' : Nat) (x' : Cell) (bs pc' : List Cell) (W : MV) : Prop where
  a : VmAt n h k x pc V
  b : RvAt n' h k' x' bs pc' W
  nn : n ≤ n'
  d : ∀ j, isBlk x j → ¬ isBlk x' j
  fV : V.Fit
  fW : W.Fit

section both
variable {n : Nat} {h : AHeap} {k : Nat} {x : Cell} {pc : List Cell} {V : MV} {n' k' : Nat} {x' : Cell} {bs pc' : List Cell} {W : MV} (B : Both n h k x pc V n' k' x' bs pc' W)
include B

theorem Both.kk : k' ≠ k := fun e => by
  have h1 := B.a.blk
  have h2 := B.b.blk
  rw [e, h1] at h2
  have h3 := Blk.mk.inj (Option.some.inj h2)
  have l1 := vm_len (x := x) B.fV B.a.prog.len
  have l2 := rv_len (x := x') B.fW B.b.prog.len B.b.bl
  rw [h3.2.2, l2] at l1
  omega

theorem Both.xk : ¬ isBlk x k' := fun q => by
  have h1 := B.a.st.has q
  rw [B.b.blk] at h1
  have := (Blk.mk.inj (Option.some.inj h1)).2.1
  omega
theorem Both.x'k : ¬ isBlk x' k := fun q => by
  have h1 := B.b.st.has q
  rw [B.a.blk] at h1
  have := (Blk.mk.inj (Option.some.inj h1)).2.1
  omega
theorem Both.bk {t : Nat} (ht : t < 4) : ¬ isBlk (bs.getD t .nils) k := fun q => by
  have h1 := (B.b.bf t ht).1.has q
  rw [B.a.blk] at h1
  have := (Blk.mk.inj (Option.some.inj h1)).2.1
  omega
theorem Both.bx {t : Nat} (ht : t < 4) {j : Nat} (q : isBlk (bs.getD t .nils) j) : ¬ isBlk x j := fun q2 => by
  have h1 := (B.b.bf t ht).1.has q
  rw [B.a.st.has q2] at h1
  have := (Blk.mk.inj (Option.some.inj h1)).2.1
  omega

theorem Both.keep {h' : AHeap} (hk : Kp h.length h h') : Both n h' k x pc V n' k' x' bs pc' W := ⟨B.a.keep hk, B.b.keep hk, B.nn, B.d, B.fV, B.fW⟩

/-- The one goes on. -/
theorem Both.vm {h' : AHeap} {x1 : Cell} {V' : MV} (kv : KpV n k x x1 h h') (a' : VmAt n h' k x1 pc V') (f' : V'.Fit) (hp : ProgAt (h'.take n') pc' W.P) : Both n h' k x1 pc V' n' k' x' bs pc' W := by
  have b := B.b
  refine ⟨a', ⟨Nat.le_trans b.hn kv.kp.1, b.nk, hp, (kv.old _ _ b.blk B.kk B.xk).1, b.st.via fun j c q1 q2 => (kv.old j c q2 (fun e => B.x'k (e ▸ q1)) (fun q => B.d j q q1)).1, b.sep, b.bl, fun t ht => ?_⟩, B.nn, fun j q1 q2 => ?_, f', B.fW⟩
  · obtain ⟨q1, q2, q3⟩ := b.bf t ht
    exact ⟨q1.via fun j c s1 s2 => (kv.old j c s2 (fun e => B.bk ht (e ▸ s1)) (B.bx ht s1)).1, q2, q3⟩
  · exact (kv.old j _ (b.st.has q2) (fun e => B.x'k (e ▸ q2)) (fun q => B.d j q q2)).2 q1

end both

theorem alike_ints : ∀ (l : List Cell) (n : Nat), l.length = n → (∀ c ∈ l, ∃ v, c = .int .i64 v) → alike l (List.replicate n (Cell.int .i64 0)) = true
  | [], 0, _, _ => rfl
  | c :: l, n + 1, hl, hc => by
    obtain ⟨v, rfl⟩ := hc c List.mem_cons_self
    rw [List.replicate_succ]
    show (alike1 (.int .i64 v) (.int .i64 0) && alike l (List.replicate n (Cell.int .i64 0))) = true
    rw [Bool.and_eq_true]
    exact ⟨rfl, alike_ints l n (by simpa using hl) (fun c h => hc c (List.mem_cons_of_mem _ h))⟩

section
variable {E : Env}

end
end Jq

/- VmCopies: a copy goes on by itself. -/
namespace Jq
open Go

/-- Rows of picks, up to the first that may not be. -/
def MV.runG (V : MV) : List Int → MV × Nat
  | [] => (V, 0)
  | p :: ps => if mayI V p = true then (((V.nx p.toNat).runG ps).1, ((V.nx p.toNat).runG ps).2 + 1) else (V, 0)

theorem mayI_at {V : MV} {p : Int} (h : mayI V p = true) : ∃ j : Nat, p = (j : Int) ∧ V.may j = true ∧ p.toNat = j := by
  unfold mayI at h
  rw [Bool.and_eq_true] at h
  obtain ⟨j, rfl⟩ := Int.eq_ofNat_of_zero_le (of_decide_eq_true h.1)
  exact ⟨j, rfl, h.2, rfl⟩

theorem MV.runG_inv {V : MV} (v : V.Inv) : ∀ l : List Int, (V.runG l).1.Inv ∧ (V.runG l).1.P = V.P ∧ (V.runG l).1.m = V.m ∧ (V.runG l).1.st.length = V.st.length + (V.runG l).2 ∧ (V.runG l).2 ≤ l.length
  | [] => ⟨v, rfl, rfl, rfl, Nat.le_refl _⟩
  | p :: ps => by
    unfold MV.runG
    by_cases h : mayI V p = true
    · obtain ⟨j, rfl, hj, hn⟩ := mayI_at h
      rw [if_pos h, hn]
      obtain ⟨h1, h2, h3, h4, h5⟩ := MV.runG_inv (v.nx hj) ps
      refine ⟨h1, h2.trans (V.nx_P j).1, h3.trans (V.nx_P j).2, ?_, by dsimp only; rw [List.length_cons]; omega⟩
      dsimp only
      rw [h4, V.nx_st, List.length_append, List.length_singleton]; omega
    · rw [if_neg h]
      exact ⟨v, rfl, rfl, rfl, by dsimp only; omega⟩

/-- One pick more. -/
theorem MV.runG_snoc : ∀ (l : List Int) (V : MV) (j : Nat), (V.runG l).2 = l.length → (V.runG l).1.may j = true → V.runG (l ++ [(j : Int)]) = ((V.runG l).1.nx j, l.length + 1)
  | [], V, j, _, hj => by
    show V.runG [(j : Int)] = _
    unfold MV.runG
    rw [if_pos (by rw [mayI_nat]; exact hj)]
    rfl
  | p :: ps, V, j, hl, hj => by
    rw [List.cons_append]
    unfold MV.runG at hl hj ⊢
    by_cases h : mayI V p = true
    · rw [if_pos h] at hl hj ⊢
      have := MV.runG_snoc ps (V.nx p.toNat) j (by simp only [List.length_cons] at hl; omega) hj
      rw [this, if_pos h]
      rfl
    · rw [if_neg h] at hl
      simp at hl

def ptr37 (k : Nat) : Cell := .ptr k 37 0

section
variable {E : Env}

theorem rRun_R (hE : jacquardref16_Run_In E) {h : AHeap} {pc : List Cell} {P : PProg} (p : ProgAt h pc P) (hg : P.good) (h4 : P.thr.length ≤ 4) (hil : P.init.length ≤ 4) {m : Int} (hm : 1 ≤ m ∧ m ≤ 3) (inv : (MV.new P m).Inv) {y : Cell} {l : List Int} (hy : SlAt h y 1 (intC .i64 l) l.length) (hlow : Low h.length y) (hlen : l.length < 90000) :
    ∃ x' bs h', R E 186 [.agg pc, .c (.int .i64 m), .c y] h = some ([.c (.ptr h.length 37 0), .c (.int .i64 (((MV.new P m).runG l).2 : Int))], h') ∧ RvAt h.length h' h.length x' bs pc ((MV.new P m).runG l).1 ∧ Kp h.length h h' := by
  obtain ⟨h1, r1, a1, k1⟩ := rNew_R hE.c180 p hg h4 hil hm
  have key : ∀ (t : List Int) (j : Nat) (V : MV) (x : Cell) (bs : List Cell) (h2 : AHeap), l.drop j = t → j ≤ l.length → V.st.length = j → V.Inv → V.P = P → RvAt h.length h2 h.length x bs pc V → Kp h.length h h2 →
      ∃ x' bs' h3, (Lim (jacquardref16_Run_F1 (R E) Lim E.glob) (jacquardref16_Run_s1 y (.ptr h.length 37 0) (j : Int) h2)).bind (fun p_17 => (jacquardref16_Run_k3 (R E) Lim E.glob h) p_17.1 p_17.2) = some ([.c (.ptr h.length 37 0), .c (.int .i64 ((j + (V.runG t).2 : Nat) : Int))], h3) ∧ RvAt h.length h3 h.length x' bs' pc (V.runG t).1 ∧ Kp h.length h h3 := by
    intro t
    induction t with
    | nil =>
      intro j V x bs h2 hd hj hst v vP a kk
      have hjl : j = l.length := by
        have := congrArg List.length hd
        rw [List.length_drop, List.length_nil] at this; omega
      subst hjl
      have hy2 := hy.keep hlow kk
      have e1 : jacquardref16_Run_F1 (R E) Lim E.glob (jacquardref16_Run_s1 y (.ptr h.length 37 0) (l.length : Int) h2) = some (.exit 0, jacquardref16_Run_x1_1 y (.ptr h.length 37 0) h2) := by
        rw [jacquardref16_Run_r1, hy2.len, if_neg (by simp)]
      refine ⟨x, bs, h2, ?_, a, kk⟩
      rw [Lim_exit e1, bind_ok]
      dsimp only
      rw [jacquardref16_Run_e1_1, hy2.len]
      rfl
    | cons q t ih =>
      intro j V x bs h2 hd hj hst v vP a kk
      have hjl : j < l.length := by
        rcases Nat.lt_or_ge j l.length with c | c
        · exact c
        · rw [List.drop_of_length_le c] at hd; cases hd
      have hq : l[j]? = some q := by
        have := congrArg (fun z => z[0]?) hd
        simp only [List.getElem?_drop, List.getElem?_cons_zero, Nat.add_zero] at this
        exact this
      have hd2 : l.drop (j + 1) = t := by
        have := congrArg (List.drop 1) hd
        rw [List.drop_drop] at this
        simpa using this
      have hy2 := hy.keep hlow kk
      unfold MV.runG
      by_cases hm : mayI V q = true
      · obtain ⟨i, rfl, hi, hn⟩ := mayI_at hm
        rw [if_pos hm, hn]
        obtain ⟨x3, bs3, h3, r3, a3, k3⟩ := rPick_R hE.c182 a v (by rw [vP]; exact hg) (by omega) hi
        have e1 : jacquardref16_Run_F1 (R E) Lim E.glob (jacquardref16_Run_s1 y (.ptr h.length 37 0) (j : Int) h2) = some (.normal, jacquardref16_Run_s1 y (.ptr h.length 37 0) ((j + 1 : Nat) : Int) h3) := by
          rw [jacquardref16_Run_r1, hy2.len, if_pos (by simp; omega), hy2.get1 hjl (intC_get hq), asI_ok, r3, c2_ok, asA_ok, asB_ok, if_pos (by exact ⟨rfl, rfl, rfl⟩), if_neg (by simp), g_succ (by omega)]
        obtain ⟨x4, bs4, h4, r4, a4, k4⟩ := ih (j + 1) (V.nx i) x3 bs3 h3 hd2 (by omega) (by rw [V.nx_st, List.length_append, List.length_singleton, hst]) (v.nx hi) (by rw [(V.nx_P i).1, vP]) a3 (kk.trans k3.kp)
        refine ⟨x4, bs4, h4, ?_, a4, k4⟩
        have hL : ∀ r, Lim (jacquardref16_Run_F1 (R E) Lim E.glob) (jacquardref16_Run_s1 y (.ptr h.length 37 0) ((j + 1 : Nat) : Int) h3) = some r → Lim (jacquardref16_Run_F1 (R E) Lim E.glob) (jacquardref16_Run_s1 y (.ptr h.length 37 0) (j : Int) h2) = some r := fun r hr => Lim_next e1 hr
        cases hl : Lim (jacquardref16_Run_F1 (R E) Lim E.glob) (jacquardref16_Run_s1 y (.ptr h.length 37 0) ((j + 1 : Nat) : Int) h3) with
        | none => rw [hl] at r4; cases r4
        | some r =>
          rw [hl] at r4
          rw [hL r hl, r4, show j + 1 + ((V.nx i).runG t).2 = j + (((V.nx i).runG t).2 + 1) by omega]
      · rw [if_neg hm]
        have hm' : mayI V q = false := by simpa using hm
        have r3 := rPick_no hE.c182 a v.fit (by rw [vP]; exact hg) hm'
        have e1 : jacquardref16_Run_F1 (R E) Lim E.glob (jacquardref16_Run_s1 y (.ptr h.length 37 0) (j : Int) h2) = some (.ret, jacquardref16_Run_x1_0 (.ptr h.length 37 0) (j : Int) h2) := by
          rw [jacquardref16_Run_r1, hy2.len, if_pos (by simp; omega), hy2.get1 hjl (intC_get hq), asI_ok, r3, c2_ok, asA_ok, asB_ok, if_pos (by exact ⟨rfl, rfl, rfl⟩), if_pos (by simp)]
        refine ⟨x, bs, h2, ?_, a, kk⟩
        rw [Lim_ret e1, bind_ok]
        dsimp only
        rw [jacquardref16_Run_e1_0]
        rfl
  obtain ⟨x', bs', h3, e1, e2, e3⟩ := key l 0 (MV.new P m) .nils _ h1 rfl (by omega) rfl inv rfl a1 k1
  refine ⟨x', bs', h3, R_intro hE.fn ?_, e2, e3⟩
  rw [jacquardref16_Run_eq, if_pos (by exact ⟨rfl, p.len⟩), r1, c1_ok, asC_ok]
  rw [Nat.zero_add, show ((0 : Nat) : Int) = 0 from rfl] at e1
  exact e1

end

section both
variable {n : Nat} {h : AHeap} {k : Nat} {x : Cell} {pc : List Cell} {V : MV} {n' k' : Nat} {x' : Cell} {bs pc' : List Cell} {W : MV}

end both

section
variable {E : Env}

/-- What is kept of a copy. -/
def CopyOk (n : Nat) (h : AHeap) (k : Nat) (x : Cell) (P : PProg) (cs : List Cell) (pc : List Cell) (x12 x13 : Cell) : Prop :=
  x12 = .nilp ∨ ∃ (kc : Nat) (xc : Cell) (W : MV) (n' k' : Nat) (x' : Cell) (bs : List Cell), x12 = .ptr kc 329 0 ∧ x13 = .ptr k' 37 0 ∧ Both n h kc xc pc W n' k' x' bs cs W ∧ kc ≠ k ∧ (∀ j, isBlk x j → ¬ isBlk xc j) ∧ (∀ j, isBlk x j → ¬ isBlk x' j) ∧ W.P = P ∧ W.st.length ≤ 100

end
end Jq

/- A copy of the document's machine. -/
namespace Jq
open Go

theorem Own.cellsG {n : Nat} {h : AHeap} {x : Cell} {esz len : Nat} {cs : List Cell} (o : Own n h x esz cs len) : slCells h esz x = some cs := by
  have hl := o.1
  rcases o.2 with ⟨rfl, h0⟩ | ⟨k, rfl, _, hb⟩
  · have : cs = [] := List.length_eq_zero_iff.1 (by rw [hl, h0]; simp)
    rw [this]; rfl
  · unfold slCells
    dsimp only
    by_cases h0 : len = 0
    · have : cs = [] := List.length_eq_zero_iff.1 (by rw [hl, h0]; simp)
      rw [if_pos h0, this]
    · rw [if_neg h0, hb]
      simp only
      rw [if_pos ⟨by trivial, by omega⟩, List.drop_zero, List.take_of_length_le (by omega)]

theorem own_empty (n : Nat) (h : AHeap) (esz : Nat) (hn : n ≤ h.length) : Own n (h ++ [some ⟨true, esz, []⟩]) (.sl h.length 0 0 0) esz [] 0 :=
  ⟨by simp, .inr ⟨h.length, rfl, hn, blk_new _ _⟩⟩

theorem getD_set_ne {l : List Cell} {i j : Nat} (h : i ≠ j) (c : Cell) : (l.set i c).getD j .nils = l.getD j .nils := by
  rw [List.getD_eq_getElem?_getD, List.getD_eq_getElem?_getD, List.getElem?_set_ne h]
theorem getD_set_eq {l : List Cell} {i : Nat} (h : i < l.length) (c : Cell) : (l.set i c).getD i .nils = c := by
  rw [List.getD_eq_getElem?_getD, List.getElem?_set_self h]; rfl

section
variable {E : Env}

set_option maxHeartbeats 2000000 in
theorem rCopy_R (hE : jacquardref16_VM_Copy_In E) {n k : Nat} {h : AHeap} {x : Cell} {bs pc : List Cell} {V : MV} (a : RvAt n h k x bs pc V) (f : V.Fit) (hst : V.st.length < 100000) :
    ∃ x' bs' h', R E 404 [.c (.ptr k 37 0)] h = some ([.c (.ptr h.length 37 0)], h') ∧ RvAt n h' h.length x' bs' pc V ∧ Kp h.length h h' ∧ ∀ j, isBlk x' j → h.length ≤ j := by
  have hM : maxBytes ≥ 200000 * 56 := by unfold maxBytes; omega
  have hpc := a.prog.len
  have hl := rv_len (x := x) f hpc a.bl
  have hk := blk_lt' a.blk
  obtain ⟨st, ⟨B, h1, rfl, bl, blk, own, rest, kk, lt⟩, hL⟩ := Lim_inv (F := jacquardref16_VM_Copy_F1 (R E) Lim E.glob)
    (fun i st => ∃ B h1, st = jacquardref16_VM_Copy_s1 k 37 0 h.length 37 0 (i : Int) h1 ∧ B.length = 4 ∧ blk? h1 h.length = some ⟨true, 0, rvC pc V B x⟩ ∧
      (∀ t, t < i → Own h.length h1 (B.getD t .nils) 3 (entsC (V.b t)) (V.b t).length ∧ ¬ isBlk (B.getD t .nils) h.length) ∧ (∀ t, i ≤ t → B.getD t .nils = bs.getD t .nils) ∧ Kp h.length h h1 ∧ h.length < h1.length) 0 4 (by omega)
    (fun i st _ hi => by
      rintro ⟨B, h1, rfl, bl, blk, own, rest, kk, lt⟩
      have lB := rv_len (x := x) f hpc bl
      have oe := own_empty h.length h1 3 (Nat.le_of_lt lt)
      have hb24 : (V.b i).length ≤ 24 := by
        have : V.b i ∈ V.bf ∨ V.b i = [] := by
          unfold MV.b
          rw [List.getD_eq_getElem?_getD, List.getElem?_eq_getElem (by rw [f.bf]; exact hi)]
          exact .inl (List.getElem_mem _)
        rcases this with q | q
        · exact f.b _ q
        · rw [q]; simp
      have ob : Own n (h1 ++ [some ⟨true, 3, []⟩]) (bs.getD i .nils) 3 (entsC (V.b i)) (V.b i).length := ((a.bf i hi).1.keepK kk).via fun j b _ q => blk_old q _
      have bk : blk? (h1 ++ [some ⟨true, 3, []⟩]) k = some ⟨true, 0, rvC pc V bs x⟩ := blk_old (by rw [kk.blk hk]; exact a.blk) _
      obtain ⟨x6, h7, e6, o6, k6, r6⟩ := oe.appN (m := (V.b i).length) (bytes := 24) (xs := entsC (V.b i)) (by simp; omega) (by rw [entsC_len]) (by omega) (by omega) (by omega)
      have hn7 : ¬ isBlk (Cell.sl h1.length 0 0 0) h.length := fun q => by
        have : h1.length = h.length := q
        omega
      obtain ⟨b7, n7⟩ := r6 h.length _ (blk_old blk _) hn7
      have fr : ∀ j b, blk? h1 j = some b → j ≠ h.length → blk? (setBlk h7 h.length (some ⟨true, 0, rvC pc V (B.set i x6) x⟩)) j = some b ∧ ¬ isBlk x6 j := fun j b q1 q2 => by
        obtain ⟨s1, s2⟩ := r6 j b (blk_old q1 _) (fun q => by
          have : h1.length = j := q
          have := blk_lt' q1
          omega)
        exact ⟨by rw [blk_set_ne (fun e => q2 e.symm)]; exact s1, s2⟩
      have kp : Kp h.length h1 (setBlk h7 h.length (some ⟨true, 0, rvC pc V (B.set i x6) x⟩)) := (Kp.app _ (Nat.le_of_lt lt)).trans (k6.trans (Kp.set (Nat.le_refl _) _))
      refine ⟨_, ?_, B.set i x6, _, rfl, by rw [List.length_set]; exact bl, blk_set_self (blk_lt' b7) _, fun t ht => ?_, fun t ht => ?_, kk.trans kp, Nat.lt_of_lt_of_le lt kp.1⟩
      · rw [jacquardref16_VM_Copy_r1, if_pos (by simp; omega), if_pos (by rfl), if_pos (by omega), rdH_ok bk hl, Int.toNat_natCast, rv_buf f hpc a.bl hi, ob.cellsG, bind_ok,
          show ([] : List Cell).length = 0 from rfl, e6, if_pos (by omega), rdH_ok b7 lB, if_pos (by rw [lB]; omega), rv_setB f hpc bl hi, putH_ok b7 rfl, g_succ (by omega)]
      · by_cases hti : t = i
        · subst hti
          rw [getD_set_eq (by omega)]
          rw [List.nil_append, Nat.zero_add] at o6
          exact ⟨o6.setO n7 _, n7⟩
        · obtain ⟨q1, q2⟩ := own t (by omega)
          rw [getD_set_ne (fun e => hti e.symm)]
          exact ⟨q1.via fun j b s1 s2 => (fr j b s2 (fun e => q2 (e ▸ s1))).1, q2⟩
      · rw [getD_set_ne (by omega)]; exact rest t (by omega)) (st := jacquardref16_VM_Copy_s1 k 37 0 h.length 37 0 ((0 : Nat) : Int) (h ++ [some ⟨true, 0, rvC pc V bs x⟩]))
    ⟨bs, _, rfl, a.bl, blk_new _ _, fun t ht => absurd ht (by omega), fun _ _ => rfl, Kp.app _ (Nat.le_refl _), by simp⟩
  have lB := rv_len (x := x) f hpc bl
  have oe := own_empty h.length h1 7 (Nat.le_of_lt lt)
  have os : Own n (h1 ++ [some ⟨true, 7, []⟩]) x 7 (stepsC V.st) V.st.length := (a.st.keepK kk).via fun j b _ q => blk_old q _
  have bk : blk? (h1 ++ [some ⟨true, 7, []⟩]) k = some ⟨true, 0, rvC pc V bs x⟩ := blk_old (by rw [kk.blk hk]; exact a.blk) _
  obtain ⟨x6, h7, e6, o6, k6, r6⟩ := oe.appN (m := V.st.length) (bytes := 56) (xs := stepsC V.st) (by simp; omega) (by rw [stepsC_len]) (by omega) (by omega) (by omega)
  have hn7 : ¬ isBlk (Cell.sl h1.length 0 0 0) h.length := fun q => by
    have : h1.length = h.length := q
    omega
  obtain ⟨b7, n7⟩ := r6 h.length _ (blk_old blk _) hn7
  have kp : Kp h.length h1 (setBlk h7 h.length (some ⟨true, 0, rvC pc V B x6⟩)) := (Kp.app _ (Nat.le_of_lt lt)).trans (k6.trans (Kp.set (Nat.le_refl _) _))
  have kkk := kk.trans kp
  have fr : ∀ j b, blk? h1 j = some b → j ≠ h.length → blk? (setBlk h7 h.length (some ⟨true, 0, rvC pc V B x6⟩)) j = some b ∧ ¬ isBlk x6 j := fun j b q1 q2 => by
    obtain ⟨s1, s2⟩ := r6 j b (blk_old q1 _) (fun q => by
      have : h1.length = j := q
      have := blk_lt' q1
      omega)
    exact ⟨by rw [blk_set_ne (fun e => q2 e.symm)]; exact s1, s2⟩
  have e1 : (jacquardref16_VM_Copy_k3 (R E) Lim E.glob h) (.exit 0) (jacquardref16_VM_Copy_x1_1 k 37 0 h.length 37 0 h1) = some ([.c (.ptr h.length 37 0)], setBlk h7 h.length (some ⟨true, 0, rvC pc V B x6⟩)) := by
    rw [jacquardref16_VM_Copy_e1_1, if_pos (by rfl), rdH_ok bk hl, rv_steps f hpc a.bl, os.cellsG, bind_ok, show ([] : List Cell).length = 0 from rfl, e6, rdH_ok b7 lB, if_pos (by rw [lB]; omega), rv_setX f hpc bl, putH_ok b7 rfl]
  have hr := hL _ (Lim_exit (show jacquardref16_VM_Copy_F1 (R E) Lim E.glob (jacquardref16_VM_Copy_s1 k 37 0 h.length 37 0 ((4 : Nat) : Int) h1) = some (.exit 0, jacquardref16_VM_Copy_x1_1 k 37 0 h.length 37 0 h1) by rw [jacquardref16_VM_Copy_r1, if_neg (by simp)]))
  have hlow : n ≤ h.length := a.hn
  have up : ∀ {y : Cell} {esz len : Nat} {cs : List Cell} {hh : AHeap}, Own h.length hh y esz cs len → Own n hh y esz cs len := fun o => o.monoN hlow
  refine ⟨x6, B, setBlk h7 h.length (some ⟨true, 0, rvC pc V B x6⟩), R_intro hE.fn ?_, ⟨Nat.le_trans a.hn kkk.1, hlow, by rw [take_keep (kkk.mono hlow)]; exact a.prog, blk_set_self (blk_lt' b7) _, ?_, n7, bl, fun t ht => ?_⟩, kkk, fun j q => (o6.blkLt' q).1⟩
  · have z : ([Cell.nils, Cell.nils, Cell.nils] ++ List.replicate 29 (Cell.int .i64 0) ++ List.replicate 5 (Cell.nils)).length = 37 := rfl
    rw [jacquardref16_VM_Copy_eq, rdH_ok a.blk hl, if_pos (by rw [hl]; omega), rdH_ok (blk_new _ _) rfl, List.drop_zero, List.take_of_length_le (Nat.le_of_eq hl), if_pos ⟨rfl, z, hl⟩, putH_ok (blk_new _ _) rfl, setBlk_last, z]
    rw [show ((0 : Nat) : Int) = 0 from rfl] at hr
    rw [hr, bind_ok]
    exact e1
  · rw [List.nil_append, Nat.zero_add] at o6
    exact up (o6.setO n7 _)
  · obtain ⟨q1, q2⟩ := own t ht
    refine ⟨up (q1.via fun j b s1 s2 => (fr j b s2 (fun e => q2 (e ▸ s1))).1), q2, fun j q => ?_⟩
    have hb := q1.has q
    exact (fr j _ hb (fun e => q2 (e ▸ q))).2
end
end Jq

namespace Jq
open Go

/- jacquard/jacquardlaw17.Any: 254 -/
def jacquardlaw17_Any_k2 (C : CallF) (L : LoopF) (G : Glo) (h0 : AHeap) : Ex → St → Option (List AV × AHeap) :=
  kSeq (fun st => jacquardlaw17_Any_p1.exec C L G st (jacquardlaw17_Any.fin G h0)) (jacquardlaw17_Any.fin G h0)
def jacquardlaw17_Any_k3 (C : CallF) (L : LoopF) (G : Glo) (h0 : AHeap) : Ex → St → Option (List AV × AHeap) :=
  kBlk 0 (jacquardlaw17_Any_k2 C L G h0)
def jacquardlaw17_Any_s1 (x2 : Cell) (x7 : Cell) (x8 : Cell) (a9 : Int) (h : AHeap) : St := ⟨[.top, .top, .v (.c x2), .top, .top, .top, .top, .v (.c x7), .v (.c x8), .v (.c (.int .i64 a9)), .top, .top, .top, .top, .top, .top, .top, .top, .top, .top, .top, .top, .top, .top, .top, .top, .top, .top, .top, .top, .top, .top, .top, .top, .top, .top, .top, .top, .top, .top, .top, .top, .top, .top, .top, .top, .top, .top, .top, .top, .top, .top, .top, .top, .top, .top], [none], h⟩
def jacquardlaw17_Any_F1 (C : CallF) (L : LoopF) (G : Glo) : St → Option (Ex × St) :=
  roundF (fun st f => jacquardlaw17_Any_b1.exec C L G st f) [2, 7, 8, 9] [] [(0, [6], []), (1, [8], [])]
def jacquardlaw17_Any_x1_0 (x6 : Cell) (h : AHeap) : St := ⟨[.top, .top, .top, .top, .top, .top, .v (.c x6), .top, .top, .top, .top, .top, .top, .top, .top, .top, .top, .top, .top, .top, .top, .top, .top, .top, .top, .top, .top, .top, .top, .top, .top, .top, .top, .top, .top, .top, .top, .top, .top, .top, .top, .top, .top, .top, .top, .top, .top, .top, .top, .top, .top, .top, .top, .top, .top, .top], [none], h⟩
def jacquardlaw17_Any_x1_1 (x8 : Cell) (h : AHeap) : St := ⟨[.top, .top, .top, .top, .top, .top, .top, .top, .v (.c x8), .top, .top, .top, .top, .top, .top, .top, .top, .top, .top, .top, .top, .top, .top, .top, .top, .top, .top, .top, .top, .top, .top, .top, .top, .top, .top, .top, .top, .top, .top, .top, .top, .top, .top, .top, .top, .top, .top, .top, .top, .top, .top, .top, .top, .top, .top, .top], [none], h⟩
theorem jacquardlaw17_Any_r1 (C : CallF) (L : LoopF) (G : Glo) (x2 : Cell) (x7 : Cell) (x8 : Cell) (a9 : Int) (h : AHeap) :
    jacquardlaw17_Any_F1 C L G (jacquardlaw17_Any_s1 x2 x7 x8 a9 h) =
    if (decide (a9 < 60)) = true then c1 (C 181 [(.c x7)] h) fun y_5 h_4 => asC y_5 fun x_6 => lenK x_6 fun n_7 => if (n_7 == 0) = true then some (.ret, (jacquardlaw17_Any_x1_0 x8 h_4)) else lenK x2 fun n_8 => if (decide (a9 < n_8)) = true then idxSK 1 x2 a9 fun k_9 N_10 o_11 => rdH h_4 k_9 N_10 fun l_12 => atK l_12 o_11 fun q_13 => asI .i64 (.c q_13) fun n_14 => lenK x_6 fun n_15 => if n_15 = 0 then none else let v_16 : Int := (G.rem .i64 (G.band .i64 n_14 65535) n_15); idxSK 1 x_6 v_16 fun k_17 N_18 o_19 => rdH h_4 k_17 N_18 fun l_20 => atK l_20 o_19 fun q_21 => asI .i64 (.c q_21) fun n_22 => c2 (C 182 [(.c x7), (.c (.int .i64 n_22))] h_4) fun y_24 y_25 h_23 => asA y_24 fun l_26 => asB y_25 fun b_27 => lenK x_6 fun n_28 => if n_28 = 0 then none else let v_29 : Int := (G.rem .i64 (G.band .i64 n_14 65535) n_28); idxSK 1 x_6 v_29 fun k_30 N_31 o_32 => rdH h_23 k_30 N_31 fun l_33 => atK l_33 o_32 fun q_34 => asI .i64 (.c q_34) fun n_35 => if (splice [Cell.int .i64 0] 0 ([(.int .i64 n_35)] : List Cell)).length = 1 * 1 then appK 1 8 x8 (splice [Cell.int .i64 0] 0 ([(.int .i64 n_35)] : List Cell)) h_23 fun x_36 h_37 => some (.normal, (jacquardlaw17_Any_s1 x2 x7 x_36 (G.wrap .i64 (a9 + 1)) h_37)) else none else lenK x_6 fun n_38 => if n_38 = 0 then none else idxSK 1 x_6 (G.rem .i64 (G.wrap .i64 (a9 * 3)) n_38) fun k_39 N_40 o_41 => rdH h_4 k_39 N_40 fun l_42 => atK l_42 o_41 fun q_43 => asI .i64 (.c q_43) fun n_44 => c2 (C 182 [(.c x7), (.c (.int .i64 n_44))] h_4) fun y_46 y_47 h_45 => asA y_46 fun l_48 => asB y_47 fun b_49 => lenK x_6 fun n_50 => if n_50 = 0 then none else idxSK 1 x_6 (G.rem .i64 (G.wrap .i64 (a9 * 3)) n_50) fun k_51 N_52 o_53 => rdH h_45 k_51 N_52 fun l_54 => atK l_54 o_53 fun q_55 => asI .i64 (.c q_55) fun n_56 => if (splice [Cell.int .i64 0] 0 ([(.int .i64 n_56)] : List Cell)).length = 1 * 1 then appK 1 8 x8 (splice [Cell.int .i64 0] 0 ([(.int .i64 n_56)] : List Cell)) h_45 fun x_57 h_58 => some (.normal, (jacquardlaw17_Any_s1 x2 x7 x_57 (G.wrap .i64 (a9 + 1)) h_58)) else none else some ((.exit 0), (jacquardlaw17_Any_x1_1 x8 h)) := by kernel_rfl
theorem jacquardlaw17_Any_e1_0 (C : CallF) (L : LoopF) (G : Glo) (h0 : AHeap) (x6 : Cell) (h : AHeap) :
    (jacquardlaw17_Any_k3 C L G h0) .ret (jacquardlaw17_Any_x1_0 x6 h) =
    some ([(.c x6)], h) := by kernel_rfl
theorem jacquardlaw17_Any_e1_1 (C : CallF) (L : LoopF) (G : Glo) (h0 : AHeap) (x8 : Cell) (h : AHeap) :
    (jacquardlaw17_Any_k3 C L G h0) (.exit 0) (jacquardlaw17_Any_x1_1 x8 h) =
    some ([(.c x8)], h) := by kernel_rfl
set_option maxRecDepth 100000 in
theorem jacquardlaw17_Any_eq (C : CallF) (L : LoopF) (G : Glo) (l0 : List Cell) (a1 : Int) (x2 : Cell) (h0 : AHeap) :
    jacquardlaw17_Any.body C L G [(.agg l0), (.c (.int .i64 a1)), (.c x2)] h0 =
    if 0 = 0 ∧ l0.length = 3 then c1 (C 180 [(.agg l0), (.c (.int .i64 a1))] h0) fun y_2 h_1 => asC y_2 fun x_3 => (L (jacquardlaw17_Any_F1 C L G) (jacquardlaw17_Any_s1 x2 x_3 .nils 0 h_1)).bind fun p_59 => (jacquardlaw17_Any_k3 C L G h0) p_59.1 p_59.2 else none := by kernel_rfl


end Jq

