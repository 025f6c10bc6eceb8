/- YtldfafaiappibaaEventCountsA: a part of the proof; no conditions of its own. -/
import Derived.Test.YtldfafaiappibaaRows
import Derived.KernelRfl
import Derived.Test.YtldfafaiappibaaCoreC
set_option linter.unusedVariables false
set_option linter.unusedSimpArgs false

namespace Jq
open Go

/- jacquard/event.Unfold: 78 -/
def event_Unfold_b1 : IC :=
  (.blk 1 (.seq (.reg 2 false (.op (some 18) (.ldAll (.slot 0) 3) [(.t 3)]
    (.op (some 19) .mov [(.t 1)]
    (.op (some 20) (.ldAll (.slot 1) 5) [(.t 7)]
    (.op (some 21) (.call 105 [.agg, .b]) [(.t 18), (.t 19), (.t 20)]
    (.op (some 17) .mov [(.t 21)]
    (.op (some 22) (.ext 0) [(.t 17)]
    (.op (some 23) (.ext 1) [(.t 17)]
    (.al 9 2 (List.replicate 9 (Cell.int .i64 0))
    (.op none (.stAll (.slot 2) 9) [(.t 9), (.t 22)]
    (.op (some 10) .mov [(.t 23)]
    .nil)))))))))))
  (.seq (.seq (.reg 3 false (.op (some 24) .mov [(.t 10)]
    (.op (some 25) (.un .not) [(.t 24)]
    .nil)))
  (.cond (.t 25)
  (.seq (.reg 4 true (.op (some 26) .mov [(.t 6)]
    (.op (some 27) (.ldAll (.slot 1) 5) [(.t 7)]
    (.op (some 6) .mov [(.t 26)]
    (.op none (.stAll (.slot 1) 5) [(.t 7), (.t 27)]
    (.op (some 8) .mov [(.k (.c (.bool false)))]
    .nil))))))
  .ret)
  .skip))
  (.seq (.reg 5 false (.op (some 11) .mov [(.k (.c (.int .i64 0)))]
    .nil))
  (.seq (.seq (.reg 6 false (.op (some 28) .mov [(.t 2)]
    (.op (some 29) .len [(.t 28)]
    (.op (some 30) (.bin .gtr) [(.t 29), (.k (.c (.int .i64 0)))]
    .nil))))
  (.cond (.t 30)
  (.reg 7 false (.op (some 31) .mov [(.t 2)]
    (.op (some 32) (.idxS 1) [(.t 31), (.k (.c (.int .i64 0)))]
    (.op (some 33) (.ld .heap (.i .i64)) [(.t 32)]
    (.op (some 11) .mov [(.t 33)]
    .nil)))))
  .skip))
  (.seq (.reg 8 false (.op (some 35) (.ldAll (.slot 2) 9) [(.t 9)]
    (.op (some 36) (.ldAll (.slot 1) 5) [(.t 7)]
    (.op (some 37) .mov [(.t 11)]
    (.op (some 38) (.call 109 [.agg, .b]) [(.t 35), (.t 36), (.t 37)]
    (.op (some 34) .mov [(.t 38)]
    (.op (some 39) (.ext 0) [(.t 34)]
    (.op (some 40) (.ext 1) [(.t 34)]
    (.al 12 3 ([Cell.int .i64 0, Cell.int .i64 0, Cell.int .i64 0, Cell.int .i64 0, Cell.int .i64 0, Cell.int .i64 0])
    (.op none (.stAll (.slot 3) 6) [(.t 12), (.t 39)]
    (.op (some 13) .mov [(.t 40)]
    .nil)))))))))))
  (.seq (.seq (.reg 9 false (.op (some 41) .mov [(.t 13)]
    .nil))
  (.cond (.t 41)
  (.seq (.seq (.reg 10 false (.op (some 42) .mov [(.t 2)]
    (.op (some 43) .len [(.t 42)]
    (.op (some 44) (.bin .eql) [(.t 43), (.k (.c (.int .i64 0)))]
    .nil))))
  (.cond (.t 44)
  (.seq (.reg 11 true (.op (some 45) .mov [(.t 6)]
    (.op (some 46) (.ldAll (.slot 1) 5) [(.t 7)]
    (.op (some 6) .mov [(.t 45)]
    (.op none (.stAll (.slot 1) 5) [(.t 7), (.t 46)]
    (.op (some 8) .mov [(.k (.c (.bool true)))]
    .nil))))))
  .ret)
  .skip))
  (.reg 12 false (.op (some 47) .mov [(.t 2)]
    (.op (some 48) (.slc 1 true false) [(.t 47), (.k (.c (.int .i64 1)))]
    (.op (some 2) .mov [(.t 48)]
    .nil)))))
  .skip))
  (.seq (.reg 13 false (.op (some 49) .mov [(.t 1)]
    (.op (some 50) .mov [(.t 6)]
    (.op (some 51) .len [(.t 50)]
    (.op (some 52) (.addr 0) [(.t 12)]
    (.op none (.st (.slot 3)) [(.t 52), (.t 49)]
    (.op (some 53) (.addr 1) [(.t 12)]
    (.op none (.st (.slot 3)) [(.t 53), (.t 51)]
    .nil))))))))
  (.seq (.reg 14 false (.op (some 54) .mov [(.t 6)]
    (.op (some 55) (.ldAll (.slot 3) 6) [(.t 12)]
    (.op (some 56) (.lit 6 1 ([Cell.int .i64 0, Cell.int .i64 0, Cell.int .i64 0, Cell.int .i64 0, Cell.int .i64 0, Cell.int .i64 0]) [(0, 6)]) [(.t 55)]
    (.op (some 57) (.app 6 48) [(.t 54), (.t 56)]
    (.op (some 6) .mov [(.t 57)]
    .nil))))))
  (.reg 15 false (.op (some 58) (.ldAll (.slot 0) 3) [(.t 3)]
    (.op (some 59) .mov [(.t 1)]
    (.op (some 60) (.ldAll (.slot 1) 5) [(.t 7)]
    (.op (some 61) .mov [(.t 11)]
    (.op (some 62) (.call 106 [.agg]) [(.t 58), (.t 59), (.t 60), (.t 61)]
    (.op none (.stAll (.slot 1) 5) [(.t 7), (.t 62)]
    .nil))))))))))))))))
def event_Unfold : Fn := { np := 3, nt := 63, ns := 4, res := [.t 6 .any, .all (.slot 1) 7 5, .t 8 .b], gc := false, code :=
  (.seq (.reg 0 false (.box 3 0 (.t 0)
    (.op (some 6) .mov [(.k (.c .nils))]
    (.al 7 1 ([Cell.int .i64 0, Cell.int .i64 0, Cell.int .i64 0, Cell.int .i64 0, Cell.int .i64 0])
    (.op (some 8) .mov [(.k (.c (.bool false)))]
    .nil)))))
  (.seq (.reg 1 false (.op (some 14) (.ldAll (.slot 0) 3) [(.t 3)]
    (.op (some 15) .mov [(.t 1)]
    (.op (some 16) (.call 94 [.agg]) [(.t 14), (.t 15)]
    (.op none (.stAll (.slot 1) 5) [(.t 7), (.t 16)]
    .nil)))))
  (.blk 0 (.loop [1, 2, 3, 6, 7] [0, 1] [(0, [6, 7, 8], [1])] event_Unfold_b1)))) }

/- jacquard/event.Reads: 79 -/
def event_Reads : Fn := { np := 1, nt := 16, ns := 1, res := [.t 2 .b], gc := false, code :=
  (.seq (.reg 0 false (.box 1 0 (.t 0)
    (.op (some 2) .mov [(.k (.c (.bool false)))]
    .nil)))
  (.seq (.reg 1 false (.op (some 3) (.addr 2) [(.t 1)]
    (.op (some 4) (.ld (.slot 0) (.i .i64)) [(.t 3)]
    (.op (some 5) (.bin .eql) [(.t 4), (.k (.c (.int .i64 1)))]
    (.op (some 6) .mov [(.t 5)]
    (.sc 6 false (.op (some 7) (.addr 2) [(.t 1)]
    (.op (some 8) (.ld (.slot 0) (.i .i64)) [(.t 7)]
    (.op (some 9) (.bin .eql) [(.t 8), (.k (.c (.int .i64 4)))]
    .nil))) 9 10 true
    (.op (some 11) .mov [(.t 10)]
    (.sc 11 false (.op (some 12) (.addr 2) [(.t 1)]
    (.op (some 13) (.ld (.slot 0) (.i .i64)) [(.t 12)]
    (.op (some 14) (.bin .eql) [(.t 13), (.k (.c (.int .i64 5)))]
    .nil))) 14 15 true
    (.op (some 2) .mov [(.t 15)]
    .nil)))))))))
  .ret)) }

/- jacquard/event.Writes: 80 -/
def event_Writes : Fn := { np := 1, nt := 11, ns := 1, res := [.t 2 .b], gc := false, code :=
  (.seq (.reg 0 false (.box 1 0 (.t 0)
    (.op (some 2) .mov [(.k (.c (.bool false)))]
    .nil)))
  (.seq (.reg 1 false (.op (some 3) (.addr 2) [(.t 1)]
    (.op (some 4) (.ld (.slot 0) (.i .i64)) [(.t 3)]
    (.op (some 5) (.bin .eql) [(.t 4), (.k (.c (.int .i64 2)))]
    (.op (some 6) .mov [(.t 5)]
    (.sc 6 false (.op (some 7) (.addr 2) [(.t 1)]
    (.op (some 8) (.ld (.slot 0) (.i .i64)) [(.t 7)]
    (.op (some 9) (.bin .eql) [(.t 8), (.k (.c (.int .i64 4)))]
    .nil))) 9 10 true
    (.op (some 2) .mov [(.t 10)]
    .nil)))))))
  .ret)) }

/- jacquard/event.Fences: 82 -/
def event_Fences : Fn := { np := 1, nt := 16, ns := 1, res := [.t 2 .b], gc := false, code :=
  (.seq (.reg 0 false (.box 1 0 (.t 0)
    (.op (some 2) .mov [(.k (.c (.bool false)))]
    .nil)))
  (.seq (.reg 1 false (.op (some 3) (.addr 2) [(.t 1)]
    (.op (some 4) (.ld (.slot 0) (.i .i64)) [(.t 3)]
    (.op (some 5) (.bin .eql) [(.t 4), (.k (.c (.int .i64 3)))]
    (.op (some 6) .mov [(.t 5)]
    (.sc 6 false (.op (some 7) (.addr 2) [(.t 1)]
    (.op (some 8) (.ld (.slot 0) (.i .i64)) [(.t 7)]
    (.op (some 9) (.bin .eql) [(.t 8), (.k (.c (.int .i64 4)))]
    .nil))) 9 10 true
    (.op (some 11) .mov [(.t 10)]
    (.sc 11 false (.op (some 12) (.addr 2) [(.t 1)]
    (.op (some 13) (.ld (.slot 0) (.i .i64)) [(.t 12)]
    (.op (some 14) (.bin .eql) [(.t 13), (.k (.c (.int .i64 5)))]
    .nil))) 14 15 true
    (.op (some 2) .mov [(.t 15)]
    .nil)))))))))
  .ret)) }

/- jacquard/event.Same: 84 -/
def event_Same : Fn := { np := 2, nt := 8, ns := 0, res := [.t 4 .b], gc := false, code :=
  (.seq (.reg 0 false (.op (some 4) .mov [(.k (.c (.bool false)))]
    .nil))
  (.seq (.reg 1 false (.op (some 5) .mov [(.t 0)]
    (.op (some 6) .mov [(.t 1)]
    (.op (some 7) (.call 112 [.b]) [(.t 5), (.t 6)]
    (.op (some 4) .mov [(.t 7)]
    .nil)))))
  .ret)) }

/- jacquard/event.Inits: 88 -/
def event_Inits_b1 : IC :=
  (.seq (.reg 3 false (.op (some 10) (.bin .lss) [(.t 9), (.t 8)]
    .nil))
  (.seq (.cond (.t 10)
  .skip
  (.exit 0))
  (.seq (.blk 1 (.seq (.reg 4 false (.op (some 11) .mov [(.t 9)]
    (.op (some 12) (.idxS 1) [(.t 7), (.t 9)]
    (.op (some 13) (.ld .heap (.i .i64)) [(.t 12)]
    (.op (some 4) .mov [(.t 11)]
    (.op (some 5) .mov [(.t 13)]
    .nil))))))
  (.reg 5 false (.op (some 14) .mov [(.t 3)]
    (.op (some 15) .mov [(.t 4)]
    (.op (some 16) .mov [(.t 4)]
    (.op (some 17) .mov [(.t 5)]
    (.op (some 18) (.build ([Cell.int .i64 0, Cell.int .i64 0, Cell.int .i64 0, Cell.int .i64 0, Cell.int .i64 0, Cell.int .i64 0]) [(0, 1), (1, 1), (2, 1), (3, 1), (5, 1)]) [(.k (.c (.int .i64 (-1)))), (.t 15), (.k (.c (.int .i64 2))), (.t 16), (.t 17)]
    (.op (some 19) (.lit 6 1 ([Cell.int .i64 0, Cell.int .i64 0, Cell.int .i64 0, Cell.int .i64 0, Cell.int .i64 0, Cell.int .i64 0]) [(0, 6)]) [(.t 18)]
    (.op (some 20) (.app 6 48) [(.t 14), (.t 19)]
    (.op (some 3) .mov [(.t 20)]
    .nil)))))))))))
  (.reg 6 false (.op (some 21) (.bin .add) [(.t 9), (.k (.c (.int .i64 1)))]
    (.op (some 9) .mov [(.t 21)]
    .nil))))))
def event_Inits_p1 : IC :=
  (.seq (.reg 7 false (.op (some 22) .mov [(.t 3)]
    (.op (some 2) .mov [(.t 22)]
    .nil)))
  .ret)
def event_Inits : Fn := { np := 1, nt := 23, ns := 1, res := [.t 2 .any], gc := false, code :=
  (.seq (.reg 0 false (.box 1 0 (.t 0)
    (.op (some 2) .mov [(.k (.c .nils))]
    .nil)))
  (.seq (.reg 1 false (.op (some 3) .mov [(.k (.c .nils))]
    .nil))
  (.seq (.seq (.reg 2 false (.op (some 6) (.addr 1) [(.t 1)]
    (.op (some 7) (.ld (.slot 0) .any) [(.t 6)]
    (.op (some 8) .len [(.t 7)]
    (.op (some 9) .mov [(.k (.c (.int .i64 0)))]
    .nil)))))
  (.blk 0 (.loop [3, 7, 8, 9] [] [(1, [3], [])] event_Inits_b1)))
  event_Inits_p1))) }

/- jacquard/event.PO: 90 -/
def event_PO_b1 : IC :=
  (.seq (.reg 8 false (.op (some 25) (.bin .lss) [(.t 24), (.t 23)]
    .nil))
  (.seq (.cond (.t 25)
  .skip
  (.exit 2))
  (.seq (.blk 3 (.seq (.reg 9 false (.op (some 26) .mov [(.t 24)]
    (.op (some 27) (.idxS 6) [(.t 22), (.t 24)]
    (.op (some 28) (.ldN .heap 6) [(.t 27)]
    (.al 7 3 ([Cell.int .i64 0, Cell.int .i64 0, Cell.int .i64 0, Cell.int .i64 0, Cell.int .i64 0, Cell.int .i64 0])
    (.op (some 6) .mov [(.t 26)]
    (.op none (.stAll (.slot 3) 6) [(.t 7), (.t 28)]
    .nil)))))))
  (.seq (.reg 10 false (.op (some 29) (.addr 0) [(.t 5)]
    (.op (some 30) (.ld (.slot 2) (.i .i64)) [(.t 29)]
    (.op (some 31) (.bin .lss) [(.t 30), (.k (.c (.int .i64 0)))]
    (.op (some 32) .mov [(.t 31)]
    (.sc 32 true (.op (some 33) (.addr 0) [(.t 7)]
    (.op (some 34) (.ld (.slot 3) (.i .i64)) [(.t 33)]
    (.op (some 35) (.bin .geq) [(.t 34), (.k (.c (.int .i64 0)))]
    .nil))) 35 36 false
    (.op (some 37) .mov [(.t 36)]
    (.sc 37 false (.op (some 38) (.addr 0) [(.t 5)]
    (.op (some 39) (.ld (.slot 2) (.i .i64)) [(.t 38)]
    (.op (some 40) (.bin .geq) [(.t 39), (.k (.c (.int .i64 0)))]
    (.op (some 41) .mov [(.t 40)]
    (.sc 41 true (.op (some 42) (.addr 0) [(.t 5)]
    (.op (some 43) (.ld (.slot 2) (.i .i64)) [(.t 42)]
    (.op (some 44) (.addr 0) [(.t 7)]
    (.op (some 45) (.ld (.slot 3) (.i .i64)) [(.t 44)]
    (.op (some 46) (.bin .eql) [(.t 43), (.t 45)]
    .nil))))) 46 47 false
    (.op (some 48) .mov [(.t 47)]
    (.sc 48 true (.op (some 49) (.addr 1) [(.t 5)]
    (.op (some 50) (.ld (.slot 2) (.i .i64)) [(.t 49)]
    (.op (some 51) (.addr 1) [(.t 7)]
    (.op (some 52) (.ld (.slot 3) (.i .i64)) [(.t 51)]
    (.op (some 53) (.bin .lss) [(.t 50), (.t 52)]
    .nil))))) 53 54 false
    .nil))))))) 54 55 true
    .nil))))))))
  (.cond (.t 55)
  (.reg 11 false (.op (some 56) (.ldAll (.slot 1) 65) [(.t 3)]
    (.op (some 57) .mov [(.t 4)]
    (.op (some 58) .mov [(.t 6)]
    (.op (some 59) (.call 10 [.agg]) [(.t 56), (.t 57), (.t 58)]
    (.op none (.stAll (.slot 1) 65) [(.t 3), (.t 59)]
    .nil))))))
  .skip))))
  (.reg 12 false (.op (some 60) (.bin .add) [(.t 24), (.k (.c (.int .i64 1)))]
    (.op (some 24) .mov [(.t 60)]
    .nil))))))
def event_PO_p2 : IC :=
  (.reg 13 false (.op (some 61) (.bin .add) [(.t 17), (.k (.c (.int .i64 1)))]
    (.op (some 17) .mov [(.t 61)]
    .nil)))
def event_PO_b2 : IC :=
  (.seq (.reg 5 false (.op (some 18) (.bin .lss) [(.t 17), (.t 16)]
    .nil))
  (.seq (.cond (.t 18)
  .skip
  (.exit 0))
  (.seq (.blk 1 (.seq (.reg 6 false (.op (some 19) .mov [(.t 17)]
    (.op (some 20) (.idxS 6) [(.t 15), (.t 17)]
    (.op (some 21) (.ldN .heap 6) [(.t 20)]
    (.al 5 2 ([Cell.int .i64 0, Cell.int .i64 0, Cell.int .i64 0, Cell.int .i64 0, Cell.int .i64 0, Cell.int .i64 0])
    (.op (some 4) .mov [(.t 19)]
    (.op none (.stAll (.slot 2) 6) [(.t 5), (.t 21)]
    .nil)))))))
  (.seq (.reg 7 false (.op (some 22) .mov [(.t 0)]
    (.op (some 23) .len [(.t 22)]
    (.op (some 24) .mov [(.k (.c (.int .i64 0)))]
    .nil))))
  (.blk 2 (.loop [0, 2, 3, 4, 5, 15, 16, 17, 22, 23, 24] [0, 1, 2] [(3, [0, 2, 3, 15, 16, 17], [0, 1])] event_PO_b1)))))
  event_PO_p2)))
def event_PO_p1 : IC :=
  (.seq (.reg 14 false (.op (some 62) (.ldAll (.slot 1) 65) [(.t 3)]
    (.op none (.stAll (.slot 0) 65) [(.t 2), (.t 62)]
    .nil)))
  .ret)
def event_PO : Fn := { np := 1, nt := 63, ns := 4, res := [.all (.slot 0) 2 65], gc := false, code :=
  (.seq (.reg 0 false (.al 2 0 ([Cell.int .i64 0] ++ List.replicate 64 (Cell.int .u64 0))
    .nil))
  (.seq (.seq (.reg 1 false (.op (some 8) .mov [(.t 0)]
    (.op (some 9) .len [(.t 8)]
    (.op (some 10) (.bin .gtr) [(.t 9), (.k (.c (.int .i64 64)))]
    .nil))))
  (.cond (.t 10)
  (.seq (.reg 2 false (.op (some 11) (.call 9 [.agg]) [(.k (.c (.int .i64 0)))]
    (.op none (.stAll (.slot 0) 65) [(.t 2), (.t 11)]
    .nil)))
  .ret)
  .skip))
  (.seq (.reg 3 false (.op (some 12) .mov [(.t 0)]
    (.op (some 13) .len [(.t 12)]
    (.op (some 14) (.call 9 [.agg]) [(.t 13)]
    (.al 3 1 ([Cell.int .i64 0] ++ List.replicate 64 (Cell.int .u64 0))
    (.op none (.stAll (.slot 1) 65) [(.t 3), (.t 14)]
    .nil))))))
  (.seq (.seq (.reg 4 false (.op (some 15) .mov [(.t 0)]
    (.op (some 16) .len [(.t 15)]
    (.op (some 17) .mov [(.k (.c (.int .i64 0)))]
    .nil))))
  (.blk 0 (.loop [0, 2, 3, 15, 16, 17] [0, 1] [(1, [2, 3], [0, 1])] event_PO_b2)))
  event_PO_p1)))) }

/- jacquard/event.Of: 109 -/
def event_Of : Fn := { np := 3, nt := 46, ns := 3, res := [.all (.slot 2) 6 6, .t 7 .b], gc := false, code :=
  (.seq (.reg 0 false (.box 3 0 (.t 0)
    (.box 4 1 (.t 1)
    (.al 6 2 ([Cell.int .i64 0, Cell.int .i64 0, Cell.int .i64 0, Cell.int .i64 0, Cell.int .i64 0, Cell.int .i64 0])
    (.op (some 7) .mov [(.k (.c (.bool false)))]
    .nil)))))
  (.seq (.seq (.reg 1 false (.op (some 8) (.addr 0) [(.t 3)]
    (.op (some 9) (.ld (.slot 0) (.i .i64)) [(.t 8)]
    .nil)))
  (.blk 0 (.seq (.reg 2 false (.op (some 11) (.bin .eql) [(.t 9), (.k (.c (.int .i64 1)))]
    (.op (some 10) .mov [(.t 11)]
    .nil)))
  (.cond (.t 10)
  (.seq (.reg 3 true (.op (some 12) (.addr 2) [(.t 3)]
    (.op (some 13) (.ld (.slot 0) (.i .i64)) [(.t 12)]
    (.op (some 14) (.addr 3) [(.t 3)]
    (.op (some 15) (.ldN (.slot 0) 2) [(.t 14)]
    (.op (some 16) (.ldAll (.slot 1) 5) [(.t 4)]
    (.op (some 17) (.qcall 108 [(.i .i64)]) [(.t 15), (.t 16)]
    (.op (some 18) (.build ([Cell.int .i64 0, Cell.int .i64 0, Cell.int .i64 0, Cell.int .i64 0, Cell.int .i64 0, Cell.int .i64 0]) [(2, 1), (3, 1), (5, 1)]) [(.k (.c (.int .i64 2))), (.t 13), (.t 17)]
    (.op none (.stAll (.slot 2) 6) [(.t 6), (.t 18)]
    (.op (some 7) .mov [(.k (.c (.bool false)))]
    .nil))))))))))
  .ret)
  (.seq (.reg 4 false (.op (some 20) (.bin .eql) [(.t 9), (.k (.c (.int .i64 2)))]
    (.op (some 19) .mov [(.t 20)]
    .nil)))
  (.cond (.t 19)
  (.seq (.reg 5 false (.op (some 21) (.addr 2) [(.t 3)]
    (.op (some 22) (.ld (.slot 0) (.i .i64)) [(.t 21)]
    (.op (some 23) .mov [(.t 2)]
    (.op (some 24) (.build ([Cell.int .i64 0, Cell.int .i64 0, Cell.int .i64 0, Cell.int .i64 0, Cell.int .i64 0, Cell.int .i64 0]) [(2, 1), (3, 1), (4, 1)]) [(.k (.c (.int .i64 1))), (.t 22), (.t 23)]
    (.op none (.stAll (.slot 2) 6) [(.t 6), (.t 24)]
    (.op (some 7) .mov [(.k (.c (.bool true)))]
    .nil)))))))
  .ret)
  (.seq (.reg 6 false (.op (some 26) (.bin .eql) [(.t 9), (.k (.c (.int .i64 4)))]
    (.op (some 25) .mov [(.t 26)]
    .nil)))
  (.cond (.t 25)
  (.seq (.seq (.reg 7 false (.op (some 27) (.addr 3) [(.t 3)]
    (.op (some 28) (.ldN (.slot 0) 2) [(.t 27)]
    (.op (some 29) (.ldAll (.slot 1) 5) [(.t 4)]
    (.op (some 30) (.call 108 [(.i .i64)]) [(.t 28), (.t 29)]
    (.op (some 31) .mov [(.t 2)]
    (.op (some 32) (.bin .eql) [(.t 30), (.t 31)]
    .nil)))))))
  (.cond (.t 32)
  (.seq (.reg 8 true (.op (some 33) (.addr 2) [(.t 3)]
    (.op (some 34) (.ld (.slot 0) (.i .i64)) [(.t 33)]
    (.op (some 35) .mov [(.t 2)]
    (.op (some 36) (.addr 6) [(.t 3)]
    (.op (some 37) (.ldN (.slot 0) 2) [(.t 36)]
    (.op (some 38) (.ldAll (.slot 1) 5) [(.t 4)]
    (.op (some 39) (.qcall 108 [(.i .i64)]) [(.t 37), (.t 38)]
    (.op (some 40) (.build ([Cell.int .i64 0, Cell.int .i64 0, Cell.int .i64 0, Cell.int .i64 0, Cell.int .i64 0, Cell.int .i64 0]) [(2, 1), (3, 1), (4, 1), (5, 1)]) [(.k (.c (.int .i64 4))), (.t 34), (.t 35), (.t 39)]
    (.op none (.stAll (.slot 2) 6) [(.t 6), (.t 40)]
    (.op (some 7) .mov [(.k (.c (.bool true)))]
    .nil)))))))))))
  .ret)
  .skip))
  (.seq (.reg 9 false (.op (some 41) (.addr 2) [(.t 3)]
    (.op (some 42) (.ld (.slot 0) (.i .i64)) [(.t 41)]
    (.op (some 43) .mov [(.t 2)]
    (.op (some 44) (.build ([Cell.int .i64 0, Cell.int .i64 0, Cell.int .i64 0, Cell.int .i64 0, Cell.int .i64 0, Cell.int .i64 0]) [(2, 1), (3, 1), (4, 1)]) [(.k (.c (.int .i64 5))), (.t 42), (.t 43)]
    (.op none (.stAll (.slot 2) 6) [(.t 6), (.t 44)]
    (.op (some 7) .mov [(.k (.c (.bool true)))]
    .nil)))))))
  .ret))
  .skip))))))))
  (.seq (.reg 10 false (.op (some 45) (.build ([Cell.int .i64 0, Cell.int .i64 0, Cell.int .i64 0, Cell.int .i64 0, Cell.int .i64 0, Cell.int .i64 0]) [(2, 1)]) [(.k (.c (.int .i64 3)))]
    (.op none (.stAll (.slot 2) 6) [(.t 6), (.t 45)]
    (.op (some 7) .mov [(.k (.c (.bool false)))]
    .nil))))
  .ret))) }


end Jq

namespace Jq
open Go

/- jacquard/prog.Start: 94 -/
def prog_Start : Fn := { np := 2, nt := 10, ns := 2, res := [.all (.slot 1) 4 5], gc := false, code :=
  (.seq (.reg 0 false (.box 2 0 (.t 0)
    (.al 4 1 ([Cell.int .i64 0, Cell.int .i64 0, Cell.int .i64 0, Cell.int .i64 0, Cell.int .i64 0])
    .nil)))
  (.seq (.reg 1 false (.op (some 5) (.ldAll (.slot 0) 3) [(.t 2)]
    (.op (some 6) .mov [(.t 1)]
    (.op (some 7) (.call 113 [.any]) [(.t 5), (.t 6)]
    (.op (some 8) (.build ([Cell.int .i64 0, Cell.int .i64 0, Cell.int .i64 0, Cell.int .i64 0, Cell.int .i64 0]) []) []
    (.op (some 9) (.call 114 [.agg]) [(.t 7), (.t 8)]
    (.op none (.stAll (.slot 1) 5) [(.t 4), (.t 9)]
    .nil)))))))
  .ret)) }

/- jacquard/prog.Next: 105 -/
def prog_Next : Fn := { np := 3, nt := 39, ns := 4, res := [.all (.slot 2) 6 9, .t 7 .b], gc := false, code :=
  (.seq (.reg 0 false (.box 3 0 (.t 0)
    (.box 5 1 (.t 2)
    (.al 6 2 (List.replicate 9 (Cell.int .i64 0))
    (.op (some 7) .mov [(.k (.c (.bool false)))]
    .nil)))))
  (.seq (.reg 1 false (.op (some 10) (.ldAll (.slot 0) 3) [(.t 3)]
    (.op (some 11) .mov [(.t 1)]
    (.op (some 12) (.call 113 [.any]) [(.t 10), (.t 11)]
    (.op (some 8) .mov [(.t 12)]
    .nil)))))
  (.seq (.seq (.reg 2 false (.op (some 13) (.addr 0) [(.t 5)]
    (.op (some 14) (.ld (.slot 1) (.i .i64)) [(.t 13)]
    (.op (some 15) (.bin .lss) [(.t 14), (.k (.c (.int .i64 0)))]
    (.op (some 16) .mov [(.t 15)]
    (.sc 16 false (.op (some 17) (.addr 0) [(.t 5)]
    (.op (some 18) (.ld (.slot 1) (.i .i64)) [(.t 17)]
    (.op (some 19) .mov [(.t 8)]
    (.op (some 20) .len [(.t 19)]
    (.op (some 21) (.bin .geq) [(.t 18), (.t 20)]
    .nil))))) 21 22 true
    .nil))))))
  (.cond (.t 22)
  (.seq (.reg 3 false (.op (some 23) (.build (List.replicate 9 (Cell.int .i64 0)) []) []
    (.op none (.stAll (.slot 2) 9) [(.t 6), (.t 23)]
    (.op (some 7) .mov [(.k (.c (.bool false)))]
    .nil))))
  .ret)
  .skip))
  (.seq (.reg 4 false (.op (some 24) .mov [(.t 8)]
    (.op (some 25) (.addr 0) [(.t 5)]
    (.op (some 26) (.ld (.slot 1) (.i .i64)) [(.t 25)]
    (.op (some 27) (.idxS 9) [(.t 24), (.t 26)]
    (.op (some 28) (.ldN .heap 9) [(.t 27)]
    (.al 9 3 (List.replicate 9 (Cell.int .i64 0))
    (.op none (.stAll (.slot 3) 9) [(.t 9), (.t 28)]
    .nil))))))))
  (.seq (.seq (.reg 5 false (.op (some 29) (.addr 0) [(.t 9)]
    (.op (some 30) (.ld (.slot 3) (.i .i64)) [(.t 29)]
    (.op (some 31) (.bin .lss) [(.t 30), (.k (.c (.int .i64 1)))]
    (.op (some 32) .mov [(.t 31)]
    (.sc 32 false (.op (some 33) (.addr 0) [(.t 9)]
    (.op (some 34) (.ld (.slot 3) (.i .i64)) [(.t 33)]
    (.op (some 35) (.bin .gtr) [(.t 34), (.k (.c (.int .i64 4)))]
    .nil))) 35 36 true
    .nil))))))
  (.cond (.t 36)
  (.seq (.reg 6 false (.op (some 37) (.build (List.replicate 9 (Cell.int .i64 0)) []) []
    (.op none (.stAll (.slot 2) 9) [(.t 6), (.t 37)]
    (.op (some 7) .mov [(.k (.c (.bool false)))]
    .nil))))
  .ret)
  .skip))
  (.seq (.reg 7 false (.op (some 38) (.ldAll (.slot 3) 9) [(.t 9)]
    (.op none (.stAll (.slot 2) 9) [(.t 6), (.t 38)]
    (.op (some 7) .mov [(.k (.c (.bool true)))]
    .nil))))
  .ret)))))) }

/- jacquard/prog.After: 106 -/
def prog_After : Fn := { np := 4, nt := 42, ns := 3, res := [.all (.slot 1) 8 5], gc := true, code :=
  (.seq (.reg 0 false (.box 4 0 (.t 0)
    (.op (some 6) .boxH [(.t 2)]
    (.al 8 1 ([Cell.int .i64 0, Cell.int .i64 0, Cell.int .i64 0, Cell.int .i64 0, Cell.int .i64 0])
    .nil))))
  (.seq (.reg 1 false (.op (some 12) (.ldAll (.slot 0) 3) [(.t 4)]
    (.op (some 13) .mov [(.t 1)]
    (.op (some 14) (.ldAll .heap 5) [(.t 6)]
    (.op (some 15) (.call 105 [.agg, .b]) [(.t 12), (.t 13), (.t 14)]
    (.op (some 11) .mov [(.t 15)]
    (.op (some 16) (.ext 0) [(.t 11)]
    (.op (some 17) (.ext 1) [(.t 11)]
    (.al 9 2 (List.replicate 9 (Cell.int .i64 0))
    (.op none (.stAll (.slot 2) 9) [(.t 9), (.t 16)]
    (.op (some 10) .mov [(.t 17)]
    .nil)))))))))))
  (.seq (.seq (.reg 2 false (.op (some 18) .mov [(.t 10)]
    (.op (some 19) (.un .not) [(.t 18)]
    .nil)))
  (.cond (.t 19)
  (.seq (.reg 3 false (.op (some 20) (.ldAll .heap 5) [(.t 6)]
    (.op none (.stAll (.slot 1) 5) [(.t 8), (.t 20)]
    .nil)))
  .ret)
  .skip))
  (.seq (.seq (.reg 4 false (.op (some 21) (.addr 0) [(.t 9)]
    (.op (some 22) (.ld (.slot 2) (.i .i64)) [(.t 21)]
    (.op (some 23) (.bin .eql) [(.t 22), (.k (.c (.int .i64 2)))]
    (.op (some 24) .mov [(.t 23)]
    (.sc 24 false (.op (some 25) (.addr 0) [(.t 9)]
    (.op (some 26) (.ld (.slot 2) (.i .i64)) [(.t 25)]
    (.op (some 27) (.bin .eql) [(.t 26), (.k (.c (.int .i64 4)))]
    .nil))) 27 28 true
    .nil))))))
  (.cond (.t 28)
  (.reg 5 false (.op (some 29) (.addr 1) [(.t 9)]
    (.op (some 30) (.ld (.slot 2) (.i .i64)) [(.t 29)]
    (.op (some 31) .mov [(.t 3)]
    (.op (some 32) (.call 124 []) [(.t 6), (.t 30), (.t 31)]
    .nil)))))
  .skip))
  (.seq (.reg 6 false (.op (some 33) (.addr 0) [(.t 6)]
    (.op (some 34) (.ld .heap (.i .i64)) [(.t 33)]
    (.op (some 35) (.bin .add) [(.t 34), (.k (.c (.int .i64 1)))]
    (.op (some 36) (.addr 0) [(.t 6)]
    (.op none (.st .heap) [(.t 36), (.t 35)]
    .nil))))))
  (.seq (.reg 7 true (.op (some 37) (.ldAll (.slot 0) 3) [(.t 4)]
    (.op (some 38) .mov [(.t 1)]
    (.op (some 39) (.qcall 113 [.any]) [(.t 37), (.t 38)]
    (.op (some 40) (.ldAll .heap 5) [(.t 6)]
    (.op (some 41) (.qcall 114 [.agg]) [(.t 39), (.t 40)]
    (.op none (.stAll (.slot 1) 5) [(.t 8), (.t 41)]
    .nil)))))))
  .ret)))))) }

/- jacquard/prog.Value: 108 -/
def prog_Value : Fn := { np := 2, nt := 20, ns := 2, res := [.t 4 (.i .i64)], gc := false, code :=
  (.seq (.reg 0 false (.box 2 0 (.t 0)
    (.box 3 1 (.t 1)
    (.op (some 4) .mov [(.k (.c (.int .i64 0)))]
    .nil))))
  (.seq (.seq (.reg 1 false (.op (some 5) (.addr 0) [(.t 2)]
    (.op (some 6) (.ld (.slot 0) (.i .i64)) [(.t 5)]
    (.op (some 7) (.bin .geq) [(.t 6), (.k (.c (.int .i64 0)))]
    (.op (some 8) .mov [(.t 7)]
    (.sc 8 true (.op (some 9) (.addr 0) [(.t 2)]
    (.op (some 10) (.ld (.slot 0) (.i .i64)) [(.t 9)]
    (.op (some 11) (.bin .lss) [(.t 10), (.k (.c (.int .i64 4)))]
    .nil))) 11 12 false
    .nil))))))
  (.cond (.t 12)
  (.seq (.reg 2 false (.op (some 13) (.addr 0) [(.t 2)]
    (.op (some 14) (.ld (.slot 0) (.i .i64)) [(.t 13)]
    (.op (some 15) (.addr 1) [(.t 3)]
    (.op (some 16) (.idxA 4 1) [(.t 15), (.t 14)]
    (.op (some 17) (.ld (.slot 1) (.i .i64)) [(.t 16)]
    (.op (some 4) .mov [(.t 17)]
    .nil)))))))
  .ret)
  .skip))
  (.seq (.reg 3 false (.op (some 18) (.addr 1) [(.t 2)]
    (.op (some 19) (.ld (.slot 0) (.i .i64)) [(.t 18)]
    (.op (some 4) .mov [(.t 19)]
    .nil))))
  .ret))) }

/- jacquard/prog.thread: 113 -/
def prog_thread : Fn := { np := 2, nt := 19, ns := 1, res := [.t 4 .any], gc := false, code :=
  (.seq (.reg 0 false (.box 2 0 (.t 0)
    (.op (some 4) .mov [(.k (.c .nils))]
    .nil)))
  (.seq (.seq (.reg 1 false (.op (some 5) .mov [(.t 1)]
    (.op (some 6) (.bin .lss) [(.t 5), (.k (.c (.int .i64 0)))]
    (.op (some 7) .mov [(.t 6)]
    (.sc 7 false (.op (some 8) .mov [(.t 1)]
    (.op (some 9) (.addr 2) [(.t 2)]
    (.op (some 10) (.ld (.slot 0) .any) [(.t 9)]
    (.op (some 11) .len [(.t 10)]
    (.op (some 12) (.bin .geq) [(.t 8), (.t 11)]
    .nil))))) 12 13 true
    .nil)))))
  (.cond (.t 13)
  (.seq (.reg 2 false (.op (some 4) .mov [(.k (.c .nils))]
    .nil))
  .ret)
  .skip))
  (.seq (.reg 3 false (.op (some 14) (.addr 2) [(.t 2)]
    (.op (some 15) (.ld (.slot 0) .any) [(.t 14)]
    (.op (some 16) .mov [(.t 1)]
    (.op (some 17) (.idxS 1) [(.t 15), (.t 16)]
    (.op (some 18) (.ld .heap .any) [(.t 17)]
    (.op (some 4) .mov [(.t 18)]
    .nil)))))))
  .ret))) }

/- jacquard/prog.normal: 114 -/
def prog_normal_b1 : IC :=
  (.seq (.seq (.reg 1 false (.op (some 10) (.addr 0) [(.t 3)]
    (.op (some 11) (.ld .heap (.i .i64)) [(.t 10)]
    (.op (some 12) (.bin .geq) [(.t 11), (.k (.c (.int .i64 0)))]
    (.op (some 13) .mov [(.t 12)]
    (.sc 13 true (.op (some 14) (.addr 0) [(.t 3)]
    (.op (some 15) (.ld .heap (.i .i64)) [(.t 14)]
    (.op (some 16) .mov [(.t 0)]
    (.op (some 17) .len [(.t 16)]
    (.op (some 18) (.bin .lss) [(.t 15), (.t 17)]
    .nil))))) 18 19 false
    .nil))))))
  (.cond (.t 19)
  .skip
  (.exit 0)))
  (.blk 1 (.seq (.reg 2 false (.op (some 20) .mov [(.t 0)]
    (.op (some 21) (.addr 0) [(.t 3)]
    (.op (some 22) (.ld .heap (.i .i64)) [(.t 21)]
    (.op (some 23) (.idxS 9) [(.t 20), (.t 22)]
    (.op (some 24) (.ldN .heap 9) [(.t 23)]
    (.al 5 1 (List.replicate 9 (Cell.int .i64 0))
    (.op none (.stAll (.slot 1) 9) [(.t 5), (.t 24)]
    .nil))))))))
  (.seq (.reg 3 true (.op (some 25) (.addr 3) [(.t 5)]
    (.op (some 26) (.ldN (.slot 1) 2) [(.t 25)]
    (.op (some 27) (.ldAll .heap 5) [(.t 3)]
    (.op (some 28) (.qcall 108 [(.i .i64)]) [(.t 26), (.t 27)]
    (.op (some 29) (.addr 6) [(.t 5)]
    (.op (some 30) (.ldN (.slot 1) 2) [(.t 29)]
    (.op (some 31) (.ldAll .heap 5) [(.t 3)]
    (.op (some 32) (.qcall 108 [(.i .i64)]) [(.t 30), (.t 31)]
    (.op (some 6) .mov [(.t 28)]
    (.op (some 7) .mov [(.t 32)]
    .nil)))))))))))
  (.seq (.seq (.reg 4 false (.op (some 33) (.addr 0) [(.t 5)]
    (.op (some 34) (.ld (.slot 1) (.i .i64)) [(.t 33)]
    .nil)))
  (.blk 2 (.seq (.reg 6 false (.op (some 37) (.bin .eql) [(.t 34), (.k (.c (.int .i64 5)))]
    (.op (some 36) .mov [(.t 37)]
    .nil)))
  (.cond (.t 36)
  (.seq (.seq (.reg 7 false (.op (some 39) (.addr 5) [(.t 5)]
    (.op (some 40) (.ld (.slot 1) (.i .i64)) [(.t 39)]
    (.op (some 41) .mov [(.t 6)]
    (.op (some 42) .mov [(.t 7)]
    (.op (some 43) (.call 125 [(.i .i64), .b]) [(.t 40), (.t 41), (.t 42)]
    (.op (some 38) .mov [(.t 43)]
    (.op (some 44) (.ext 0) [(.t 38)]
    (.op (some 45) (.ext 1) [(.t 38)]
    (.op (some 8) .mov [(.t 44)]
    (.op (some 9) .mov [(.t 45)]
    .nil)))))))))))
  (.seq (.reg 8 false (.op (some 46) .mov [(.t 9)]
    .nil))
  (.cond (.t 46)
  (.reg 9 false (.op (some 47) .mov [(.t 8)]
    (.op (some 6) .mov [(.t 47)]
    .nil)))
  .skip)))
  (.reg 10 false (.op (some 48) (.addr 1) [(.t 5)]
    (.op (some 49) (.ld (.slot 1) (.i .i64)) [(.t 48)]
    (.op (some 50) .mov [(.t 6)]
    (.op (some 51) (.call 124 []) [(.t 3), (.t 49), (.t 50)]
    .nil))))))
  (.seq (.reg 11 false (.op (some 53) (.bin .eql) [(.t 34), (.k (.c (.int .i64 6)))]
    (.op (some 52) .mov [(.t 53)]
    .nil)))
  (.cond (.t 52)
  (.seq (.reg 12 false (.op (some 54) .mov [(.t 6)]
    (.op (some 55) .mov [(.t 7)]
    (.op (some 56) (.bin .eql) [(.t 54), (.t 55)]
    .nil))))
  (.cond (.t 56)
  (.reg 13 false (.op (some 57) (.addr 0) [(.t 3)]
    (.op (some 58) (.ld .heap (.i .i64)) [(.t 57)]
    (.op (some 59) (.addr 8) [(.t 5)]
    (.op (some 60) (.ld (.slot 1) (.i .i64)) [(.t 59)]
    (.op (some 61) .mx [(.t 60), (.k (.c (.int .i64 0)))]
    (.op (some 62) .mov [(.t 0)]
    (.op (some 63) .len [(.t 62)]
    (.op (some 64) .mn [(.t 61), (.t 63)]
    (.op (some 65) (.bin .add) [(.t 58), (.t 64)]
    (.op (some 66) (.addr 0) [(.t 3)]
    (.op none (.st .heap) [(.t 66), (.t 65)]
    .nil))))))))))))
  .skip))
  (.seq (.reg 5 false (.op (some 35) (.ldAll .heap 5) [(.t 3)]
    (.op none (.stAll (.slot 0) 5) [(.t 4), (.t 35)]
    .nil)))
  .ret)))))))
  (.reg 14 false (.op (some 67) (.addr 0) [(.t 3)]
    (.op (some 68) (.ld .heap (.i .i64)) [(.t 67)]
    (.op (some 69) (.bin .add) [(.t 68), (.k (.c (.int .i64 1)))]
    (.op (some 70) (.addr 0) [(.t 3)]
    (.op none (.st .heap) [(.t 70), (.t 69)]
    .nil)))))))))))
def prog_normal_p1 : IC :=
  (.seq (.reg 15 false (.op (some 71) (.ldAll .heap 5) [(.t 3)]
    (.op none (.stAll (.slot 0) 5) [(.t 4), (.t 71)]
    .nil)))
  .ret)
def prog_normal : Fn := { np := 2, nt := 72, ns := 2, res := [.all (.slot 0) 4 5], gc := true, code :=
  (.seq (.reg 0 false (.op (some 3) .boxH [(.t 1)]
    (.al 4 0 ([Cell.int .i64 0, Cell.int .i64 0, Cell.int .i64 0, Cell.int .i64 0, Cell.int .i64 0])
    .nil)))
  (.seq (.blk 0 (.loop [0, 3, 4] [0] [(0, [4], [0]), (1, [3, 4], [0])] prog_normal_b1))
  prog_normal_p1)) }

/- jacquard/prog.set: 124 -/
def prog_set : Fn := { np := 3, nt := 18, ns := 0, res := [], gc := false, code :=
  (.seq (.reg 0 false (.op (some 6) .mov [(.t 1)]
    (.op (some 7) (.bin .geq) [(.t 6), (.k (.c (.int .i64 0)))]
    (.op (some 8) .mov [(.t 7)]
    (.sc 8 true (.op (some 9) .mov [(.t 1)]
    (.op (some 10) (.bin .lss) [(.t 9), (.k (.c (.int .i64 4)))]
    .nil)) 10 11 false
    .nil)))))
  (.cond (.t 11)
  (.reg 1 false (.op (some 12) .mov [(.t 0)]
    (.op (some 13) .mov [(.t 1)]
    (.op (some 14) .mov [(.t 2)]
    (.op (some 15) .nilchk [(.t 12)]
    (.op (some 16) (.addr 1) [(.t 15)]
    (.op (some 17) (.idxA 4 1) [(.t 16), (.t 13)]
    (.op none (.st .heap) [(.t 17), (.t 14)]
    .nil))))))))
  .skip)) }


end Jq

namespace Jq
open Go

/- jacquard/num.Do: 125 -/
def num_Do : Fn := { np := 3, nt := 71, ns := 0, res := [.t 6 (.i .i64), .t 7 .b], gc := false, code :=
  (.seq (.reg 0 false (.op (some 6) .mov [(.k (.c (.int .i64 0)))]
    (.op (some 7) .mov [(.k (.c (.bool false)))]
    .nil)))
  (.seq (.reg 1 false (.op (some 9) .mov [(.t 2)]
    (.op (some 10) (.conv .u64) [(.t 9)]
    (.op (some 11) (.bin .rem) [(.t 10), (.k (.c (.int .u64 64)))]
    (.op (some 8) .mov [(.t 11)]
    .nil)))))
  (.seq (.seq (.reg 2 false (.op (some 12) .mov [(.t 0)]
    .nil))
  (.blk 0 (.seq (.reg 3 false (.op (some 14) (.bin .eql) [(.t 12), (.k (.c (.int .i64 1)))]
    (.op (some 13) .mov [(.t 14)]
    .nil)))
  (.cond (.t 13)
  (.seq (.reg 4 false (.op (some 15) .mov [(.t 1)]
    (.op (some 16) .mov [(.t 2)]
    (.op (some 17) (.bin .add) [(.t 15), (.t 16)]
    (.op (some 6) .mov [(.t 17)]
    (.op (some 7) .mov [(.k (.c (.bool true)))]
    .nil))))))
  .ret)
  (.seq (.reg 5 false (.op (some 19) (.bin .eql) [(.t 12), (.k (.c (.int .i64 2)))]
    (.op (some 18) .mov [(.t 19)]
    .nil)))
  (.cond (.t 18)
  (.seq (.reg 6 false (.op (some 20) .mov [(.t 1)]
    (.op (some 21) .mov [(.t 2)]
    (.op (some 22) (.bin .sub) [(.t 20), (.t 21)]
    (.op (some 6) .mov [(.t 22)]
    (.op (some 7) .mov [(.k (.c (.bool true)))]
    .nil))))))
  .ret)
  (.seq (.reg 7 false (.op (some 24) (.bin .eql) [(.t 12), (.k (.c (.int .i64 3)))]
    (.op (some 23) .mov [(.t 24)]
    .nil)))
  (.cond (.t 23)
  (.seq (.reg 8 false (.op (some 25) .mov [(.t 1)]
    (.op (some 26) .mov [(.t 2)]
    (.op (some 27) (.bin .mul) [(.t 25), (.t 26)]
    (.op (some 6) .mov [(.t 27)]
    (.op (some 7) .mov [(.k (.c (.bool true)))]
    .nil))))))
  .ret)
  (.seq (.reg 9 false (.op (some 29) (.bin .eql) [(.t 12), (.k (.c (.int .i64 4)))]
    (.op (some 28) .mov [(.t 29)]
    .nil)))
  (.cond (.t 28)
  (.seq (.reg 10 false (.op (some 30) .mov [(.t 1)]
    (.op (some 31) .mov [(.t 2)]
    (.op (some 32) (.bin .and) [(.t 30), (.t 31)]
    (.op (some 6) .mov [(.t 32)]
    (.op (some 7) .mov [(.k (.c (.bool true)))]
    .nil))))))
  .ret)
  (.seq (.reg 11 false (.op (some 34) (.bin .eql) [(.t 12), (.k (.c (.int .i64 5)))]
    (.op (some 33) .mov [(.t 34)]
    .nil)))
  (.cond (.t 33)
  (.seq (.reg 12 false (.op (some 35) .mov [(.t 1)]
    (.op (some 36) .mov [(.t 2)]
    (.op (some 37) (.bin .or) [(.t 35), (.t 36)]
    (.op (some 6) .mov [(.t 37)]
    (.op (some 7) .mov [(.k (.c (.bool true)))]
    .nil))))))
  .ret)
  (.seq (.reg 13 false (.op (some 39) (.bin .eql) [(.t 12), (.k (.c (.int .i64 6)))]
    (.op (some 38) .mov [(.t 39)]
    .nil)))
  (.cond (.t 38)
  (.seq (.reg 14 false (.op (some 40) .mov [(.t 1)]
    (.op (some 41) .mov [(.t 2)]
    (.op (some 42) (.bin .xor) [(.t 40), (.t 41)]
    (.op (some 6) .mov [(.t 42)]
    (.op (some 7) .mov [(.k (.c (.bool true)))]
    .nil))))))
  .ret)
  (.seq (.reg 15 false (.op (some 44) (.bin .eql) [(.t 12), (.k (.c (.int .i64 7)))]
    (.op (some 43) .mov [(.t 44)]
    .nil)))
  (.cond (.t 43)
  (.seq (.reg 16 false (.op (some 45) .mov [(.t 1)]
    (.op (some 46) .mov [(.t 8)]
    (.op (some 47) (.bin .shl) [(.t 45), (.t 46)]
    (.op (some 6) .mov [(.t 47)]
    (.op (some 7) .mov [(.k (.c (.bool true)))]
    .nil))))))
  .ret)
  (.seq (.reg 17 false (.op (some 49) (.bin .eql) [(.t 12), (.k (.c (.int .i64 8)))]
    (.op (some 48) .mov [(.t 49)]
    .nil)))
  (.cond (.t 48)
  (.seq (.reg 18 false (.op (some 50) .mov [(.t 1)]
    (.op (some 51) .mov [(.t 8)]
    (.op (some 52) (.bin .shr) [(.t 50), (.t 51)]
    (.op (some 6) .mov [(.t 52)]
    (.op (some 7) .mov [(.k (.c (.bool true)))]
    .nil))))))
  .ret)
  (.seq (.reg 19 false (.op (some 54) (.bin .eql) [(.t 12), (.k (.c (.int .i64 9)))]
    (.op (some 53) .mov [(.t 54)]
    .nil)))
  (.cond (.t 53)
  (.seq (.reg 20 false (.op (some 55) .mov [(.t 1)]
    (.op (some 56) .mov [(.t 2)]
    (.op (some 57) (.bin .eql) [(.t 55), (.t 56)]
    (.op (some 58) (.call 139 [(.i .i64)]) [(.t 57)]
    (.op (some 6) .mov [(.t 58)]
    (.op (some 7) .mov [(.k (.c (.bool true)))]
    .nil)))))))
  .ret)
  (.seq (.reg 21 false (.op (some 60) (.bin .eql) [(.t 12), (.k (.c (.int .i64 10)))]
    (.op (some 59) .mov [(.t 60)]
    .nil)))
  (.cond (.t 59)
  (.seq (.reg 22 false (.op (some 61) .mov [(.t 1)]
    (.op (some 62) .mov [(.t 2)]
    (.op (some 63) (.bin .neq) [(.t 61), (.t 62)]
    (.op (some 64) (.call 139 [(.i .i64)]) [(.t 63)]
    (.op (some 6) .mov [(.t 64)]
    (.op (some 7) .mov [(.k (.c (.bool true)))]
    .nil)))))))
  .ret)
  (.seq (.reg 23 false (.op (some 66) (.bin .eql) [(.t 12), (.k (.c (.int .i64 11)))]
    (.op (some 65) .mov [(.t 66)]
    .nil)))
  (.cond (.t 65)
  (.seq (.reg 24 false (.op (some 67) .mov [(.t 1)]
    (.op (some 68) .mov [(.t 2)]
    (.op (some 69) (.bin .lss) [(.t 67), (.t 68)]
    (.op (some 70) (.call 139 [(.i .i64)]) [(.t 69)]
    (.op (some 6) .mov [(.t 70)]
    (.op (some 7) .mov [(.k (.c (.bool true)))]
    .nil)))))))
  .ret)
  .skip))))))))))))))))))))))))
  (.seq (.reg 25 false (.op (some 6) .mov [(.k (.c (.int .i64 0)))]
    (.op (some 7) .mov [(.k (.c (.bool false)))]
    .nil)))
  .ret)))) }

/- jacquard/num.one: 139 -/
def num_one : Fn := { np := 1, nt := 4, ns := 0, res := [.t 2 (.i .i64)], gc := false, code :=
  (.seq (.reg 0 false (.op (some 2) .mov [(.k (.c (.int .i64 0)))]
    .nil))
  (.seq (.seq (.reg 1 false (.op (some 3) .mov [(.t 0)]
    .nil))
  (.cond (.t 3)
  (.seq (.reg 2 false (.op (some 2) .mov [(.k (.c (.int .i64 1)))]
    .nil))
  .ret)
  .skip))
  (.seq (.reg 3 false (.op (some 2) .mov [(.k (.c (.int .i64 0)))]
    .nil))
  .ret))) }


end Jq

/- What a function needs of an environment. -/
namespace Jq
open Go

structure num_one_In (E : Env) : Prop where
  fn : E.fn 139 = some num_one

structure num_Do_In (E : Env) : Prop where
  fn : E.fn 125 = some num_Do
  c139 : num_one_In E

end Jq

namespace Jq
open Go


end Jq

namespace Jq
open Go

/- slices.Equal(()jacquard/api.Ev,jacquard/api.Ev): 112 -/
def slices_Equal_sEv_Ev_b1 : IC :=
  (.seq (.reg 4 false (.op (some 14) (.bin .lss) [(.t 13), (.t 12)]
    .nil))
  (.seq (.cond (.t 14)
  .skip
  (.exit 0))
  (.seq (.blk 1 (.seq (.reg 5 false (.op (some 15) .mov [(.t 13)]
    (.op (some 5) .mov [(.t 15)]
    .nil)))
  (.seq (.reg 6 true (.op (some 16) .mov [(.t 0)]
    (.op (some 17) .mov [(.t 5)]
    (.op (some 18) (.idxS 6) [(.t 16), (.t 17)]
    (.op (some 19) (.ldN .heap 6) [(.t 18)]
    (.op (some 20) .mov [(.t 1)]
    (.op (some 21) .mov [(.t 5)]
    (.op (some 22) (.idxS 6) [(.t 20), (.t 21)]
    (.op (some 23) (.ldN .heap 6) [(.t 22)]
    (.op (some 24) (.eqA true ([Cell.int .i64 0, Cell.int .i64 0, Cell.int .i64 0, Cell.int .i64 0, Cell.int .i64 0, Cell.int .i64 0])) [(.t 19), (.t 23)]
    .nil))))))))))
  (.cond (.t 24)
  (.seq (.reg 7 false (.op (some 4) .mov [(.k (.c (.bool false)))]
    .nil))
  .ret)
  .skip))))
  (.reg 8 false (.op (some 25) (.bin .add) [(.t 13), (.k (.c (.int .i64 1)))]
    (.op (some 13) .mov [(.t 25)]
    .nil))))))
def slices_Equal_sEv_Ev_p1 : IC :=
  (.seq (.reg 9 false (.op (some 4) .mov [(.k (.c (.bool true)))]
    .nil))
  .ret)
def slices_Equal_sEv_Ev : Fn := { np := 2, nt := 26, ns := 0, res := [.t 4 .b], gc := false, code :=
  (.seq (.reg 0 false (.op (some 4) .mov [(.k (.c (.bool false)))]
    .nil))
  (.seq (.seq (.reg 1 false (.op (some 6) .mov [(.t 0)]
    (.op (some 7) .len [(.t 6)]
    (.op (some 8) .mov [(.t 1)]
    (.op (some 9) .len [(.t 8)]
    (.op (some 10) (.bin .neq) [(.t 7), (.t 9)]
    .nil))))))
  (.cond (.t 10)
  (.seq (.reg 2 false (.op (some 4) .mov [(.k (.c (.bool false)))]
    .nil))
  .ret)
  .skip))
  (.seq (.seq (.reg 3 false (.op (some 11) .mov [(.t 0)]
    (.op (some 12) .len [(.t 11)]
    (.op (some 13) .mov [(.k (.c (.int .i64 0)))]
    .nil))))
  (.blk 0 (.loop [0, 1, 12, 13] [] [(0, [4], []), (1, [], [])] slices_Equal_sEv_Ev_b1)))
  slices_Equal_sEv_Ev_p1))) }


end Jq

namespace Jq
open Go

/- math/bits.TrailingZeros64: 42 -/
def bits_TrailingZeros64 : Fn := { np := 1, nt := 14, ns := 0, res := [.t 2 (.i .i64)], gc := false, code :=
  (.seq (.reg 0 false (.op (some 2) .mov [(.k (.c (.int .i64 0)))]
    .nil))
  (.seq (.seq (.reg 1 false (.op (some 3) .mov [(.t 0)]
    (.op (some 4) (.bin .eql) [(.t 3), (.k (.c (.int .u64 0)))]
    .nil)))
  (.cond (.t 4)
  (.seq (.reg 2 false (.op (some 2) .mov [(.k (.c (.int .i64 64)))]
    .nil))
  .ret)
  .skip))
  (.seq (.reg 3 false (.op (some 5) .mov [(.t 0)]
    (.op (some 6) .mov [(.t 0)]
    (.op (some 7) (.un .neg) [(.t 6)]
    (.op (some 8) (.bin .and) [(.t 5), (.t 7)]
    (.op (some 9) (.bin .mul) [(.t 8), (.k (.c (.int .u64 285870213051353865)))]
    (.op (some 10) (.bin .shr) [(.t 9), (.k (.c (.int .u64 58)))]
    (.op (some 11) (.idxA 64 1) [(.k (.c (.gptr 1 0))), (.t 10)]
    (.op (some 12) (.ld .heap (.i .u8)) [(.t 11)]
    (.op (some 13) (.conv .i64) [(.t 12)]
    (.op (some 2) .mov [(.t 13)]
    .nil)))))))))))
  .ret))) }

/- math/bits.OnesCount64: 57 -/
def bits_OnesCount64 : Fn := { np := 1, nt := 35, ns := 0, res := [.t 2 (.i .i64)], gc := false, code :=
  (.seq (.reg 0 false (.op (some 2) .mov [(.k (.c (.int .i64 0)))]
    .nil))
  (.seq (.reg 1 false (.op (some 3) .mov [(.t 0)]
    (.op (some 4) (.bin .shr) [(.t 3), (.k (.c (.int .u64 1)))]
    (.op (some 5) (.bin .and) [(.t 4), (.k (.c (.int .u64 6148914691236517205)))]
    (.op (some 6) .mov [(.t 0)]
    (.op (some 7) (.bin .and) [(.t 6), (.k (.c (.int .u64 6148914691236517205)))]
    (.op (some 8) (.bin .add) [(.t 5), (.t 7)]
    (.op (some 0) .mov [(.t 8)]
    .nil))))))))
  (.seq (.reg 2 false (.op (some 9) .mov [(.t 0)]
    (.op (some 10) (.bin .shr) [(.t 9), (.k (.c (.int .u64 2)))]
    (.op (some 11) (.bin .and) [(.t 10), (.k (.c (.int .u64 3689348814741910323)))]
    (.op (some 12) .mov [(.t 0)]
    (.op (some 13) (.bin .and) [(.t 12), (.k (.c (.int .u64 3689348814741910323)))]
    (.op (some 14) (.bin .add) [(.t 11), (.t 13)]
    (.op (some 0) .mov [(.t 14)]
    .nil))))))))
  (.seq (.reg 3 false (.op (some 15) .mov [(.t 0)]
    (.op (some 16) (.bin .shr) [(.t 15), (.k (.c (.int .u64 4)))]
    (.op (some 17) .mov [(.t 0)]
    (.op (some 18) (.bin .add) [(.t 16), (.t 17)]
    (.op (some 19) (.bin .and) [(.t 18), (.k (.c (.int .u64 1085102592571150095)))]
    (.op (some 0) .mov [(.t 19)]
    .nil)))))))
  (.seq (.reg 4 false (.op (some 20) .mov [(.t 0)]
    (.op (some 21) .mov [(.t 0)]
    (.op (some 22) (.bin .shr) [(.t 21), (.k (.c (.int .u64 8)))]
    (.op (some 23) (.bin .add) [(.t 20), (.t 22)]
    (.op (some 0) .mov [(.t 23)]
    .nil))))))
  (.seq (.reg 5 false (.op (some 24) .mov [(.t 0)]
    (.op (some 25) .mov [(.t 0)]
    (.op (some 26) (.bin .shr) [(.t 25), (.k (.c (.int .u64 16)))]
    (.op (some 27) (.bin .add) [(.t 24), (.t 26)]
    (.op (some 0) .mov [(.t 27)]
    .nil))))))
  (.seq (.reg 6 false (.op (some 28) .mov [(.t 0)]
    (.op (some 29) .mov [(.t 0)]
    (.op (some 30) (.bin .shr) [(.t 29), (.k (.c (.int .u64 32)))]
    (.op (some 31) (.bin .add) [(.t 28), (.t 30)]
    (.op (some 0) .mov [(.t 31)]
    .nil))))))
  (.seq (.reg 7 false (.op (some 32) .mov [(.t 0)]
    (.op (some 33) (.conv .i64) [(.t 32)]
    (.op (some 34) (.bin .and) [(.t 33), (.k (.c (.int .i64 127)))]
    (.op (some 2) .mov [(.t 34)]
    .nil)))))
  .ret)))))))) }


end Jq

/- What a function needs of an environment. -/
namespace Jq
open Go

structure bits_TrailingZeros64_In (E : Env) : Prop where
  fn : E.fn 42 = some bits_TrailingZeros64

structure bits_OnesCount64_In (E : Env) : Prop where
  fn : E.fn 57 = some bits_OnesCount64

end Jq

namespace Jq
open Go


end Jq

/- What a function needs of an environment. -/
namespace Jq
open Go


end Jq

/- What a function needs of an environment. -/
namespace Jq
open Go

structure slices_Equal_sEv_Ev_In (E : Env) : Prop where
  fn : E.fn 112 = some slices_Equal_sEv_Ev

end Jq

/- What a function needs of an environment. -/
namespace Jq
open Go


end Jq

namespace Jq
open Go


end Jq

/- What a function needs of an environment. -/
namespace Jq
open Go


end Jq

/- What a function needs of an environment. -/
namespace Jq
open Go

structure prog_thread_In (E : Env) : Prop where
  fn : E.fn 113 = some prog_thread

structure prog_Value_In (E : Env) : Prop where
  fn : E.fn 108 = some prog_Value

structure prog_set_In (E : Env) : Prop where
  fn : E.fn 124 = some prog_set

structure prog_normal_In (E : Env) : Prop where
  fn : E.fn 114 = some prog_normal
  c108 : prog_Value_In E
  c124 : prog_set_In E
  c125 : num_Do_In E

structure prog_Start_In (E : Env) : Prop where
  fn : E.fn 94 = some prog_Start
  c113 : prog_thread_In E
  c114 : prog_normal_In E

structure prog_Next_In (E : Env) : Prop where
  fn : E.fn 105 = some prog_Next
  c113 : prog_thread_In E

structure prog_After_In (E : Env) : Prop where
  fn : E.fn 106 = some prog_After
  c105 : prog_Next_In E
  c113 : prog_thread_In E
  c114 : prog_normal_In E
  c124 : prog_set_In E

end Jq

namespace Jq
open Go

/- (jacquard/rel.Rel).Has: 3 -/
def rel_Rel_Has : Fn := { np := 3, nt := 18, ns := 1, res := [.t 6 .b], gc := false, code :=
  (.seq (.reg 0 false (.box 3 0 (.t 0)
    (.op (some 6) .mov [(.k (.c (.bool false)))]
    .nil)))
  (.seq (.reg 1 false (.op (some 7) (.ldAll (.slot 0) 65) [(.t 3)]
    (.op (some 8) .mov [(.t 1)]
    (.op (some 9) (.call 16 [.b]) [(.t 7), (.t 8)]
    (.op (some 10) .mov [(.t 9)]
    (.sc 10 true (.op (some 11) .mov [(.t 1)]
    (.op (some 12) (.addr 1) [(.t 3)]
    (.op (some 13) (.idxA 64 1) [(.t 12), (.t 11)]
    (.op (some 14) (.ld (.slot 0) (.i .u64)) [(.t 13)]
    (.op (some 15) .mov [(.t 2)]
    (.op (some 16) (.call 17 [.b]) [(.t 14), (.t 15)]
    .nil)))))) 16 17 false
    (.op (some 6) .mov [(.t 17)]
    .nil)))))))
  .ret)) }

/- jacquard/rel.New: 9 -/
def rel_New : Fn := { np := 1, nt := 7, ns := 1, res := [.all (.slot 0) 2 65], gc := false, code :=
  (.seq (.reg 0 false (.al 2 0 ([Cell.int .i64 0] ++ List.replicate 64 (Cell.int .u64 0))
    .nil))
  (.seq (.reg 1 false (.op (some 3) .mov [(.t 0)]
    (.op (some 4) .mx [(.t 3), (.k (.c (.int .i64 0)))]
    (.op (some 5) .mn [(.t 4), (.k (.c (.int .i64 64)))]
    (.op (some 6) (.build ([Cell.int .i64 0] ++ List.replicate 64 (Cell.int .u64 0)) [(0, 1)]) [(.t 5)]
    (.op none (.stAll (.slot 0) 65) [(.t 2), (.t 6)]
    .nil))))))
  .ret)) }

/- (jacquard/rel.Rel).Add: 10 -/
def rel_Rel_Add : Fn := { np := 3, nt := 25, ns := 2, res := [.all (.slot 1) 6 65], gc := false, code :=
  (.seq (.reg 0 false (.box 3 0 (.t 0)
    (.al 6 1 ([Cell.int .i64 0] ++ List.replicate 64 (Cell.int .u64 0))
    .nil)))
  (.seq (.seq (.reg 1 false (.op (some 7) (.ldAll (.slot 0) 65) [(.t 3)]
    (.op (some 8) .mov [(.t 1)]
    (.op (some 9) (.call 16 [.b]) [(.t 7), (.t 8)]
    (.op (some 10) .mov [(.t 9)]
    (.sc 10 true (.op (some 11) (.ldAll (.slot 0) 65) [(.t 3)]
    (.op (some 12) .mov [(.t 2)]
    (.op (some 13) (.call 16 [.b]) [(.t 11), (.t 12)]
    .nil))) 13 14 false
    .nil))))))
  (.cond (.t 14)
  (.reg 2 false (.op (some 15) .mov [(.t 1)]
    (.op (some 16) .mov [(.t 1)]
    (.op (some 17) (.addr 1) [(.t 3)]
    (.op (some 18) (.idxA 64 1) [(.t 17), (.t 16)]
    (.op (some 19) (.ld (.slot 0) (.i .u64)) [(.t 18)]
    (.op (some 20) .mov [(.t 2)]
    (.op (some 21) (.call 18 [(.i .u64)]) [(.t 19), (.t 20)]
    (.op (some 22) (.addr 1) [(.t 3)]
    (.op (some 23) (.idxA 64 1) [(.t 22), (.t 15)]
    (.op none (.st (.slot 0)) [(.t 23), (.t 21)]
    .nil)))))))))))
  .skip))
  (.seq (.reg 3 false (.op (some 24) (.ldAll (.slot 0) 65) [(.t 3)]
    (.op none (.stAll (.slot 1) 65) [(.t 6), (.t 24)]
    .nil)))
  .ret))) }

/- (jacquard/rel.Rel).Closure: 12 -/
def rel_Rel_Closure_b1 : IC :=
  (.seq (.reg 5 false (.op (some 13) (.bin .lss) [(.t 12), (.t 11)]
    .nil))
  (.seq (.cond (.t 13)
  .skip
  (.exit 2))
  (.seq (.blk 3 (.seq (.reg 6 false (.op (some 14) .mov [(.t 12)]
    (.op (some 4) .mov [(.t 14)]
    .nil)))
  (.seq (.reg 7 false (.op (some 15) .mov [(.t 4)]
    (.op (some 16) (.addr 1) [(.t 1)]
    (.op (some 17) (.idxA 64 1) [(.t 16), (.t 15)]
    (.op (some 18) (.ld (.slot 0) (.i .u64)) [(.t 17)]
    (.op (some 19) .mov [(.t 3)]
    (.op (some 20) (.call 17 [.b]) [(.t 18), (.t 19)]
    .nil)))))))
  (.cond (.t 20)
  (.reg 8 true (.op (some 21) .mov [(.t 4)]
    (.op (some 22) (.addr 1) [(.t 1)]
    (.op (some 23) (.idxA 64 1) [(.t 22), (.t 21)]
    (.op (some 24) (.ld (.slot 0) (.i .u64)) [(.t 23)]
    (.op (some 25) .mov [(.t 3)]
    (.op (some 26) (.addr 1) [(.t 1)]
    (.op (some 27) (.idxA 64 1) [(.t 26), (.t 25)]
    (.op (some 28) (.ld (.slot 0) (.i .u64)) [(.t 27)]
    (.op (some 29) (.bin .or) [(.t 24), (.t 28)]
    (.op (some 30) (.addr 1) [(.t 1)]
    (.op (some 31) (.idxA 64 1) [(.t 30), (.t 21)]
    (.op none (.st (.slot 0)) [(.t 31), (.t 29)]
    .nil)))))))))))))
  .skip))))
  (.reg 9 false (.op (some 32) (.bin .add) [(.t 12), (.k (.c (.int .i64 1)))]
    (.op (some 12) .mov [(.t 32)]
    .nil))))))
def rel_Rel_Closure_p2 : IC :=
  (.reg 10 false (.op (some 33) (.bin .add) [(.t 7), (.k (.c (.int .i64 1)))]
    (.op (some 7) .mov [(.t 33)]
    .nil)))
def rel_Rel_Closure_b2 : IC :=
  (.seq (.reg 2 false (.op (some 8) (.bin .lss) [(.t 7), (.t 6)]
    .nil))
  (.seq (.cond (.t 8)
  .skip
  (.exit 0))
  (.seq (.blk 1 (.seq (.reg 3 false (.op (some 9) .mov [(.t 7)]
    (.op (some 3) .mov [(.t 9)]
    .nil)))
  (.seq (.reg 4 false (.op (some 10) (.addr 0) [(.t 1)]
    (.op (some 11) (.ld (.slot 0) (.i .i64)) [(.t 10)]
    (.op (some 12) .mov [(.k (.c (.int .i64 0)))]
    .nil))))
  (.blk 2 (.loop [1, 2, 3, 6, 7, 11, 12] [0, 1] [(3, [1, 2, 6, 7], [0, 1])] rel_Rel_Closure_b1)))))
  rel_Rel_Closure_p2)))
def rel_Rel_Closure_p1 : IC :=
  (.seq (.reg 11 false (.op (some 34) (.ldAll (.slot 0) 65) [(.t 1)]
    (.op none (.stAll (.slot 1) 65) [(.t 2), (.t 34)]
    .nil)))
  .ret)
def rel_Rel_Closure : Fn := { np := 1, nt := 35, ns := 2, res := [.all (.slot 1) 2 65], gc := false, code :=
  (.seq (.reg 0 false (.box 1 0 (.t 0)
    (.al 2 1 ([Cell.int .i64 0] ++ List.replicate 64 (Cell.int .u64 0))
    .nil)))
  (.seq (.seq (.reg 1 false (.op (some 5) (.addr 0) [(.t 1)]
    (.op (some 6) (.ld (.slot 0) (.i .i64)) [(.t 5)]
    (.op (some 7) .mov [(.k (.c (.int .i64 0)))]
    .nil))))
  (.blk 0 (.loop [1, 2, 6, 7] [0, 1] [(1, [1, 2], [0, 1])] rel_Rel_Closure_b2)))
  rel_Rel_Closure_p1)) }

/- (jacquard/rel.Rel).N: 14 -/
def rel_Rel_N : Fn := { np := 1, nt := 5, ns := 1, res := [.t 2 (.i .i64)], gc := false, code :=
  (.seq (.reg 0 false (.box 1 0 (.t 0)
    (.op (some 2) .mov [(.k (.c (.int .i64 0)))]
    .nil)))
  (.seq (.reg 1 false (.op (some 3) (.addr 0) [(.t 1)]
    (.op (some 4) (.ld (.slot 0) (.i .i64)) [(.t 3)]
    (.op (some 2) .mov [(.t 4)]
    .nil))))
  .ret)) }

/- (jacquard/rel.Rel).in: 16 -/
def rel_Rel_in : Fn := { np := 2, nt := 13, ns := 1, res := [.t 4 .b], gc := false, code :=
  (.seq (.reg 0 false (.box 2 0 (.t 0)
    (.op (some 4) .mov [(.k (.c (.bool false)))]
    .nil)))
  (.seq (.reg 1 false (.op (some 5) .mov [(.t 1)]
    (.op (some 6) (.bin .geq) [(.t 5), (.k (.c (.int .i64 0)))]
    (.op (some 7) .mov [(.t 6)]
    (.sc 7 true (.op (some 8) .mov [(.t 1)]
    (.op (some 9) (.addr 0) [(.t 2)]
    (.op (some 10) (.ld (.slot 0) (.i .i64)) [(.t 9)]
    (.op (some 11) (.bin .lss) [(.t 8), (.t 10)]
    .nil)))) 11 12 false
    (.op (some 4) .mov [(.t 12)]
    .nil))))))
  .ret)) }

/- (jacquard/rel.Rel).Pairs: 20 -/
def rel_Rel_Pairs_b1 : IC :=
  (.seq (.reg 6 false (.op (some 19) (.bin .lss) [(.t 18), (.t 17)]
    .nil))
  (.seq (.cond (.t 19)
  .skip
  (.exit 2))
  (.seq (.blk 3 (.seq (.reg 7 false (.op (some 20) (.idxS 1) [(.t 16), (.t 18)]
    (.op (some 21) (.ld .heap (.i .i64)) [(.t 20)]
    (.op (some 6) .mov [(.t 21)]
    .nil))))
  (.reg 8 false (.op (some 22) .mov [(.t 3)]
    (.op (some 23) .mov [(.t 4)]
    (.op (some 24) .mov [(.t 6)]
    (.op (some 25) (.build ([Cell.int .i64 0, Cell.int .i64 0]) [(0, 1), (1, 1)]) [(.t 23), (.t 24)]
    (.op (some 26) (.lit 2 1 ([Cell.int .i64 0, Cell.int .i64 0]) [(0, 2)]) [(.t 25)]
    (.op (some 27) (.app 2 16) [(.t 22), (.t 26)]
    (.op (some 3) .mov [(.t 27)]
    .nil))))))))))
  (.reg 9 false (.op (some 28) (.bin .add) [(.t 18), (.k (.c (.int .i64 1)))]
    (.op (some 18) .mov [(.t 28)]
    .nil))))))
def rel_Rel_Pairs_p2 : IC :=
  (.reg 10 false (.op (some 29) (.bin .add) [(.t 9), (.k (.c (.int .i64 1)))]
    (.op (some 9) .mov [(.t 29)]
    .nil)))
def rel_Rel_Pairs_b2 : IC :=
  (.seq (.reg 3 false (.op (some 10) (.bin .lss) [(.t 9), (.t 8)]
    .nil))
  (.seq (.cond (.t 10)
  .skip
  (.exit 0))
  (.seq (.blk 1 (.seq (.reg 4 false (.op (some 11) .mov [(.t 9)]
    (.op (some 4) .mov [(.t 11)]
    .nil)))
  (.seq (.reg 5 false (.op (some 12) .mov [(.t 4)]
    (.op (some 13) (.addr 1) [(.t 1)]
    (.op (some 14) (.idxA 64 1) [(.t 13), (.t 12)]
    (.op (some 15) (.ld (.slot 0) (.i .u64)) [(.t 14)]
    (.op (some 16) (.call 32 [.any]) [(.t 15)]
    (.op (some 17) .len [(.t 16)]
    (.op (some 18) .mov [(.k (.c (.int .i64 0)))]
    .nil))))))))
  (.blk 2 (.loop [1, 3, 4, 8, 9, 16, 17, 18] [0] [(3, [1, 3, 8, 9], [0])] rel_Rel_Pairs_b1)))))
  rel_Rel_Pairs_p2)))
def rel_Rel_Pairs_p1 : IC :=
  (.seq (.reg 11 false (.op (some 30) .mov [(.t 3)]
    (.op (some 2) .mov [(.t 30)]
    .nil)))
  .ret)
def rel_Rel_Pairs : Fn := { np := 1, nt := 31, ns := 1, res := [.t 2 .any], gc := false, code :=
  (.seq (.reg 0 false (.box 1 0 (.t 0)
    (.op (some 2) .mov [(.k (.c .nils))]
    .nil)))
  (.seq (.reg 1 false (.op (some 3) .mov [(.k (.c .nils))]
    .nil))
  (.seq (.seq (.reg 2 false (.op (some 7) (.addr 0) [(.t 1)]
    (.op (some 8) (.ld (.slot 0) (.i .i64)) [(.t 7)]
    (.op (some 9) .mov [(.k (.c (.int .i64 0)))]
    .nil))))
  (.blk 0 (.loop [1, 3, 8, 9] [0] [(1, [3], [])] rel_Rel_Pairs_b2)))
  rel_Rel_Pairs_p1))) }

/- (jacquard/rel.Rel).Acyclic: 26 -/
def rel_Rel_Acyclic_b1 : IC :=
  (.seq (.reg 3 false (.op (some 10) (.bin .lss) [(.t 9), (.t 8)]
    .nil))
  (.seq (.cond (.t 10)
  .skip
  (.exit 0))
  (.seq (.blk 1 (.seq (.reg 4 false (.op (some 11) .mov [(.t 9)]
    (.op (some 4) .mov [(.t 11)]
    .nil)))
  (.seq (.reg 5 false (.op (some 12) .mov [(.t 4)]
    (.op (some 13) (.addr 1) [(.t 3)]
    (.op (some 14) (.idxA 64 1) [(.t 13), (.t 12)]
    (.op (some 15) (.ld (.slot 1) (.i .u64)) [(.t 14)]
    (.op (some 16) .mov [(.t 4)]
    (.op (some 17) (.call 17 [.b]) [(.t 15), (.t 16)]
    .nil)))))))
  (.cond (.t 17)
  (.seq (.reg 6 false (.op (some 2) .mov [(.k (.c (.bool false)))]
    .nil))
  .ret)
  .skip))))
  (.reg 7 false (.op (some 18) (.bin .add) [(.t 9), (.k (.c (.int .i64 1)))]
    (.op (some 9) .mov [(.t 18)]
    .nil))))))
def rel_Rel_Acyclic_p1 : IC :=
  (.seq (.reg 8 false (.op (some 2) .mov [(.k (.c (.bool true)))]
    .nil))
  .ret)
def rel_Rel_Acyclic : Fn := { np := 1, nt := 19, ns := 2, res := [.t 2 .b], gc := false, code :=
  (.seq (.reg 0 false (.box 1 0 (.t 0)
    (.op (some 2) .mov [(.k (.c (.bool false)))]
    .nil)))
  (.seq (.reg 1 false (.op (some 5) (.ldAll (.slot 0) 65) [(.t 1)]
    (.op (some 6) (.call 12 [.agg]) [(.t 5)]
    (.al 3 1 ([Cell.int .i64 0] ++ List.replicate 64 (Cell.int .u64 0))
    (.op none (.stAll (.slot 1) 65) [(.t 3), (.t 6)]
    .nil)))))
  (.seq (.seq (.reg 2 false (.op (some 7) (.addr 0) [(.t 3)]
    (.op (some 8) (.ld (.slot 1) (.i .i64)) [(.t 7)]
    (.op (some 9) .mov [(.k (.c (.int .i64 0)))]
    .nil))))
  (.blk 0 (.loop [3, 8, 9] [1] [(0, [2], []), (1, [], [])] rel_Rel_Acyclic_b1)))
  rel_Rel_Acyclic_p1))) }

/- (jacquard/rel.Rel).Inverse: 40 -/
def rel_Rel_Inverse_b1 : IC :=
  (.seq (.seq (.reg 6 false (.op (some 18) .mov [(.t 5)]
    (.op (some 19) (.bin .neq) [(.t 18), (.k (.c (.int .u64 0)))]
    .nil)))
  (.cond (.t 19)
  .skip
  (.exit 2)))
  (.seq (.blk 3 (.reg 8 false (.op (some 24) .mov [(.t 5)]
    (.op (some 25) (.call 38 [(.i .i64)]) [(.t 24)]
    (.op (some 26) .mov [(.t 5)]
    (.op (some 27) (.call 38 [(.i .i64)]) [(.t 26)]
    (.op (some 28) (.addr 1) [(.t 3)]
    (.op (some 29) (.idxA 64 1) [(.t 28), (.t 27)]
    (.op (some 30) (.ld (.slot 2) (.i .u64)) [(.t 29)]
    (.op (some 31) .mov [(.t 4)]
    (.op (some 32) (.call 18 [(.i .u64)]) [(.t 30), (.t 31)]
    (.op (some 33) (.addr 1) [(.t 3)]
    (.op (some 34) (.idxA 64 1) [(.t 33), (.t 25)]
    (.op none (.st (.slot 2)) [(.t 34), (.t 32)]
    .nil))))))))))))))
  (.reg 7 false (.op (some 20) .mov [(.t 5)]
    (.op (some 21) .mov [(.t 5)]
    (.op (some 22) (.bin .sub) [(.t 21), (.k (.c (.int .u64 1)))]
    (.op (some 23) (.bin .and) [(.t 20), (.t 22)]
    (.op (some 5) .mov [(.t 23)]
    .nil))))))))
def rel_Rel_Inverse_p2 : IC :=
  (.reg 9 false (.op (some 35) (.bin .add) [(.t 11), (.k (.c (.int .i64 1)))]
    (.op (some 11) .mov [(.t 35)]
    .nil)))
def rel_Rel_Inverse_b2 : IC :=
  (.seq (.reg 3 false (.op (some 12) (.bin .lss) [(.t 11), (.t 10)]
    .nil))
  (.seq (.cond (.t 12)
  .skip
  (.exit 0))
  (.seq (.blk 1 (.seq (.reg 4 false (.op (some 13) .mov [(.t 11)]
    (.op (some 4) .mov [(.t 13)]
    .nil)))
  (.seq (.reg 5 false (.op (some 14) .mov [(.t 4)]
    (.op (some 15) (.addr 1) [(.t 1)]
    (.op (some 16) (.idxA 64 1) [(.t 15), (.t 14)]
    (.op (some 17) (.ld (.slot 0) (.i .u64)) [(.t 16)]
    (.op (some 5) .mov [(.t 17)]
    .nil))))))
  (.blk 2 (.loop [1, 2, 3, 4, 5, 10, 11] [0, 1, 2] [(3, [1, 2, 3, 10, 11], [0, 1, 2])] rel_Rel_Inverse_b1)))))
  rel_Rel_Inverse_p2)))
def rel_Rel_Inverse_p1 : IC :=
  (.seq (.reg 10 false (.op (some 36) (.ldAll (.slot 2) 65) [(.t 3)]
    (.op none (.stAll (.slot 1) 65) [(.t 2), (.t 36)]
    .nil)))
  .ret)
def rel_Rel_Inverse : Fn := { np := 1, nt := 37, ns := 3, res := [.all (.slot 1) 2 65], gc := false, code :=
  (.seq (.reg 0 false (.box 1 0 (.t 0)
    (.al 2 1 ([Cell.int .i64 0] ++ List.replicate 64 (Cell.int .u64 0))
    .nil)))
  (.seq (.reg 1 false (.op (some 6) (.addr 0) [(.t 1)]
    (.op (some 7) (.ld (.slot 0) (.i .i64)) [(.t 6)]
    (.op (some 8) (.call 9 [.agg]) [(.t 7)]
    (.al 3 2 ([Cell.int .i64 0] ++ List.replicate 64 (Cell.int .u64 0))
    (.op none (.stAll (.slot 2) 65) [(.t 3), (.t 8)]
    .nil))))))
  (.seq (.seq (.reg 2 false (.op (some 9) (.addr 0) [(.t 1)]
    (.op (some 10) (.ld (.slot 0) (.i .i64)) [(.t 9)]
    (.op (some 11) .mov [(.k (.c (.int .i64 0)))]
    .nil))))
  (.blk 0 (.loop [1, 2, 3, 10, 11] [0, 1, 2] [(1, [2, 3], [1, 2])] rel_Rel_Inverse_b2)))
  rel_Rel_Inverse_p1))) }

/- (jacquard/rel.Rel).Row: 41 -/
def rel_Rel_Row : Fn := { np := 2, nt := 13, ns := 1, res := [.t 4 (.i .u64)], gc := false, code :=
  (.seq (.reg 0 false (.box 2 0 (.t 0)
    (.op (some 4) .mov [(.k (.c (.int .u64 0)))]
    .nil)))
  (.seq (.seq (.reg 1 false (.op (some 5) (.ldAll (.slot 0) 65) [(.t 2)]
    (.op (some 6) .mov [(.t 1)]
    (.op (some 7) (.call 16 [.b]) [(.t 5), (.t 6)]
    (.op (some 8) (.un .not) [(.t 7)]
    .nil)))))
  (.cond (.t 8)
  (.seq (.reg 2 false (.op (some 4) .mov [(.k (.c (.int .u64 0)))]
    .nil))
  .ret)
  .skip))
  (.seq (.reg 3 false (.op (some 9) .mov [(.t 1)]
    (.op (some 10) (.addr 1) [(.t 2)]
    (.op (some 11) (.idxA 64 1) [(.t 10), (.t 9)]
    (.op (some 12) (.ld (.slot 0) (.i .u64)) [(.t 11)]
    (.op (some 4) .mov [(.t 12)]
    .nil))))))
  .ret))) }

/- (jacquard/rel.Rel).Then: 58 -/
def rel_Rel_Then_b1 : IC :=
  (.seq (.seq (.reg 7 false (.op (some 29) .mov [(.t 8)]
    (.op (some 30) (.bin .neq) [(.t 29), (.k (.c (.int .u64 0)))]
    .nil)))
  (.cond (.t 30)
  .skip
  (.exit 2)))
  (.seq (.blk 3 (.reg 9 true (.op (some 35) .mov [(.t 7)]
    (.op (some 36) (.addr 1) [(.t 5)]
    (.op (some 37) (.idxA 64 1) [(.t 36), (.t 35)]
    (.op (some 38) (.ld (.slot 3) (.i .u64)) [(.t 37)]
    (.op (some 39) .mov [(.t 8)]
    (.op (some 40) (.qcall 38 [(.i .i64)]) [(.t 39)]
    (.op (some 41) (.addr 1) [(.t 3)]
    (.op (some 42) (.idxA 64 1) [(.t 41), (.t 40)]
    (.op (some 43) (.ld (.slot 1) (.i .u64)) [(.t 42)]
    (.op (some 44) .mov [(.t 6)]
    (.op (some 45) (.bin .and) [(.t 43), (.t 44)]
    (.op (some 46) (.bin .or) [(.t 38), (.t 45)]
    (.op (some 47) (.addr 1) [(.t 5)]
    (.op (some 48) (.idxA 64 1) [(.t 47), (.t 35)]
    (.op none (.st (.slot 3)) [(.t 48), (.t 46)]
    .nil)))))))))))))))))
  (.reg 8 false (.op (some 31) .mov [(.t 8)]
    (.op (some 32) .mov [(.t 8)]
    (.op (some 33) (.bin .sub) [(.t 32), (.k (.c (.int .u64 1)))]
    (.op (some 34) (.bin .and) [(.t 31), (.t 33)]
    (.op (some 8) .mov [(.t 34)]
    .nil))))))))
def rel_Rel_Then_p2 : IC :=
  (.reg 10 false (.op (some 49) (.bin .add) [(.t 20), (.k (.c (.int .i64 1)))]
    (.op (some 20) .mov [(.t 49)]
    .nil)))
def rel_Rel_Then_b2 : IC :=
  (.seq (.reg 4 false (.op (some 21) (.bin .lss) [(.t 20), (.t 19)]
    .nil))
  (.seq (.cond (.t 21)
  .skip
  (.exit 0))
  (.seq (.blk 1 (.seq (.reg 5 false (.op (some 22) .mov [(.t 20)]
    (.op (some 7) .mov [(.t 22)]
    .nil)))
  (.seq (.reg 6 false (.op (some 23) .mov [(.t 7)]
    (.op (some 24) (.addr 1) [(.t 2)]
    (.op (some 25) (.idxA 64 1) [(.t 24), (.t 23)]
    (.op (some 26) (.ld (.slot 0) (.i .u64)) [(.t 25)]
    (.op (some 27) .mov [(.t 6)]
    (.op (some 28) (.bin .and) [(.t 26), (.t 27)]
    (.op (some 8) .mov [(.t 28)]
    .nil))))))))
  (.blk 2 (.loop [2, 3, 4, 5, 6, 7, 8, 19, 20] [0, 1, 2, 3] [(3, [2, 3, 4, 5, 6, 19, 20], [0, 1, 2, 3])] rel_Rel_Then_b1)))))
  rel_Rel_Then_p2)))
def rel_Rel_Then_p1 : IC :=
  (.seq (.reg 11 false (.op (some 50) (.ldAll (.slot 3) 65) [(.t 5)]
    (.op none (.stAll (.slot 2) 65) [(.t 4), (.t 50)]
    .nil)))
  .ret)
def rel_Rel_Then : Fn := { np := 2, nt := 51, ns := 4, res := [.all (.slot 2) 4 65], gc := false, code :=
  (.seq (.reg 0 false (.box 2 0 (.t 0)
    (.box 3 1 (.t 1)
    (.al 4 2 ([Cell.int .i64 0] ++ List.replicate 64 (Cell.int .u64 0))
    .nil))))
  (.seq (.reg 1 false (.op (some 9) (.addr 0) [(.t 2)]
    (.op (some 10) (.ld (.slot 0) (.i .i64)) [(.t 9)]
    (.op (some 11) (.addr 0) [(.t 3)]
    (.op (some 12) (.ld (.slot 1) (.i .i64)) [(.t 11)]
    (.op (some 13) .mn [(.t 10), (.t 12)]
    (.op (some 14) (.call 9 [.agg]) [(.t 13)]
    (.al 5 3 ([Cell.int .i64 0] ++ List.replicate 64 (Cell.int .u64 0))
    (.op none (.stAll (.slot 3) 65) [(.t 5), (.t 14)]
    .nil)))))))))
  (.seq (.reg 2 false (.op (some 15) (.addr 0) [(.t 5)]
    (.op (some 16) (.ld (.slot 3) (.i .i64)) [(.t 15)]
    (.op (some 17) (.call 61 [(.i .u64)]) [(.t 16)]
    (.op (some 6) .mov [(.t 17)]
    .nil)))))
  (.seq (.seq (.reg 3 false (.op (some 18) (.addr 0) [(.t 5)]
    (.op (some 19) (.ld (.slot 3) (.i .i64)) [(.t 18)]
    (.op (some 20) .mov [(.k (.c (.int .i64 0)))]
    .nil))))
  (.blk 0 (.loop [2, 3, 4, 5, 6, 19, 20] [0, 1, 2, 3] [(1, [4, 5], [2, 3])] rel_Rel_Then_b2)))
  rel_Rel_Then_p1)))) }

/- (jacquard/rel.Rel).Union: 59 -/
def rel_Rel_Union : Fn := { np := 2, nt := 8, ns := 3, res := [.all (.slot 2) 4 65], gc := false, code :=
  (.seq (.reg 0 false (.box 2 0 (.t 0)
    (.box 3 1 (.t 1)
    (.al 4 2 ([Cell.int .i64 0] ++ List.replicate 64 (Cell.int .u64 0))
    .nil))))
  (.seq (.reg 1 false (.op (some 5) (.ldAll (.slot 0) 65) [(.t 2)]
    (.op (some 6) (.ldAll (.slot 1) 65) [(.t 3)]
    (.op (some 7) (.call 73 [.agg]) [(.t 5), (.t 6), (.k (.c (.fn 72 [])))]
    (.op none (.stAll (.slot 2) 65) [(.t 4), (.t 7)]
    .nil)))))
  .ret)) }

/- (jacquard/rel.Rel).Keep: 66 -/
def rel_Rel_Keep_b1 : IC :=
  (.seq (.reg 3 false (.op (some 13) (.bin .lss) [(.t 12), (.t 11)]
    .nil))
  (.seq (.cond (.t 13)
  .skip
  (.exit 0))
  (.seq (.blk 1 (.seq (.reg 4 false (.op (some 14) .mov [(.t 12)]
    (.op (some 6) .mov [(.t 14)]
    .nil)))
  (.seq (.reg 5 false (.op (some 15) .mov [(.t 1)]
    (.op (some 16) .mov [(.t 6)]
    (.op (some 17) (.call 17 [.b]) [(.t 15), (.t 16)]
    .nil))))
  (.cond (.t 17)
  (.reg 6 false (.op (some 18) .mov [(.t 6)]
    (.op (some 19) .mov [(.t 6)]
    (.op (some 20) (.addr 1) [(.t 2)]
    (.op (some 21) (.idxA 64 1) [(.t 20), (.t 19)]
    (.op (some 22) (.ld (.slot 0) (.i .u64)) [(.t 21)]
    (.op (some 23) .mov [(.t 1)]
    (.op (some 24) (.bin .and) [(.t 22), (.t 23)]
    (.op (some 25) (.addr 1) [(.t 5)]
    (.op (some 26) (.idxA 64 1) [(.t 25), (.t 18)]
    (.op none (.st (.slot 2)) [(.t 26), (.t 24)]
    .nil)))))))))))
  .skip))))
  (.reg 7 false (.op (some 27) (.bin .add) [(.t 12), (.k (.c (.int .i64 1)))]
    (.op (some 12) .mov [(.t 27)]
    .nil))))))
def rel_Rel_Keep_p1 : IC :=
  (.seq (.reg 8 false (.op (some 28) (.ldAll (.slot 2) 65) [(.t 5)]
    (.op none (.stAll (.slot 1) 65) [(.t 4), (.t 28)]
    .nil)))
  .ret)
def rel_Rel_Keep : Fn := { np := 2, nt := 29, ns := 3, res := [.all (.slot 1) 4 65], gc := false, code :=
  (.seq (.reg 0 false (.box 2 0 (.t 0)
    (.al 4 1 ([Cell.int .i64 0] ++ List.replicate 64 (Cell.int .u64 0))
    .nil)))
  (.seq (.reg 1 false (.op (some 7) (.addr 0) [(.t 2)]
    (.op (some 8) (.ld (.slot 0) (.i .i64)) [(.t 7)]
    (.op (some 9) (.call 9 [.agg]) [(.t 8)]
    (.al 5 2 ([Cell.int .i64 0] ++ List.replicate 64 (Cell.int .u64 0))
    (.op none (.stAll (.slot 2) 65) [(.t 5), (.t 9)]
    .nil))))))
  (.seq (.seq (.reg 2 false (.op (some 10) (.addr 0) [(.t 2)]
    (.op (some 11) (.ld (.slot 0) (.i .i64)) [(.t 10)]
    (.op (some 12) .mov [(.k (.c (.int .i64 0)))]
    .nil))))
  (.blk 0 (.loop [1, 2, 4, 5, 11, 12] [0, 1, 2] [(1, [4, 5], [1, 2])] rel_Rel_Keep_b1)))
  rel_Rel_Keep_p1))) }

/- (jacquard/rel.Rel).Meet: 67 -/
def rel_Rel_Meet : Fn := { np := 2, nt := 8, ns := 3, res := [.all (.slot 2) 4 65], gc := false, code :=
  (.seq (.reg 0 false (.box 2 0 (.t 0)
    (.box 3 1 (.t 1)
    (.al 4 2 ([Cell.int .i64 0] ++ List.replicate 64 (Cell.int .u64 0))
    .nil))))
  (.seq (.reg 1 false (.op (some 5) (.ldAll (.slot 0) 65) [(.t 2)]
    (.op (some 6) (.ldAll (.slot 1) 65) [(.t 3)]
    (.op (some 7) (.call 73 [.agg]) [(.t 5), (.t 6), (.k (.c (.fn 74 [])))]
    (.op none (.stAll (.slot 2) 65) [(.t 4), (.t 7)]
    .nil)))))
  .ret)) }

/- (jacquard/rel.Rel).Minus: 68 -/
def rel_Rel_Minus : Fn := { np := 2, nt := 8, ns := 3, res := [.all (.slot 2) 4 65], gc := false, code :=
  (.seq (.reg 0 false (.box 2 0 (.t 0)
    (.box 3 1 (.t 1)
    (.al 4 2 ([Cell.int .i64 0] ++ List.replicate 64 (Cell.int .u64 0))
    .nil))))
  (.seq (.reg 1 false (.op (some 5) (.ldAll (.slot 0) 65) [(.t 2)]
    (.op (some 6) (.ldAll (.slot 1) 65) [(.t 3)]
    (.op (some 7) (.call 73 [.agg]) [(.t 5), (.t 6), (.k (.c (.fn 75 [])))]
    (.op none (.stAll (.slot 2) 65) [(.t 4), (.t 7)]
    .nil)))))
  .ret)) }

/- (jacquard/rel.Rel).Union$1: 72 -/
def rel_Rel_Union_1 : Fn := { np := 2, nt := 8, ns := 0, res := [.t 4 (.i .u64)], gc := false, code :=
  (.seq (.reg 0 false (.op (some 4) .mov [(.k (.c (.int .u64 0)))]
    .nil))
  (.seq (.reg 1 false (.op (some 5) .mov [(.t 0)]
    (.op (some 6) .mov [(.t 1)]
    (.op (some 7) (.bin .or) [(.t 5), (.t 6)]
    (.op (some 4) .mov [(.t 7)]
    .nil)))))
  .ret)) }

/- jacquard/rel.both: 73 -/
def rel_both_b1 : IC :=
  (.seq (.reg 3 false (.op (some 18) (.bin .lss) [(.t 17), (.t 16)]
    .nil))
  (.seq (.cond (.t 18)
  .skip
  (.exit 0))
  (.seq (.blk 1 (.seq (.reg 4 false (.op (some 19) .mov [(.t 17)]
    (.op (some 8) .mov [(.t 19)]
    .nil)))
  (.reg 5 true (.op (some 20) .mov [(.t 8)]
    (.op (some 21) .mov [(.t 2)]
    (.op (some 22) .mov [(.t 8)]
    (.op (some 23) (.addr 1) [(.t 3)]
    (.op (some 24) (.idxA 64 1) [(.t 23), (.t 22)]
    (.op (some 25) (.ld (.slot 0) (.i .u64)) [(.t 24)]
    (.op (some 26) .mov [(.t 8)]
    (.op (some 27) (.addr 1) [(.t 4)]
    (.op (some 28) (.idxA 64 1) [(.t 27), (.t 26)]
    (.op (some 29) (.ld (.slot 1) (.i .u64)) [(.t 28)]
    (.op (some 30) (.qcallv [(.i .u64)]) [(.t 21), (.t 25), (.t 29)]
    (.op (some 31) (.addr 0) [(.t 7)]
    (.op (some 32) (.ld (.slot 3) (.i .i64)) [(.t 31)]
    (.op (some 33) (.qcall 61 [(.i .u64)]) [(.t 32)]
    (.op (some 34) (.bin .and) [(.t 30), (.t 33)]
    (.op (some 35) (.addr 1) [(.t 7)]
    (.op (some 36) (.idxA 64 1) [(.t 35), (.t 20)]
    (.op none (.st (.slot 3)) [(.t 36), (.t 34)]
    .nil)))))))))))))))))))))
  (.reg 6 false (.op (some 37) (.bin .add) [(.t 17), (.k (.c (.int .i64 1)))]
    (.op (some 17) .mov [(.t 37)]
    .nil))))))
def rel_both_p1 : IC :=
  (.seq (.reg 7 false (.op (some 38) (.ldAll (.slot 3) 65) [(.t 7)]
    (.op none (.stAll (.slot 2) 65) [(.t 6), (.t 38)]
    .nil)))
  .ret)
def rel_both : Fn := { np := 3, nt := 39, ns := 4, res := [.all (.slot 2) 6 65], gc := false, code :=
  (.seq (.reg 0 false (.box 3 0 (.t 0)
    (.box 4 1 (.t 1)
    (.al 6 2 ([Cell.int .i64 0] ++ List.replicate 64 (Cell.int .u64 0))
    .nil))))
  (.seq (.reg 1 false (.op (some 9) (.addr 0) [(.t 3)]
    (.op (some 10) (.ld (.slot 0) (.i .i64)) [(.t 9)]
    (.op (some 11) (.addr 0) [(.t 4)]
    (.op (some 12) (.ld (.slot 1) (.i .i64)) [(.t 11)]
    (.op (some 13) .mn [(.t 10), (.t 12)]
    (.op (some 14) (.call 9 [.agg]) [(.t 13)]
    (.al 7 3 ([Cell.int .i64 0] ++ List.replicate 64 (Cell.int .u64 0))
    (.op none (.stAll (.slot 3) 65) [(.t 7), (.t 14)]
    .nil)))))))))
  (.seq (.seq (.reg 2 false (.op (some 15) (.addr 0) [(.t 7)]
    (.op (some 16) (.ld (.slot 3) (.i .i64)) [(.t 15)]
    (.op (some 17) .mov [(.k (.c (.int .i64 0)))]
    .nil))))
  (.blk 0 (.loop [2, 3, 4, 6, 7, 16, 17] [0, 1, 2, 3] [(1, [6, 7], [2, 3])] rel_both_b1)))
  rel_both_p1))) }

/- (jacquard/rel.Rel).Meet$1: 74 -/
def rel_Rel_Meet_1 : Fn := { np := 2, nt := 8, ns := 0, res := [.t 4 (.i .u64)], gc := false, code :=
  (.seq (.reg 0 false (.op (some 4) .mov [(.k (.c (.int .u64 0)))]
    .nil))
  (.seq (.reg 1 false (.op (some 5) .mov [(.t 0)]
    (.op (some 6) .mov [(.t 1)]
    (.op (some 7) (.bin .and) [(.t 5), (.t 6)]
    (.op (some 4) .mov [(.t 7)]
    .nil)))))
  .ret)) }

/- (jacquard/rel.Rel).Minus$1: 75 -/
def rel_Rel_Minus_1 : Fn := { np := 2, nt := 8, ns := 0, res := [.t 4 (.i .u64)], gc := false, code :=
  (.seq (.reg 0 false (.op (some 4) .mov [(.k (.c (.int .u64 0)))]
    .nil))
  (.seq (.reg 1 false (.op (some 5) .mov [(.t 0)]
    (.op (some 6) .mov [(.t 1)]
    (.op (some 7) (.bin .andNot) [(.t 5), (.t 6)]
    (.op (some 4) .mov [(.t 7)]
    .nil)))))
  .ret)) }


end Jq

namespace Jq
open Go

/- (jacquard/set.Set).Has: 17 -/
def set_Set_Has : Fn := { np := 2, nt := 10, ns := 0, res := [.t 4 .b], gc := false, code :=
  (.seq (.reg 0 false (.op (some 4) .mov [(.k (.c (.bool false)))]
    .nil))
  (.seq (.reg 1 false (.op (some 5) .mov [(.t 0)]
    (.op (some 6) .mov [(.t 1)]
    (.op (some 7) (.call 19 [(.i .u64)]) [(.t 6)]
    (.op (some 8) (.bin .and) [(.t 5), (.t 7)]
    (.op (some 9) (.bin .neq) [(.t 8), (.k (.c (.int .u64 0)))]
    (.op (some 4) .mov [(.t 9)]
    .nil)))))))
  .ret)) }

/- (jacquard/set.Set).With: 18 -/
def set_Set_With : Fn := { np := 2, nt := 9, ns := 0, res := [.t 4 (.i .u64)], gc := false, code :=
  (.seq (.reg 0 false (.op (some 4) .mov [(.k (.c (.int .u64 0)))]
    .nil))
  (.seq (.reg 1 false (.op (some 5) .mov [(.t 0)]
    (.op (some 6) .mov [(.t 1)]
    (.op (some 7) (.call 19 [(.i .u64)]) [(.t 6)]
    (.op (some 8) (.bin .or) [(.t 5), (.t 7)]
    (.op (some 4) .mov [(.t 8)]
    .nil))))))
  .ret)) }

/- jacquard/set.bit: 19 -/
def set_bit : Fn := { np := 1, nt := 12, ns := 0, res := [.t 2 (.i .u64)], gc := false, code :=
  (.seq (.reg 0 false (.op (some 2) .mov [(.k (.c (.int .u64 0)))]
    .nil))
  (.seq (.seq (.reg 1 false (.op (some 3) .mov [(.t 0)]
    (.op (some 4) (.bin .lss) [(.t 3), (.k (.c (.int .i64 0)))]
    (.op (some 5) .mov [(.t 4)]
    (.sc 5 false (.op (some 6) .mov [(.t 0)]
    (.op (some 7) (.bin .geq) [(.t 6), (.k (.c (.int .i64 64)))]
    .nil)) 7 8 true
    .nil)))))
  (.cond (.t 8)
  (.seq (.reg 2 false (.op (some 2) .mov [(.k (.c (.int .u64 0)))]
    .nil))
  .ret)
  .skip))
  (.seq (.reg 3 false (.op (some 9) .mov [(.t 0)]
    (.op (some 10) (.conv .u64) [(.t 9)]
    (.op (some 11) (.bin .shl) [(.k (.c (.int .u64 1))), (.t 10)]
    (.op (some 2) .mov [(.t 11)]
    .nil)))))
  .ret))) }

/- (jacquard/set.Set).List: 32 -/
def set_Set_List_b1 : IC :=
  (.seq (.seq (.reg 2 false (.op (some 4) .mov [(.t 0)]
    (.op (some 5) (.bin .neq) [(.t 4), (.k (.c (.int .u64 0)))]
    .nil)))
  (.cond (.t 5)
  .skip
  (.exit 0)))
  (.seq (.blk 1 (.reg 4 false (.op (some 10) .mov [(.t 3)]
    (.op (some 11) .mov [(.t 0)]
    (.op (some 12) (.call 38 [(.i .i64)]) [(.t 11)]
    (.op (some 13) (.lit 1 1 ([Cell.int .i64 0]) [(0, 1)]) [(.t 12)]
    (.op (some 14) (.app 1 8) [(.t 10), (.t 13)]
    (.op (some 3) .mov [(.t 14)]
    .nil))))))))
  (.reg 3 false (.op (some 6) .mov [(.t 0)]
    (.op (some 7) .mov [(.t 0)]
    (.op (some 8) (.bin .sub) [(.t 7), (.k (.c (.int .u64 1)))]
    (.op (some 9) (.bin .and) [(.t 6), (.t 8)]
    (.op (some 0) .mov [(.t 9)]
    .nil))))))))
def set_Set_List_p1 : IC :=
  (.seq (.reg 5 false (.op (some 15) .mov [(.t 3)]
    (.op (some 2) .mov [(.t 15)]
    .nil)))
  .ret)
def set_Set_List : Fn := { np := 1, nt := 16, ns := 0, res := [.t 2 .any], gc := false, code :=
  (.seq (.reg 0 false (.op (some 2) .mov [(.k (.c .nils))]
    .nil))
  (.seq (.reg 1 false (.op (some 3) .mov [(.k (.c .nils))]
    .nil))
  (.seq (.blk 0 (.loop [0, 3] [] [(1, [3], [])] set_Set_List_b1))
  set_Set_List_p1))) }

/- (jacquard/set.Set).First: 38 -/
def set_Set_First : Fn := { np := 1, nt := 7, ns := 0, res := [.t 2 (.i .i64)], gc := false, code :=
  (.seq (.reg 0 false (.op (some 2) .mov [(.k (.c (.int .i64 0)))]
    .nil))
  (.seq (.seq (.reg 1 false (.op (some 3) .mov [(.t 0)]
    (.op (some 4) (.bin .eql) [(.t 3), (.k (.c (.int .u64 0)))]
    .nil)))
  (.cond (.t 4)
  (.seq (.reg 2 false (.op (some 2) .mov [(.k (.c (.int .i64 (-1))))]
    .nil))
  .ret)
  .skip))
  (.seq (.reg 3 false (.op (some 5) .mov [(.t 0)]
    (.op (some 6) (.call 42 [(.i .i64)]) [(.t 5)]
    (.op (some 2) .mov [(.t 6)]
    .nil))))
  .ret))) }

/- (jacquard/set.Set).Len: 56 -/
def set_Set_Len : Fn := { np := 1, nt := 5, ns := 0, res := [.t 2 (.i .i64)], gc := false, code :=
  (.seq (.reg 0 false (.op (some 2) .mov [(.k (.c (.int .i64 0)))]
    .nil))
  (.seq (.reg 1 false (.op (some 3) .mov [(.t 0)]
    (.op (some 4) (.call 57 [(.i .i64)]) [(.t 3)]
    (.op (some 2) .mov [(.t 4)]
    .nil))))
  .ret)) }

/- (jacquard/set.Set).Next: 60 -/
def set_Set_Next : Fn := { np := 1, nt := 26, ns := 0, res := [.t 2 (.i .u64)], gc := false, code :=
  (.seq (.reg 0 false (.op (some 2) .mov [(.k (.c (.int .u64 0)))]
    .nil))
  (.seq (.seq (.reg 1 false (.op (some 5) .mov [(.t 0)]
    (.op (some 6) (.bin .eql) [(.t 5), (.k (.c (.int .u64 0)))]
    .nil)))
  (.cond (.t 6)
  (.seq (.reg 2 false (.op (some 2) .mov [(.k (.c (.int .u64 0)))]
    .nil))
  .ret)
  .skip))
  (.seq (.reg 3 false (.op (some 7) .mov [(.t 0)]
    (.op (some 8) .mov [(.t 0)]
    (.op (some 9) (.un .neg) [(.t 8)]
    (.op (some 10) (.bin .and) [(.t 7), (.t 9)]
    (.op (some 3) .mov [(.t 10)]
    .nil))))))
  (.seq (.reg 4 false (.op (some 11) .mov [(.t 0)]
    (.op (some 12) .mov [(.t 3)]
    (.op (some 13) (.bin .add) [(.t 11), (.t 12)]
    (.op (some 4) .mov [(.t 13)]
    .nil)))))
  (.seq (.seq (.reg 5 false (.op (some 14) .mov [(.t 4)]
    (.op (some 15) (.bin .eql) [(.t 14), (.k (.c (.int .u64 0)))]
    .nil)))
  (.cond (.t 15)
  (.seq (.reg 6 false (.op (some 2) .mov [(.k (.c (.int .u64 0)))]
    .nil))
  .ret)
  .skip))
  (.seq (.reg 7 false (.op (some 16) .mov [(.t 4)]
    (.op (some 17) .mov [(.t 0)]
    (.op (some 18) .mov [(.t 4)]
    (.op (some 19) (.bin .xor) [(.t 17), (.t 18)]
    (.op (some 20) (.bin .shr) [(.t 19), (.k (.c (.int .u64 2)))]
    (.op (some 21) .mov [(.t 3)]
    (.op (some 22) (.call 38 [(.i .i64)]) [(.t 21)]
    (.op (some 23) (.conv .u64) [(.t 22)]
    (.op (some 24) (.bin .shr) [(.t 20), (.t 23)]
    (.op (some 25) (.bin .or) [(.t 16), (.t 24)]
    (.op (some 2) .mov [(.t 25)]
    .nil))))))))))))
  .ret)))))) }

/- jacquard/set.Upto: 61 -/
def set_Upto : Fn := { np := 1, nt := 12, ns := 0, res := [.t 2 (.i .u64)], gc := false, code :=
  (.seq (.reg 0 false (.op (some 2) .mov [(.k (.c (.int .u64 0)))]
    .nil))
  (.seq (.reg 1 false (.op (some 3) .mov [(.t 0)]
    (.op (some 4) .mx [(.t 3), (.k (.c (.int .i64 0)))]
    (.op (some 5) .mn [(.t 4), (.k (.c (.int .i64 64)))]
    (.op (some 0) .mov [(.t 5)]
    .nil)))))
  (.seq (.seq (.reg 2 false (.op (some 6) .mov [(.t 0)]
    (.op (some 7) (.bin .eql) [(.t 6), (.k (.c (.int .i64 64)))]
    .nil)))
  (.cond (.t 7)
  (.seq (.reg 3 false (.op (some 2) .mov [(.k (.c (.int .u64 18446744073709551615)))]
    .nil))
  .ret)
  .skip))
  (.seq (.reg 4 false (.op (some 8) .mov [(.t 0)]
    (.op (some 9) (.conv .u64) [(.t 8)]
    (.op (some 10) (.bin .shl) [(.k (.c (.int .u64 1))), (.t 9)]
    (.op (some 11) (.bin .sub) [(.t 10), (.k (.c (.int .u64 1)))]
    (.op (some 2) .mov [(.t 11)]
    .nil))))))
  .ret)))) }

/- (jacquard/set.Set).Without: 63 -/
def set_Set_Without : Fn := { np := 2, nt := 9, ns := 0, res := [.t 4 (.i .u64)], gc := false, code :=
  (.seq (.reg 0 false (.op (some 4) .mov [(.k (.c (.int .u64 0)))]
    .nil))
  (.seq (.reg 1 false (.op (some 5) .mov [(.t 0)]
    (.op (some 6) .mov [(.t 1)]
    (.op (some 7) (.call 19 [(.i .u64)]) [(.t 6)]
    (.op (some 8) (.bin .andNot) [(.t 5), (.t 7)]
    (.op (some 4) .mov [(.t 8)]
    .nil))))))
  .ret)) }

/- jacquard/set.Of: 65 -/
def set_Of_b1 : IC :=
  (.seq (.reg 3 false (.op (some 9) (.bin .lss) [(.t 8), (.t 7)]
    .nil))
  (.seq (.cond (.t 9)
  .skip
  (.exit 0))
  (.seq (.blk 1 (.seq (.reg 4 false (.op (some 10) (.idxS 1) [(.t 6), (.t 8)]
    (.op (some 11) (.ld .heap (.i .i64)) [(.t 10)]
    (.op (some 5) .mov [(.t 11)]
    .nil))))
  (.reg 5 false (.op (some 12) .mov [(.t 3)]
    (.op (some 13) .mov [(.t 5)]
    (.op (some 14) (.call 18 [(.i .u64)]) [(.t 12), (.t 13)]
    (.op (some 3) .mov [(.t 14)]
    .nil)))))))
  (.reg 6 false (.op (some 15) (.bin .add) [(.t 8), (.k (.c (.int .i64 1)))]
    (.op (some 8) .mov [(.t 15)]
    .nil))))))
def set_Of_p1 : IC :=
  (.seq (.reg 7 false (.op (some 16) .mov [(.t 3)]
    (.op (some 2) .mov [(.t 16)]
    .nil)))
  .ret)
def set_Of : Fn := { np := 1, nt := 17, ns := 0, res := [.t 2 (.i .u64)], gc := false, code :=
  (.seq (.reg 0 false (.op (some 2) .mov [(.k (.c (.int .u64 0)))]
    .nil))
  (.seq (.reg 1 false (.op (some 3) .mov [(.k (.c (.int .u64 0)))]
    .nil))
  (.seq (.seq (.reg 2 false (.op (some 6) .mov [(.t 0)]
    (.op (some 7) .len [(.t 6)]
    (.op (some 8) .mov [(.k (.c (.int .i64 0)))]
    .nil))))
  (.blk 0 (.loop [3, 6, 7, 8] [] [(1, [3], [])] set_Of_b1)))
  set_Of_p1))) }


end Jq

/- What a function needs of an environment. -/
namespace Jq
open Go

structure set_bit_In (E : Env) : Prop where
  fn : E.fn 19 = some set_bit

structure set_Set_With_In (E : Env) : Prop where
  fn : E.fn 18 = some set_Set_With
  c19 : set_bit_In E

structure set_Set_Has_In (E : Env) : Prop where
  fn : E.fn 17 = some set_Set_Has
  c19 : set_bit_In E

structure set_Set_First_In (E : Env) : Prop where
  fn : E.fn 38 = some set_Set_First
  c42 : bits_TrailingZeros64_In E

structure set_Set_List_In (E : Env) : Prop where
  fn : E.fn 32 = some set_Set_List
  c38 : set_Set_First_In E

structure set_Set_Len_In (E : Env) : Prop where
  fn : E.fn 56 = some set_Set_Len
  c57 : bits_OnesCount64_In E

structure set_Upto_In (E : Env) : Prop where
  fn : E.fn 61 = some set_Upto

structure set_Set_Next_In (E : Env) : Prop where
  fn : E.fn 60 = some set_Set_Next
  c38 : set_Set_First_In E

structure set_Of_In (E : Env) : Prop where
  fn : E.fn 65 = some set_Of
  c18 : set_Set_With_In E

structure set_Set_Without_In (E : Env) : Prop where
  fn : E.fn 63 = some set_Set_Without
  c19 : set_bit_In E

end Jq

/- What a function needs of an environment. -/
namespace Jq
open Go

structure rel_New_In (E : Env) : Prop where
  fn : E.fn 9 = some rel_New

structure rel_Rel_in_In (E : Env) : Prop where
  fn : E.fn 16 = some rel_Rel_in

structure rel_Rel_Add_In (E : Env) : Prop where
  fn : E.fn 10 = some rel_Rel_Add
  c16 : rel_Rel_in_In E
  c18 : set_Set_With_In E

structure rel_Rel_Has_In (E : Env) : Prop where
  fn : E.fn 3 = some rel_Rel_Has
  c16 : rel_Rel_in_In E
  c17 : set_Set_Has_In E

structure rel_Rel_Closure_In (E : Env) : Prop where
  fn : E.fn 12 = some rel_Rel_Closure
  c17 : set_Set_Has_In E

structure rel_Rel_N_In (E : Env) : Prop where
  fn : E.fn 14 = some rel_Rel_N

structure rel_Rel_Pairs_In (E : Env) : Prop where
  fn : E.fn 20 = some rel_Rel_Pairs
  c32 : set_Set_List_In E

structure rel_Rel_Acyclic_In (E : Env) : Prop where
  fn : E.fn 26 = some rel_Rel_Acyclic
  c12 : rel_Rel_Closure_In E
  c17 : set_Set_Has_In E

structure rel_Rel_Inverse_In (E : Env) : Prop where
  fn : E.fn 40 = some rel_Rel_Inverse
  c9 : rel_New_In E
  c18 : set_Set_With_In E
  c38 : set_Set_First_In E

structure rel_Rel_Row_In (E : Env) : Prop where
  fn : E.fn 41 = some rel_Rel_Row
  c16 : rel_Rel_in_In E

structure rel_Rel_Then_In (E : Env) : Prop where
  fn : E.fn 58 = some rel_Rel_Then
  c9 : rel_New_In E
  c38 : set_Set_First_In E
  c61 : set_Upto_In E

structure rel_Rel_Union_1_In (E : Env) : Prop where
  fn : E.fn 72 = some rel_Rel_Union_1

structure rel_both_In (E : Env) : Prop where
  fn : E.fn 73 = some rel_both
  c9 : rel_New_In E
  c61 : set_Upto_In E

structure rel_Rel_Union_In (E : Env) : Prop where
  fn : E.fn 59 = some rel_Rel_Union
  c72 : rel_Rel_Union_1_In E
  c73 : rel_both_In E

structure rel_Rel_Keep_In (E : Env) : Prop where
  fn : E.fn 66 = some rel_Rel_Keep
  c9 : rel_New_In E
  c17 : set_Set_Has_In E

structure rel_Rel_Meet_1_In (E : Env) : Prop where
  fn : E.fn 74 = some rel_Rel_Meet_1

structure rel_Rel_Meet_In (E : Env) : Prop where
  fn : E.fn 67 = some rel_Rel_Meet
  c73 : rel_both_In E
  c74 : rel_Rel_Meet_1_In E

structure rel_Rel_Minus_1_In (E : Env) : Prop where
  fn : E.fn 75 = some rel_Rel_Minus_1

structure rel_Rel_Minus_In (E : Env) : Prop where
  fn : E.fn 68 = some rel_Rel_Minus
  c73 : rel_both_In E
  c75 : rel_Rel_Minus_1_In E

end Jq

/- What a function needs of an environment. -/
namespace Jq
open Go

structure event_Of_In (E : Env) : Prop where
  fn : E.fn 109 = some event_Of
  c108 : prog_Value_In E

structure event_Unfold_In (E : Env) : Prop where
  fn : E.fn 78 = some event_Unfold
  c94 : prog_Start_In E
  c105 : prog_Next_In E
  c106 : prog_After_In E
  c109 : event_Of_In E

structure event_Inits_In (E : Env) : Prop where
  fn : E.fn 88 = some event_Inits

structure event_Reads_In (E : Env) : Prop where
  fn : E.fn 79 = some event_Reads

structure event_Writes_In (E : Env) : Prop where
  fn : E.fn 80 = some event_Writes

structure event_Fences_In (E : Env) : Prop where
  fn : E.fn 82 = some event_Fences

structure event_Same_In (E : Env) : Prop where
  fn : E.fn 84 = some event_Same
  c112 : slices_Equal_sEv_Ev_In E

structure event_PO_In (E : Env) : Prop where
  fn : E.fn 90 = some event_PO
  c9 : rel_New_In E
  c10 : rel_Rel_Add_In E

end Jq

namespace Jq
open Go

/- jacquard/jacquardlaw10.awake: 77 -/
def jacquardlaw10_awake : Fn := { np := 0, nt := 54, ns := 2, res := [.t 0 .b], gc := true, code :=
  (.seq (.reg 0 false (.op (some 0) .mov [(.k (.c (.bool false)))]
    .nil))
  (.seq (.reg 1 false (.op (some 6) (.bslice 1 1 ([Cell.int .u8 0]) [(0, 1)]) [(.k (.c (.int .u8 120)))]
    (.op (some 7) .mark [(.t 6)]
    (.op (some 8) (.bslice 1 1 ([Cell.int .i64 0]) [(0, 1)]) [(.k (.c (.int .i64 4)))]
    (.op (some 9) (.build (List.replicate 9 (Cell.int .i64 0)) [(0, 1), (1, 1)]) [(.k (.c (.int .i64 2))), (.k (.c (.int .i64 1)))]
    (.op (some 10) (.bslice 9 1 (List.replicate 9 (Cell.int .i64 0)) [(0, 9)]) [(.t 9)]
    (.op (some 11) (.bslice 1 1 ([Cell.nils]) [(0, 1)]) [(.t 10)]
    (.op (some 12) (.build ([Cell.nils, Cell.nils, Cell.nils]) [(0, 1), (1, 1), (2, 1)]) [(.t 7), (.t 8), (.t 11)]
    (.al 1 0 ([Cell.nils, Cell.nils, Cell.nils])
    (.op none (.stAll (.slot 0) 3) [(.t 1), (.t 12)]
    .nil))))))))))
  (.seq (.reg 2 false (.op (some 14) (.ldAll (.slot 0) 3) [(.t 1)]
    (.op (some 15) (.bslice 1 1 ([Cell.int .i64 0]) [(0, 1)]) [(.k (.c (.int .i64 5)))]
    (.op (some 16) (.call 78 [.any, .agg, .b]) [(.t 14), (.k (.c (.int .i64 0))), (.t 15)]
    (.op (some 13) .mov [(.t 16)]
    (.op (some 17) (.ext 0) [(.t 13)]
    (.op (some 18) (.ext 1) [(.t 13)]
    (.op (some 19) (.ext 2) [(.t 13)]
    (.al 3 1 ([Cell.int .i64 0, Cell.int .i64 0, Cell.int .i64 0, Cell.int .i64 0, Cell.int .i64 0])
    (.op (some 2) .mov [(.t 17)]
    (.op none (.stAll (.slot 1) 5) [(.t 3), (.t 18)]
    (.op (some 4) .mov [(.t 19)]
    .nil))))))))))))
  (.seq (.reg 3 false (.op (some 20) (.ldAll (.slot 0) 3) [(.t 1)]
    (.op (some 21) (.call 88 [.any]) [(.t 20)]
    (.op (some 5) .mov [(.t 21)]
    .nil))))
  (.seq (.reg 4 false (.op (some 22) .mov [(.t 2)]
    (.op (some 23) .len [(.t 22)]
    (.op (some 24) (.bin .eql) [(.t 23), (.k (.c (.int .i64 1)))]
    (.op (some 25) .mov [(.t 24)]
    (.sc 25 true (.op (some 26) .mov [(.t 2)]
    (.op (some 27) (.idxS 6) [(.t 26), (.k (.c (.int .i64 0)))]
    (.op (some 28) (.ldN .heap 6) [(.t 27)]
    (.op (some 29) (.build ([Cell.int .i64 0, Cell.int .i64 0, Cell.int .i64 0, Cell.int .i64 0, Cell.int .i64 0, Cell.int .i64 0]) [(2, 1), (4, 1)]) [(.k (.c (.int .i64 1))), (.k (.c (.int .i64 5)))]
    (.op (some 30) (.eqA false ([Cell.int .i64 0, Cell.int .i64 0, Cell.int .i64 0, Cell.int .i64 0, Cell.int .i64 0, Cell.int .i64 0])) [(.t 28), (.t 29)]
    .nil))))) 30 31 false
    (.op (some 32) .mov [(.t 31)]
    (.sc 32 true (.op (some 33) (.addr 1) [(.t 3)]
    (.op (some 34) (.idxA 4 1) [(.t 33), (.k (.c (.int .i64 1)))]
    (.op (some 35) (.ld (.slot 1) (.i .i64)) [(.t 34)]
    (.op (some 36) (.bin .eql) [(.t 35), (.k (.c (.int .i64 5)))]
    .nil)))) 36 37 false
    (.op (some 38) .mov [(.t 37)]
    (.sc 38 true (.op (some 39) .mov [(.t 4)]
    (.op (some 40) (.un .not) [(.t 39)]
    .nil)) 40 41 false
    (.op (some 42) .mov [(.t 41)]
    (.sc 42 true (.op (some 43) .mov [(.t 5)]
    (.op (some 44) .len [(.t 43)]
    (.op (some 45) (.bin .eql) [(.t 44), (.k (.c (.int .i64 1)))]
    .nil))) 45 46 false
    (.op (some 47) .mov [(.t 46)]
    (.sc 47 true (.op (some 48) .mov [(.t 5)]
    (.op (some 49) (.idxS 6) [(.t 48), (.k (.c (.int .i64 0)))]
    (.op (some 50) (.ldN .heap 6) [(.t 49)]
    (.op (some 51) (.build ([Cell.int .i64 0, Cell.int .i64 0, Cell.int .i64 0, Cell.int .i64 0, Cell.int .i64 0, Cell.int .i64 0]) [(0, 1), (2, 1), (5, 1)]) [(.k (.c (.int .i64 (-1)))), (.k (.c (.int .i64 2))), (.k (.c (.int .i64 4)))]
    (.op (some 52) (.eqA false ([Cell.int .i64 0, Cell.int .i64 0, Cell.int .i64 0, Cell.int .i64 0, Cell.int .i64 0, Cell.int .i64 0])) [(.t 50), (.t 51)]
    .nil))))) 52 53 false
    (.op (some 0) .mov [(.t 53)]
    .nil)))))))))))))))
  .ret))))) }

/- jacquard/jacquardlaw10.EventCounts: 211 -/
def jacquardlaw10_EventCounts_b1 : IC :=
  (.seq (.seq (.reg 8 false (.op (some 35) .mov [(.t 12)]
    (.op (some 36) .mov [(.t 8)]
    (.op (some 37) .len [(.t 36)]
    (.op (some 38) (.bin .lss) [(.t 35), (.t 37)]
    .nil)))))
  (.cond (.t 38)
  .skip
  (.exit 0)))
  (.seq (.blk 1 (.seq (.seq (.reg 10 false (.op (some 41) .mov [(.t 8)]
    (.op (some 42) .mov [(.t 12)]
    (.op (some 43) (.idxS 6) [(.t 41), (.t 42)]
    (.op (some 44) (.addr 0) [(.t 43)]
    (.op (some 45) (.ld .heap (.i .i64)) [(.t 44)]
    (.op (some 46) .mov [(.t 1)]
    (.op (some 47) (.bin .neq) [(.t 45), (.t 46)]
    (.op (some 48) .mov [(.t 47)]
    (.sc 48 false (.op (some 49) .mov [(.t 8)]
    (.op (some 50) .mov [(.t 12)]
    (.op (some 51) (.idxS 6) [(.t 49), (.t 50)]
    (.op (some 52) (.addr 1) [(.t 51)]
    (.op (some 53) (.ld .heap (.i .i64)) [(.t 52)]
    (.op (some 54) .mov [(.t 12)]
    (.op (some 55) (.bin .neq) [(.t 53), (.t 54)]
    .nil))))))) 55 56 true
    (.op (some 57) .mov [(.t 56)]
    (.sc 57 false (.op (some 58) .mov [(.t 8)]
    (.op (some 59) .mov [(.t 12)]
    (.op (some 60) (.idxS 6) [(.t 58), (.t 59)]
    (.op (some 61) (.addr 2) [(.t 60)]
    (.op (some 62) (.ld .heap (.i .i64)) [(.t 61)]
    (.op (some 63) (.bin .lss) [(.t 62), (.k (.c (.int .i64 1)))]
    .nil)))))) 63 64 true
    (.op (some 65) .mov [(.t 64)]
    (.sc 65 false (.op (some 66) .mov [(.t 8)]
    (.op (some 67) .mov [(.t 12)]
    (.op (some 68) (.idxS 6) [(.t 66), (.t 67)]
    (.op (some 69) (.addr 2) [(.t 68)]
    (.op (some 70) (.ld .heap (.i .i64)) [(.t 69)]
    (.op (some 71) (.bin .gtr) [(.t 70), (.k (.c (.int .i64 5)))]
    .nil)))))) 71 72 true
    .nil))))))))))))))
  (.cond (.t 72)
  (.seq (.reg 11 false (.op (some 6) .mov [(.k (.c (.bool false)))]
    .nil))
  .ret)
  .skip))
  (.seq (.seq (.reg 12 false (.op (some 73) .mov [(.t 8)]
    (.op (some 74) .mov [(.t 12)]
    (.op (some 75) (.idxS 6) [(.t 73), (.t 74)]
    (.op (some 76) (.ldN .heap 6) [(.t 75)]
    (.op (some 77) (.call 79 [.b]) [(.t 76)]
    .nil))))))
  (.cond (.t 77)
  (.seq (.seq (.reg 13 true (.op (some 78) .mov [(.t 11)]
    (.op (some 79) .mov [(.t 2)]
    (.op (some 80) .len [(.t 79)]
    (.op (some 81) (.bin .geq) [(.t 78), (.t 80)]
    (.op (some 82) .mov [(.t 81)]
    (.sc 82 false (.op (some 83) .mov [(.t 8)]
    (.op (some 84) .mov [(.t 12)]
    (.op (some 85) (.idxS 6) [(.t 83), (.t 84)]
    (.op (some 86) (.addr 4) [(.t 85)]
    (.op (some 87) (.ld .heap (.i .i64)) [(.t 86)]
    (.op (some 88) .mov [(.t 2)]
    (.op (some 89) .mov [(.t 11)]
    (.op (some 90) (.idxS 1) [(.t 88), (.t 89)]
    (.op (some 91) (.ld .heap (.i .i64)) [(.t 90)]
    (.op (some 92) (.bin .neq) [(.t 87), (.t 91)]
    .nil)))))))))) 92 93 true
    .nil)))))))
  (.cond (.t 93)
  (.seq (.reg 14 false (.op (some 6) .mov [(.k (.c (.bool false)))]
    .nil))
  .ret)
  .skip))
  (.reg 15 false (.op (some 94) .mov [(.t 11)]
    (.op (some 95) (.bin .add) [(.t 94), (.k (.c (.int .i64 1)))]
    (.op (some 11) .mov [(.t 95)]
    .nil)))))
  (.seq (.reg 16 false (.op (some 96) .mov [(.t 8)]
    (.op (some 97) .mov [(.t 12)]
    (.op (some 98) (.idxS 6) [(.t 96), (.t 97)]
    (.op (some 99) (.addr 4) [(.t 98)]
    (.op (some 100) (.ld .heap (.i .i64)) [(.t 99)]
    (.op (some 101) (.bin .neq) [(.t 100), (.k (.c (.int .i64 0)))]
    .nil)))))))
  (.cond (.t 101)
  (.seq (.reg 17 false (.op (some 6) .mov [(.k (.c (.bool false)))]
    .nil))
  .ret)
  .skip))))
  (.seq (.reg 18 false (.op (some 102) .mov [(.t 8)]
    (.op (some 103) .mov [(.t 12)]
    (.op (some 104) (.idxS 6) [(.t 102), (.t 103)]
    (.op (some 105) (.ldN .heap 6) [(.t 104)]
    (.op (some 106) (.call 80 [.b]) [(.t 105)]
    (.op (some 107) (.un .not) [(.t 106)]
    (.op (some 108) .mov [(.t 107)]
    (.sc 108 true (.op (some 109) .mov [(.t 8)]
    (.op (some 110) .mov [(.t 12)]
    (.op (some 111) (.idxS 6) [(.t 109), (.t 110)]
    (.op (some 112) (.addr 5) [(.t 111)]
    (.op (some 113) (.ld .heap (.i .i64)) [(.t 112)]
    (.op (some 114) (.bin .neq) [(.t 113), (.k (.c (.int .i64 0)))]
    .nil)))))) 114 115 false
    .nil)))))))))
  (.cond (.t 115)
  (.seq (.reg 19 false (.op (some 6) .mov [(.k (.c (.bool false)))]
    .nil))
  .ret)
  .skip)))))
  (.reg 9 false (.op (some 39) .mov [(.t 12)]
    (.op (some 40) (.bin .add) [(.t 39), (.k (.c (.int .i64 1)))]
    (.op (some 12) .mov [(.t 40)]
    .nil))))))
def jacquardlaw10_EventCounts_p1 : IC :=
  (.seq (.reg 20 false (.op (some 117) (.ldAll (.slot 0) 3) [(.t 7)]
    (.op (some 118) .mov [(.t 1)]
    (.op (some 119) (.ldAll (.slot 1) 5) [(.t 9)]
    (.op (some 120) (.call 81 [.agg, .b]) [(.t 117), (.t 118), (.t 119)]
    (.op (some 116) .mov [(.t 120)]
    (.op (some 121) (.ext 0) [(.t 116)]
    (.op (some 122) (.ext 1) [(.t 116)]
    (.al 13 2 (List.replicate 9 (Cell.int .i64 0))
    (.op none (.stAll (.slot 2) 9) [(.t 13), (.t 121)]
    (.op (some 14) .mov [(.t 122)]
    .nil)))))))))))
  (.seq (.reg 21 false (.op (some 123) .mov [(.t 10)]
    (.op (some 124) (.un .not) [(.t 123)]
    (.op (some 125) .mov [(.t 124)]
    (.sc 125 false (.op (some 126) .mov [(.t 11)]
    (.op (some 127) .mov [(.t 2)]
    (.op (some 128) .len [(.t 127)]
    (.op (some 129) (.bin .eql) [(.t 126), (.t 128)]
    .nil)))) 129 130 true
    (.op (some 131) .mov [(.t 130)]
    (.sc 131 true (.op (some 132) .mov [(.t 14)]
    (.op (some 133) .mov [(.t 10)]
    (.op (some 134) (.eqB false) [(.t 132), (.t 133)]
    .nil))) 134 135 false
    (.op (some 136) .mov [(.t 135)]
    (.sc 136 true (.op (some 137) .mov [(.t 8)]
    (.op (some 138) .len [(.t 137)]
    (.op (some 139) (.addr 2) [(.t 7)]
    (.op (some 140) (.ld (.slot 0) .any) [(.t 139)]
    (.op (some 141) .mov [(.t 1)]
    (.op (some 142) (.idxS 1) [(.t 140), (.t 141)]
    (.op (some 143) (.ld .heap .any) [(.t 142)]
    (.op (some 144) .len [(.t 143)]
    (.op (some 145) (.bin .leq) [(.t 138), (.t 144)]
    .nil))))))))) 145 146 false
    (.op (some 147) .mov [(.t 146)]
    (.sc 147 true (.op (some 148) (.call 77 [.b]) []
    .nil) 148 149 false
    (.op (some 6) .mov [(.t 149)]
    .nil))))))))))))
  .ret))
def jacquardlaw10_EventCounts : Fn := { np := 3, nt := 150, ns := 3, res := [.t 6 .b], gc := false, code :=
  (.seq (.reg 0 false (.op (some 6) .mov [(.k (.c (.bool false)))]
    .nil))
  (.seq (.reg 1 false (.op (some 15) .mov [(.t 0)]
    (.op (some 16) (.call 76 [.agg]) [(.t 15), (.k (.c (.int .i64 12)))]
    (.al 7 0 ([Cell.nils, Cell.nils, Cell.nils])
    (.op none (.stAll (.slot 0) 3) [(.t 7), (.t 16)]
    .nil)))))
  (.seq (.reg 2 false (.op (some 17) .mov [(.t 1)]
    (.op (some 18) (.bin .and) [(.t 17), (.k (.c (.int .i64 255)))]
    (.op (some 19) (.addr 2) [(.t 7)]
    (.op (some 20) (.ld (.slot 0) .any) [(.t 19)]
    (.op (some 21) .len [(.t 20)]
    (.op (some 22) (.bin .rem) [(.t 18), (.t 21)]
    (.op (some 1) .mov [(.t 22)]
    .nil))))))))
  (.seq (.seq (.reg 3 false (.op (some 23) .mov [(.t 2)]
    (.op (some 24) .len [(.t 23)]
    (.op (some 25) (.bin .gtr) [(.t 24), (.k (.c (.int .i64 30)))]
    .nil))))
  (.cond (.t 25)
  (.seq (.reg 4 false (.op (some 26) (.call 77 [.b]) []
    (.op (some 6) .mov [(.t 26)]
    .nil)))
  .ret)
  .skip))
  (.seq (.reg 5 false (.op (some 28) (.ldAll (.slot 0) 3) [(.t 7)]
    (.op (some 29) .mov [(.t 1)]
    (.op (some 30) .mov [(.t 2)]
    (.op (some 31) (.call 78 [.any, .agg, .b]) [(.t 28), (.t 29), (.t 30)]
    (.op (some 27) .mov [(.t 31)]
    (.op (some 32) (.ext 0) [(.t 27)]
    (.op (some 33) (.ext 1) [(.t 27)]
    (.op (some 34) (.ext 2) [(.t 27)]
    (.al 9 1 ([Cell.int .i64 0, Cell.int .i64 0, Cell.int .i64 0, Cell.int .i64 0, Cell.int .i64 0])
    (.op (some 8) .mov [(.t 32)]
    (.op none (.stAll (.slot 1) 5) [(.t 9), (.t 33)]
    (.op (some 10) .mov [(.t 34)]
    .nil)))))))))))))
  (.seq (.reg 6 false (.op (some 11) .mov [(.k (.c (.int .i64 0)))]
    .nil))
  (.seq (.seq (.reg 7 false (.op (some 12) .mov [(.k (.c (.int .i64 0)))]
    .nil))
  (.blk 0 (.loop [1, 2, 7, 8, 9, 10, 11, 12] [0, 1] [(0, [6], []), (1, [1, 2, 7, 8, 9, 10, 11], [0, 1])] jacquardlaw10_EventCounts_b1)))
  jacquardlaw10_EventCounts_p1))))))) }

/- jacquard/jacquardlaw10.EventKinds: 212 -/
def jacquardlaw10_EventKinds : Fn := { np := 1, nt := 54, ns := 1, res := [.t 2 .b], gc := false, code :=
  (.seq (.reg 0 false (.op (some 2) .mov [(.k (.c (.bool false)))]
    .nil))
  (.seq (.reg 1 false (.op (some 7) .mov [(.t 0)]
    (.op (some 8) (.build ([Cell.int .i64 0, Cell.int .i64 0, Cell.int .i64 0, Cell.int .i64 0, Cell.int .i64 0, Cell.int .i64 0]) [(2, 1)]) [(.t 7)]
    (.al 3 0 ([Cell.int .i64 0, Cell.int .i64 0, Cell.int .i64 0, Cell.int .i64 0, Cell.int .i64 0, Cell.int .i64 0])
    (.op none (.stAll (.slot 0) 6) [(.t 3), (.t 8)]
    .nil)))))
  (.seq (.reg 2 true (.op (some 9) (.ldAll (.slot 0) 6) [(.t 3)]
    (.op (some 10) (.qcall 79 [.b]) [(.t 9)]
    (.op (some 11) (.ldAll (.slot 0) 6) [(.t 3)]
    (.op (some 12) (.qcall 80 [.b]) [(.t 11)]
    (.op (some 13) (.ldAll (.slot 0) 6) [(.t 3)]
    (.op (some 14) (.qcall 82 [.b]) [(.t 13)]
    (.op (some 4) .mov [(.t 10)]
    (.op (some 5) .mov [(.t 12)]
    (.op (some 6) .mov [(.t 14)]
    .nil))))))))))
  (.seq (.reg 3 false (.op (some 15) .mov [(.t 4)]
    (.op (some 16) .mov [(.t 0)]
    (.op (some 17) (.bin .eql) [(.t 16), (.k (.c (.int .i64 1)))]
    (.op (some 18) .mov [(.t 17)]
    (.sc 18 false (.op (some 19) .mov [(.t 0)]
    (.op (some 20) (.bin .eql) [(.t 19), (.k (.c (.int .i64 4)))]
    .nil)) 20 21 true
    (.op (some 22) .mov [(.t 21)]
    (.sc 22 false (.op (some 23) .mov [(.t 0)]
    (.op (some 24) (.bin .eql) [(.t 23), (.k (.c (.int .i64 5)))]
    .nil)) 24 25 true
    (.op (some 26) (.eqB false) [(.t 15), (.t 25)]
    (.op (some 27) .mov [(.t 26)]
    (.sc 27 true (.op (some 28) .mov [(.t 5)]
    (.op (some 29) .mov [(.t 0)]
    (.op (some 30) (.bin .eql) [(.t 29), (.k (.c (.int .i64 2)))]
    (.op (some 31) .mov [(.t 30)]
    (.sc 31 false (.op (some 32) .mov [(.t 0)]
    (.op (some 33) (.bin .eql) [(.t 32), (.k (.c (.int .i64 4)))]
    .nil)) 33 34 true
    (.op (some 35) (.eqB false) [(.t 28), (.t 34)]
    .nil)))))) 35 36 false
    (.op (some 37) .mov [(.t 36)]
    (.sc 37 true (.op (some 38) .mov [(.t 6)]
    (.op (some 39) .mov [(.t 0)]
    (.op (some 40) (.bin .eql) [(.t 39), (.k (.c (.int .i64 3)))]
    (.op (some 41) .mov [(.t 40)]
    (.sc 41 false (.op (some 42) .mov [(.t 0)]
    (.op (some 43) (.bin .eql) [(.t 42), (.k (.c (.int .i64 4)))]
    .nil)) 43 44 true
    (.op (some 45) .mov [(.t 44)]
    (.sc 45 false (.op (some 46) .mov [(.t 0)]
    (.op (some 47) (.bin .eql) [(.t 46), (.k (.c (.int .i64 5)))]
    .nil)) 47 48 true
    (.op (some 49) (.eqB false) [(.t 38), (.t 48)]
    .nil)))))))) 49 50 false
    (.op (some 51) .mov [(.t 50)]
    (.sc 51 true (.op (some 52) (.call 77 [.b]) []
    .nil) 52 53 false
    (.op (some 2) .mov [(.t 53)]
    .nil))))))))))))))))
  .ret)))) }

/- jacquard/jacquardlaw10.EventOrders: 214 -/
def jacquardlaw10_EventOrders : Fn := { np := 1, nt := 30, ns := 0, res := [.t 2 .b], gc := false, code :=
  (.seq (.reg 0 false (.op (some 2) .mov [(.k (.c (.bool false)))]
    .nil))
  (.seq (.seq (.reg 1 false (.op (some 3) .mov [(.t 0)]
    (.op (some 4) .len [(.t 3)]
    (.op (some 5) (.bin .gtr) [(.t 4), (.k (.c (.int .i64 80)))]
    .nil))))
  (.cond (.t 5)
  (.seq (.reg 2 false (.op (some 6) (.call 77 [.b]) []
    (.op (some 2) .mov [(.t 6)]
    .nil)))
  .ret)
  .skip))
  (.seq (.seq (.reg 3 false (.op (some 7) .mov [(.t 0)]
    (.op (some 8) .len [(.t 7)]
    (.op (some 9) (.bin .gtr) [(.t 8), (.k (.c (.int .i64 64)))]
    .nil))))
  (.cond (.t 9)
  (.seq (.reg 4 false (.op (some 10) .mov [(.t 0)]
    (.op (some 11) (.call 90 [.agg]) [(.t 10)]
    (.op (some 12) (.call 14 [(.i .i64)]) [(.t 11)]
    (.op (some 13) (.bin .eql) [(.t 12), (.k (.c (.int .i64 0)))]
    (.op (some 14) .mov [(.t 13)]
    (.sc 14 true (.op (some 15) (.call 77 [.b]) []
    .nil) 15 16 false
    (.op (some 2) .mov [(.t 16)]
    .nil))))))))
  .ret)
  .skip))
  (.seq (.reg 5 false (.op (some 17) .mov [(.t 0)]
    (.op (some 18) (.call 90 [.agg]) [(.t 17)]
    (.op (some 19) .mov [(.t 0)]
    (.op (some 20) (.call 91 [.agg]) [(.t 19)]
    (.op (some 21) (.call 69 [.b]) [(.t 18), (.t 20)]
    (.op (some 22) .mov [(.t 21)]
    (.sc 22 true (.op (some 23) .mov [(.t 0)]
    (.op (some 24) .mov [(.t 0)]
    (.op (some 25) (.call 84 [.b]) [(.t 23), (.t 24)]
    .nil))) 25 26 false
    (.op (some 27) .mov [(.t 26)]
    (.sc 27 true (.op (some 28) (.call 77 [.b]) []
    .nil) 28 29 false
    (.op (some 2) .mov [(.t 29)]
    .nil)))))))))))
  .ret)))) }


end Jq

namespace Jq
open Go

/- jacquard/jacquardlaw6.Of: 76 -/
def jacquardlaw6_Of : Fn := { np := 2, nt := 9, ns := 1, res := [.all (.slot 0) 4 3], gc := false, code :=
  (.seq (.reg 0 false (.al 4 0 ([Cell.nils, Cell.nils, Cell.nils])
    .nil))
  (.seq (.reg 1 false (.op (some 5) .mov [(.t 0)]
    (.op (some 6) .mov [(.t 1)]
    (.op (some 7) (.call 97 [.agg]) [(.t 5), (.t 6)]
    (.op (some 8) (.call 101 [.agg]) [(.t 7)]
    (.op none (.stAll (.slot 0) 3) [(.t 4), (.t 8)]
    .nil))))))
  .ret)) }


end Jq

namespace Jq
open Go

/- jacquard/jacquardlaw3.Small: 97 -/
def jacquardlaw3_Small_p8 : IC :=
  (.cond (.t 108)
  (.seq (.reg 35 false (.op (some 113) .mov [(.t 12)]
    (.op (some 114) .mov [(.t 17)]
    (.op (some 115) .mov [(.t 15)]
    (.op (some 116) (.build (List.replicate 9 (Cell.int .i64 0)) [(0, 1), (1, 1), (2, 1)]) [(.k (.c (.int .i64 2))), (.t 114), (.t 115)]
    (.op (some 117) (.lit 9 1 (List.replicate 9 (Cell.int .i64 0)) [(0, 9)]) [(.t 116)]
    (.op (some 118) (.app 9 72) [(.t 113), (.t 117)]
    (.op (some 12) .mov [(.t 118)]
    .nil))))))))
  (.reg 36 false (.op (some 119) .mov [(.t 10)]
    (.op (some 120) (.bin .add) [(.t 119), (.k (.c (.int .i64 1)))]
    (.op (some 10) .mov [(.t 120)]
    .nil)))))
  (.seq (.reg 37 false (.op (some 122) (.bin .eql) [(.t 83), (.k (.c (.int .i64 8)))]
    (.op (some 121) .mov [(.t 122)]
    .nil)))
  (.cond (.t 121)
  (.reg 38 false (.op (some 123) .mov [(.t 12)]
    (.op (some 124) (.build (List.replicate 9 (Cell.int .i64 0)) [(0, 1)]) [(.k (.c (.int .i64 3)))]
    (.op (some 125) (.lit 9 1 (List.replicate 9 (Cell.int .i64 0)) [(0, 9)]) [(.t 124)]
    (.op (some 126) (.app 9 72) [(.t 123), (.t 125)]
    (.op (some 12) .mov [(.t 126)]
    .nil))))))
  (.seq (.reg 39 false (.op (some 128) (.bin .eql) [(.t 83), (.k (.c (.int .i64 9)))]
    (.op (some 127) .mov [(.t 128)]
    .nil)))
  (.cond (.t 127)
  (.seq (.reg 40 false (.op (some 129) .mov [(.t 12)]
    (.op (some 130) .mov [(.t 17)]
    (.op (some 131) .mov [(.t 15)]
    (.op (some 132) (.ldAll (.slot 2) 2) [(.t 16)]
    (.op (some 133) (.build ([Cell.int .i64 0, Cell.int .i64 0]) [(0, 1), (1, 1)]) [(.k (.c (.int .i64 (-1)))), (.k (.c (.int .i64 1)))]
    (.op (some 134) (.build (List.replicate 9 (Cell.int .i64 0)) [(0, 1), (1, 1), (2, 1), (3, 2), (6, 2)]) [(.k (.c (.int .i64 4))), (.t 130), (.t 131), (.t 132), (.t 133)]
    (.op (some 135) (.lit 9 1 (List.replicate 9 (Cell.int .i64 0)) [(0, 9)]) [(.t 134)]
    (.op (some 136) (.app 9 72) [(.t 129), (.t 135)]
    (.op (some 12) .mov [(.t 136)]
    .nil))))))))))
  (.reg 41 false (.op (some 137) .mov [(.t 10)]
    (.op (some 138) (.bin .add) [(.t 137), (.k (.c (.int .i64 1)))]
    (.op (some 10) .mov [(.t 138)]
    .nil)))))
  (.seq (.reg 42 false (.op (some 140) (.bin .eql) [(.t 83), (.k (.c (.int .i64 10)))]
    (.op (some 139) .mov [(.t 140)]
    .nil)))
  (.cond (.t 139)
  (.reg 43 false (.op (some 141) .mov [(.t 12)]
    (.op (some 142) .mov [(.t 17)]
    (.op (some 143) (.ldAll (.slot 2) 2) [(.t 16)]
    (.op (some 144) (.build ([Cell.int .i64 0, Cell.int .i64 0]) [(0, 1), (1, 1)]) [(.k (.c (.int .i64 (-1)))), (.k (.c (.int .i64 1)))]
    (.op (some 145) (.build (List.replicate 9 (Cell.int .i64 0)) [(0, 1), (1, 1), (3, 2), (5, 1), (6, 2)]) [(.k (.c (.int .i64 5))), (.t 142), (.t 143), (.k (.c (.int .i64 6))), (.t 144)]
    (.op (some 146) (.lit 9 1 (List.replicate 9 (Cell.int .i64 0)) [(0, 9)]) [(.t 145)]
    (.op (some 147) (.app 9 72) [(.t 141), (.t 146)]
    (.op (some 12) .mov [(.t 147)]
    .nil)))))))))
  (.seq (.reg 23 false (.op (some 84) .mov [(.t 12)]
    (.op (some 85) (.ldAll (.slot 2) 2) [(.t 16)]
    (.op (some 86) (.build ([Cell.int .i64 0, Cell.int .i64 0]) [(0, 1)]) [(.k (.c (.int .i64 (-1))))]
    (.op (some 87) (.build (List.replicate 9 (Cell.int .i64 0)) [(0, 1), (3, 2), (6, 2), (8, 1)]) [(.k (.c (.int .i64 6))), (.t 85), (.t 86), (.k (.c (.int .i64 1)))]
    (.op (some 88) .mov [(.t 15)]
    (.op (some 89) (.build ([Cell.int .i64 0, Cell.int .i64 0]) [(0, 1), (1, 1)]) [(.k (.c (.int .i64 (-1)))), (.k (.c (.int .i64 2)))]
    (.op (some 90) (.build (List.replicate 9 (Cell.int .i64 0)) [(0, 1), (2, 1), (3, 2)]) [(.k (.c (.int .i64 1))), (.t 88), (.t 89)]
    (.op (some 91) (.lit 9 2 (List.replicate 18 (Cell.int .i64 0)) [(0, 9), (9, 9)]) [(.t 87), (.t 90)]
    (.op (some 92) (.app 9 72) [(.t 84), (.t 91)]
    (.op (some 12) .mov [(.t 92)]
    .nil)))))))))))
  (.reg 24 false (.op (some 93) .mov [(.t 10)]
    (.op (some 94) (.bin .add) [(.t 93), (.k (.c (.int .i64 1)))]
    (.op (some 10) .mov [(.t 94)]
    .nil))))))))))))
def jacquardlaw3_Small_p7 : IC :=
  (.cond (.t 95)
  (.seq (.reg 29 false (.op (some 100) .mov [(.t 12)]
    (.op (some 101) .mov [(.t 15)]
    (.op (some 102) (.ldAll (.slot 2) 2) [(.t 16)]
    (.op (some 103) (.build (List.replicate 9 (Cell.int .i64 0)) [(0, 1), (2, 1), (3, 2)]) [(.k (.c (.int .i64 1))), (.t 101), (.t 102)]
    (.op (some 104) (.lit 9 1 (List.replicate 9 (Cell.int .i64 0)) [(0, 9)]) [(.t 103)]
    (.op (some 105) (.app 9 72) [(.t 100), (.t 104)]
    (.op (some 12) .mov [(.t 105)]
    .nil))))))))
  (.reg 30 false (.op (some 106) .mov [(.t 10)]
    (.op (some 107) (.bin .add) [(.t 106), (.k (.c (.int .i64 1)))]
    (.op (some 10) .mov [(.t 107)]
    .nil)))))
  (.cut [1, 4, 5, 7, 8, 9, 10, 11, 12, 13, 15, 16, 17, 83, 108] [0, 1, 2] [] (.seq (.reg 31 false (.op (some 109) (.bin .eql) [(.t 83), (.k (.c (.int .i64 4)))]
    (.op (some 108) .mov [(.t 109)]
    .nil)))
  (.cond (.t 108)
  .skip
  (.seq (.reg 32 false (.op (some 110) (.bin .eql) [(.t 83), (.k (.c (.int .i64 5)))]
    (.op (some 108) .mov [(.t 110)]
    .nil)))
  (.cond (.t 108)
  .skip
  (.seq (.reg 33 false (.op (some 111) (.bin .eql) [(.t 83), (.k (.c (.int .i64 6)))]
    (.op (some 108) .mov [(.t 111)]
    .nil)))
  (.cond (.t 108)
  .skip
  (.reg 34 false (.op (some 112) (.bin .eql) [(.t 83), (.k (.c (.int .i64 7)))]
    (.op (some 108) .mov [(.t 112)]
    .nil)))))))))
  jacquardlaw3_Small_p8))
def jacquardlaw3_Small_p6 : IC :=
  (.seq (.reg 21 false (.op (some 79) .mov [(.t 14)]
    (.op (some 80) (.bin .shr) [(.t 79), (.k (.c (.int .u64 11)))]
    (.op (some 81) (.bin .and) [(.t 80), (.k (.c (.int .i64 1)))]
    (.op (some 17) .mov [(.t 81)]
    .nil)))))
  (.seq (.reg 22 false (.op (some 82) .mov [(.t 14)]
    (.op (some 83) (.bin .rem) [(.t 82), (.k (.c (.int .i64 12)))]
    .nil)))
  (.blk 4 (.cut [1, 4, 5, 7, 8, 9, 10, 11, 12, 13, 15, 16, 17, 83, 95] [0, 1, 2] [] (.seq (.reg 25 false (.op (some 96) (.bin .eql) [(.t 83), (.k (.c (.int .i64 0)))]
    (.op (some 95) .mov [(.t 96)]
    .nil)))
  (.cond (.t 95)
  .skip
  (.seq (.reg 26 false (.op (some 97) (.bin .eql) [(.t 83), (.k (.c (.int .i64 1)))]
    (.op (some 95) .mov [(.t 97)]
    .nil)))
  (.cond (.t 95)
  .skip
  (.seq (.reg 27 false (.op (some 98) (.bin .eql) [(.t 83), (.k (.c (.int .i64 2)))]
    (.op (some 95) .mov [(.t 98)]
    .nil)))
  (.cond (.t 95)
  .skip
  (.reg 28 false (.op (some 99) (.bin .eql) [(.t 83), (.k (.c (.int .i64 3)))]
    (.op (some 95) .mov [(.t 99)]
    .nil)))))))))
  jacquardlaw3_Small_p7))))
def jacquardlaw3_Small_p5 : IC :=
  (.reg 15 false (.op (some 58) .mov [(.t 13)]
    (.op (some 59) (.bin .sub) [(.t 58), (.k (.c (.int .i64 1)))]
    (.op (some 13) .mov [(.t 59)]
    .nil))))
def jacquardlaw3_Small_b1 : IC :=
  (.seq (.seq (.reg 14 false (.op (some 51) .mov [(.t 13)]
    (.op (some 52) (.bin .gtr) [(.t 51), (.k (.c (.int .i64 0)))]
    (.op (some 53) .mov [(.t 52)]
    (.sc 53 true (.op (some 54) .mov [(.t 10)]
    (.op (some 55) .mov [(.t 1)]
    (.op (some 56) (.bin .lss) [(.t 54), (.t 55)]
    .nil))) 56 57 false
    .nil)))))
  (.cond (.t 57)
  .skip
  (.exit 2)))
  (.seq (.blk 3 (.seq (.reg 16 false (.op (some 60) .mov [(.t 7)]
    (.op (some 61) (.callv [(.i .i64)]) [(.t 60)]
    (.op (some 14) .mov [(.t 61)]
    .nil))))
  (.seq (.reg 17 false (.op (some 62) .mov [(.t 14)]
    (.op (some 63) (.bin .shr) [(.t 62), (.k (.c (.int .u64 4)))]
    (.op (some 64) .mov [(.t 9)]
    (.op (some 65) (.bin .rem) [(.t 63), (.t 64)]
    (.op (some 66) (.bin .add) [(.k (.c (.int .i64 120))), (.t 65)]
    (.op (some 15) .mov [(.t 66)]
    .nil)))))))
  (.seq (.reg 18 false (.op (some 67) .mov [(.t 14)]
    (.op (some 68) (.bin .shr) [(.t 67), (.k (.c (.int .u64 6)))]
    (.op (some 69) (.bin .rem) [(.t 68), (.k (.c (.int .i64 3)))]
    (.op (some 70) (.build ([Cell.int .i64 0, Cell.int .i64 0]) [(0, 1), (1, 1)]) [(.k (.c (.int .i64 (-1)))), (.t 69)]
    (.al 16 2 ([Cell.int .i64 0, Cell.int .i64 0])
    (.op none (.stAll (.slot 2) 2) [(.t 16), (.t 70)]
    .nil)))))))
  (.cut [1, 4, 5, 7, 8, 9, 10, 11, 12, 13, 14, 15, 16] [0, 1, 2] [] (.seq (.reg 19 false (.op (some 71) .mov [(.t 14)]
    (.op (some 72) (.bin .shr) [(.t 71), (.k (.c (.int .u64 8)))]
    (.op (some 73) (.bin .rem) [(.t 72), (.k (.c (.int .i64 3)))]
    (.op (some 74) (.bin .eql) [(.t 73), (.k (.c (.int .i64 0)))]
    .nil)))))
  (.cond (.t 74)
  (.reg 20 false (.op (some 75) .mov [(.t 14)]
    (.op (some 76) (.bin .shr) [(.t 75), (.k (.c (.int .u64 10)))]
    (.op (some 77) (.bin .and) [(.t 76), (.k (.c (.int .i64 1)))]
    (.op (some 78) (.build ([Cell.int .i64 0, Cell.int .i64 0]) [(0, 1)]) [(.t 77)]
    (.op none (.stAll (.slot 2) 2) [(.t 16), (.t 78)]
    .nil))))))
  .skip))
  jacquardlaw3_Small_p6)))))
  jacquardlaw3_Small_p5))
def jacquardlaw3_Small_p4 : IC :=
  (.reg 44 false (.op (some 148) (.addr 2) [(.t 5)]
    (.op (some 149) (.ld (.slot 1) .any) [(.t 148)]
    (.op (some 150) .mov [(.t 12)]
    (.op (some 151) (.lit 1 1 ([Cell.nils]) [(0, 1)]) [(.t 150)]
    (.op (some 152) (.app 1 24) [(.t 149), (.t 151)]
    (.op (some 153) (.addr 2) [(.t 5)]
    (.op none (.st (.slot 1)) [(.t 153), (.t 152)]
    .nil))))))))
def jacquardlaw3_Small_p3 : IC :=
  (.reg 11 false (.op (some 45) .mov [(.t 11)]
    (.op (some 46) (.bin .add) [(.t 45), (.k (.c (.int .i64 1)))]
    (.op (some 11) .mov [(.t 46)]
    .nil))))
def jacquardlaw3_Small_b2 : IC :=
  (.seq (.seq (.reg 10 false (.op (some 42) .mov [(.t 11)]
    (.op (some 43) .mov [(.t 8)]
    (.op (some 44) (.bin .lss) [(.t 42), (.t 43)]
    .nil))))
  (.cond (.t 44)
  .skip
  (.exit 0)))
  (.seq (.blk 1 (.seq (.reg 12 false (.op (some 12) .mov [(.k (.c .nils))]
    .nil))
  (.seq (.seq (.reg 13 false (.op (some 47) .mov [(.t 7)]
    (.op (some 48) (.callv [(.i .i64)]) [(.t 47)]
    (.op (some 49) (.bin .rem) [(.t 48), (.k (.c (.int .i64 3)))]
    (.op (some 50) (.bin .add) [(.t 49), (.k (.c (.int .i64 1)))]
    (.op (some 13) .mov [(.t 50)]
    .nil))))))
  (.blk 2 (.loop [1, 4, 5, 7, 8, 9, 10, 11, 12, 13] [0, 1] [(3, [1, 4, 5, 7, 8, 9, 10, 11, 12], [0, 1])] jacquardlaw3_Small_b1)))
  jacquardlaw3_Small_p4)))
  jacquardlaw3_Small_p3))
def jacquardlaw3_Small_p2 : IC :=
  (.seq (.seq (.reg 45 false (.op (some 154) .mov [(.t 7)]
    (.op (some 155) (.callv [(.i .i64)]) [(.t 154)]
    (.op (some 18) .mov [(.t 155)]
    .nil))))
  (.seq (.reg 46 false (.op (some 156) .mov [(.t 18)]
    (.op (some 157) (.bin .rem) [(.t 156), (.k (.c (.int .i64 3)))]
    (.op (some 158) (.bin .eql) [(.t 157), (.k (.c (.int .i64 0)))]
    .nil))))
  (.cond (.t 158)
  (.reg 47 false (.op (some 159) .mov [(.t 18)]
    (.op (some 160) (.bin .quo) [(.t 159), (.k (.c (.int .i64 3)))]
    (.op (some 161) (.bin .rem) [(.t 160), (.k (.c (.int .i64 2)))]
    (.op (some 162) (.bin .add) [(.t 161), (.k (.c (.int .i64 1)))]
    (.op (some 163) .mov [(.t 18)]
    (.op (some 164) (.bin .shr) [(.t 163), (.k (.c (.int .u64 3)))]
    (.op (some 165) (.bin .and) [(.t 164), (.k (.c (.int .i64 1)))]
    (.op (some 166) .mov [(.t 18)]
    (.op (some 167) (.bin .shr) [(.t 166), (.k (.c (.int .u64 4)))]
    (.op (some 168) (.bin .and) [(.t 167), (.k (.c (.int .i64 1)))]
    (.op (some 169) (.build ([Cell.int .i64 0, Cell.int .i64 0, Cell.int .i64 0, Cell.int .i64 0]) [(0, 1), (1, 1), (3, 1)]) [(.k (.c (.int .i64 0))), (.t 165), (.t 168)]
    (.op (some 170) (.bslice 4 1 ([Cell.int .i64 0, Cell.int .i64 0, Cell.int .i64 0, Cell.int .i64 0]) [(0, 4)]) [(.t 169)]
    (.op (some 171) .mov [(.t 18)]
    (.op (some 172) (.bin .shr) [(.t 171), (.k (.c (.int .u64 5)))]
    (.op (some 173) (.bin .rem) [(.t 172), (.k (.c (.int .i64 3)))]
    (.op (some 174) (.build ([Cell.int .i64 0, Cell.int .i64 0, Cell.int .i64 0, Cell.int .i64 0]) [(0, 1), (2, 1), (3, 1)]) [(.k (.c (.int .i64 (-1)))), (.k (.c (.int .i64 120))), (.t 173)]
    (.op (some 175) .mov [(.t 18)]
    (.op (some 176) (.bin .shr) [(.t 175), (.k (.c (.int .u64 7)))]
    (.op (some 177) (.bin .and) [(.t 176), (.k (.c (.int .i64 1)))]
    (.op (some 178) (.build ([Cell.int .i64 0, Cell.int .i64 0, Cell.int .i64 0, Cell.int .i64 0]) [(0, 1), (1, 1), (3, 1)]) [(.k (.c (.int .i64 1))), (.k (.c (.int .i64 0))), (.t 177)]
    (.op (some 179) (.bslice 4 2 (List.replicate 8 (Cell.int .i64 0)) [(0, 4), (4, 4)]) [(.t 174), (.t 178)]
    (.op (some 180) (.bslice 1 2 ([Cell.nils, Cell.nils]) [(0, 1), (1, 1)]) [(.t 170), (.t 179)]
    (.op (some 181) (.build ([Cell.int .i64 0, Cell.nils]) [(0, 1), (1, 1)]) [(.t 162), (.t 180)]
    (.op (some 182) (.addr 3) [(.t 5)]
    (.op none (.stN (.slot 1) 2) [(.t 182), (.t 181)]
    .nil))))))))))))))))))))))))))
  .skip)))
  (.seq (.reg 48 false (.op (some 183) (.ldAll (.slot 1) 5) [(.t 5)]
    (.op none (.stAll (.slot 0) 5) [(.t 4), (.t 183)]
    .nil)))
  .ret))
def jacquardlaw3_Small_p1 : IC :=
  (.seq (.reg 8 false (.op (some 10) .mov [(.k (.c (.int .i64 0)))]
    .nil))
  (.seq (.seq (.reg 9 false (.op (some 11) .mov [(.k (.c (.int .i64 0)))]
    .nil))
  (.blk 0 (.loop [1, 4, 5, 7, 8, 9, 10, 11] [0, 1] [(1, [4, 5, 7], [0, 1])] jacquardlaw3_Small_b2)))
  jacquardlaw3_Small_p2))
def jacquardlaw3_Small : Fn := { np := 2, nt := 184, ns := 3, res := [.all (.slot 0) 4 5], gc := false, code :=
  (.seq (.reg 0 false (.op (some 2) .boxH [(.t 0)]
    (.al 4 0 ([Cell.str (ByteArray.mk #[]), Cell.nils, Cell.nils, Cell.int .i64 0, Cell.nils])
    .nil)))
  (.seq (.reg 1 false (.op (some 19) (.build ([Cell.str (ByteArray.mk #[]), Cell.nils, Cell.nils, Cell.int .i64 0, Cell.nils]) [(0, 1)]) [(.k (.c (.str (ByteArray.mk #[116]))))]
    (.al 5 1 ([Cell.str (ByteArray.mk #[]), Cell.nils, Cell.nils, Cell.int .i64 0, Cell.nils])
    (.op none (.stAll (.slot 1) 5) [(.t 5), (.t 19)]
    .nil))))
  (.seq (.reg 2 false (.op (some 6) (.allocH ([Cell.int .i64 0])) []
    (.op none (.st .heap) [(.t 6), (.k (.c (.int .i64 0)))]
    .nil)))
  (.seq (.reg 3 false (.op (some 20) (.mkfn 115) [(.t 6), (.t 2)]
    (.op (some 7) .mov [(.t 20)]
    .nil)))
  (.seq (.reg 4 false (.op (some 21) .mov [(.t 7)]
    (.op (some 22) (.callv [(.i .i64)]) [(.t 21)]
    (.op (some 23) (.bin .rem) [(.t 22), (.k (.c (.int .i64 2)))]
    (.op (some 24) (.bin .add) [(.t 23), (.k (.c (.int .i64 2)))]
    (.op (some 8) .mov [(.t 24)]
    .nil))))))
  (.seq (.reg 5 false (.op (some 25) .mov [(.t 7)]
    (.op (some 26) (.callv [(.i .i64)]) [(.t 25)]
    (.op (some 27) (.bin .rem) [(.t 26), (.k (.c (.int .i64 2)))]
    (.op (some 28) (.bin .add) [(.t 27), (.k (.c (.int .i64 2)))]
    (.op (some 9) .mov [(.t 28)]
    .nil))))))
  (.cut [1, 4, 5, 7, 8, 9] [0, 1] [] (.seq (.reg 6 false (.op (some 29) .mov [(.t 7)]
    (.op (some 30) (.callv [(.i .i64)]) [(.t 29)]
    (.op (some 31) (.bin .rem) [(.t 30), (.k (.c (.int .i64 4)))]
    (.op (some 32) (.bin .eql) [(.t 31), (.k (.c (.int .i64 0)))]
    .nil)))))
  (.cond (.t 32)
  (.reg 7 true (.op (some 33) (.addr 1) [(.t 5)]
    (.op (some 34) (.ld (.slot 1) .any) [(.t 33)]
    (.op (some 35) .mov [(.t 7)]
    (.op (some 36) (.callv [(.i .i64)]) [(.t 35)]
    (.op (some 37) (.bin .rem) [(.t 36), (.k (.c (.int .i64 3)))]
    (.op (some 38) (.build ([Cell.int .i64 0, Cell.int .i64 0]) [(0, 1), (1, 1)]) [(.k (.c (.int .i64 120))), (.t 37)]
    (.op (some 39) (.lit 2 1 ([Cell.int .i64 0, Cell.int .i64 0]) [(0, 2)]) [(.t 38)]
    (.op (some 40) (.app 2 16) [(.t 34), (.t 39)]
    (.op (some 41) (.addr 1) [(.t 5)]
    (.op none (.st (.slot 1)) [(.t 41), (.t 40)]
    .nil)))))))))))
  .skip))
  jacquardlaw3_Small_p1))))))) }

/- jacquard/jacquardlaw3.Small$1: 115 -/
def jacquardlaw3_Small_1 : Fn := { np := 2, nt := 15, ns := 0, res := [.t 2 (.i .i64)], gc := false, code :=
  (.seq (.reg 0 false (.op (some 2) .mov [(.k (.c (.int .i64 0)))]
    .nil))
  (.seq (.reg 1 false (.op (some 3) (.ld .heap (.i .i64)) [(.t 0)]
    (.op (some 4) (.bin .add) [(.t 3), (.k (.c (.int .i64 1)))]
    (.op none (.st .heap) [(.t 0), (.t 4)]
    .nil))))
  (.seq (.seq (.reg 2 false (.op (some 5) (.ld .heap (.i .i64)) [(.t 0)]
    (.op (some 6) (.ld .heap .any) [(.t 1)]
    (.op (some 7) .len [(.t 6)]
    (.op (some 8) (.bin .gtr) [(.t 5), (.t 7)]
    .nil)))))
  (.cond (.t 8)
  (.seq (.reg 3 false (.op (some 2) .mov [(.k (.c (.int .i64 0)))]
    .nil))
  .ret)
  .skip))
  (.seq (.reg 4 false (.op (some 9) (.ld .heap .any) [(.t 1)]
    (.op (some 10) (.ld .heap (.i .i64)) [(.t 0)]
    (.op (some 11) (.bin .sub) [(.t 10), (.k (.c (.int .i64 1)))]
    (.op (some 12) (.idxS 1) [(.t 9), (.t 11)]
    (.op (some 13) (.ld .heap (.i .i64)) [(.t 12)]
    (.op (some 14) (.bin .and) [(.t 13), (.k (.c (.int .i64 65535)))]
    (.op (some 2) .mov [(.t 14)]
    .nil))))))))
  .ret)))) }


end Jq

/- What a function needs of an environment. -/
namespace Jq
open Go

structure jacquardlaw3_Small_1_In (E : Env) : Prop where
  fn : E.fn 115 = some jacquardlaw3_Small_1

structure jacquardlaw3_Small_In (E : Env) : Prop where
  fn : E.fn 97 = some jacquardlaw3_Small
  c115 : jacquardlaw3_Small_1_In E

end Jq

namespace Jq
open Go


end Jq

/- What a function needs of an environment. -/
namespace Jq
open Go


end Jq

namespace Jq
open Go

/- jacquard/jacquardref2.Do: 93 -/
def jacquardref2_Do : Fn := { np := 3, nt := 81, ns := 0, res := [.t 6 (.i .i64), .t 7 .b], gc := false, code :=
  (.seq (.reg 0 false (.op (some 6) .mov [(.k (.c (.int .i64 0)))]
    (.op (some 7) .mov [(.k (.c (.bool false)))]
    .nil)))
  (.seq (.reg 1 false (.op (some 10) .mov [(.t 2)]
    (.op (some 11) (.conv .u64) [(.t 10)]
    (.op (some 12) (.bin .rem) [(.t 11), (.k (.c (.int .u64 64)))]
    (.op (some 8) .mov [(.t 12)]
    .nil)))))
  (.seq (.reg 2 false (.op (some 9) .mov [(.k (.c (.bool false)))]
    .nil))
  (.seq (.seq (.reg 3 false (.op (some 13) .mov [(.t 0)]
    .nil))
  (.blk 0 (.seq (.reg 5 false (.op (some 15) (.bin .eql) [(.t 13), (.k (.c (.int .i64 1)))]
    (.op (some 14) .mov [(.t 15)]
    .nil)))
  (.cond (.t 14)
  (.seq (.reg 6 false (.op (some 16) .mov [(.t 1)]
    (.op (some 17) (.conv .u64) [(.t 16)]
    (.op (some 18) .mov [(.t 2)]
    (.op (some 19) (.conv .u64) [(.t 18)]
    (.op (some 20) (.bin .add) [(.t 17), (.t 19)]
    (.op (some 21) (.conv .i64) [(.t 20)]
    (.op (some 6) .mov [(.t 21)]
    (.op (some 7) .mov [(.k (.c (.bool true)))]
    .nil)))))))))
  .ret)
  (.seq (.reg 7 false (.op (some 23) (.bin .eql) [(.t 13), (.k (.c (.int .i64 2)))]
    (.op (some 22) .mov [(.t 23)]
    .nil)))
  (.cond (.t 22)
  (.seq (.reg 8 false (.op (some 24) .mov [(.t 1)]
    (.op (some 25) (.conv .u64) [(.t 24)]
    (.op (some 26) .mov [(.t 2)]
    (.op (some 27) (.conv .u64) [(.t 26)]
    (.op (some 28) (.bin .sub) [(.t 25), (.t 27)]
    (.op (some 29) (.conv .i64) [(.t 28)]
    (.op (some 6) .mov [(.t 29)]
    (.op (some 7) .mov [(.k (.c (.bool true)))]
    .nil)))))))))
  .ret)
  (.seq (.reg 9 false (.op (some 31) (.bin .eql) [(.t 13), (.k (.c (.int .i64 3)))]
    (.op (some 30) .mov [(.t 31)]
    .nil)))
  (.cond (.t 30)
  (.seq (.reg 10 false (.op (some 32) .mov [(.t 1)]
    (.op (some 33) (.conv .u64) [(.t 32)]
    (.op (some 34) .mov [(.t 2)]
    (.op (some 35) (.conv .u64) [(.t 34)]
    (.op (some 36) (.bin .mul) [(.t 33), (.t 35)]
    (.op (some 37) (.conv .i64) [(.t 36)]
    (.op (some 6) .mov [(.t 37)]
    (.op (some 7) .mov [(.k (.c (.bool true)))]
    .nil)))))))))
  .ret)
  (.seq (.reg 11 false (.op (some 39) (.bin .eql) [(.t 13), (.k (.c (.int .i64 4)))]
    (.op (some 38) .mov [(.t 39)]
    .nil)))
  (.cond (.t 38)
  (.seq (.reg 12 false (.op (some 40) .mov [(.t 1)]
    (.op (some 41) .mov [(.t 2)]
    (.op (some 42) (.bin .and) [(.t 40), (.t 41)]
    (.op (some 6) .mov [(.t 42)]
    (.op (some 7) .mov [(.k (.c (.bool true)))]
    .nil))))))
  .ret)
  (.seq (.reg 13 false (.op (some 44) (.bin .eql) [(.t 13), (.k (.c (.int .i64 5)))]
    (.op (some 43) .mov [(.t 44)]
    .nil)))
  (.cond (.t 43)
  (.seq (.reg 14 false (.op (some 45) .mov [(.t 1)]
    (.op (some 46) .mov [(.t 2)]
    (.op (some 47) (.bin .or) [(.t 45), (.t 46)]
    (.op (some 6) .mov [(.t 47)]
    (.op (some 7) .mov [(.k (.c (.bool true)))]
    .nil))))))
  .ret)
  (.seq (.reg 15 false (.op (some 49) (.bin .eql) [(.t 13), (.k (.c (.int .i64 6)))]
    (.op (some 48) .mov [(.t 49)]
    .nil)))
  (.cond (.t 48)
  (.seq (.reg 16 false (.op (some 50) .mov [(.t 1)]
    (.op (some 51) .mov [(.t 2)]
    (.op (some 52) (.bin .xor) [(.t 50), (.t 51)]
    (.op (some 6) .mov [(.t 52)]
    (.op (some 7) .mov [(.k (.c (.bool true)))]
    .nil))))))
  .ret)
  (.seq (.reg 17 false (.op (some 54) (.bin .eql) [(.t 13), (.k (.c (.int .i64 7)))]
    (.op (some 53) .mov [(.t 54)]
    .nil)))
  (.cond (.t 53)
  (.seq (.reg 18 false (.op (some 55) .mov [(.t 1)]
    (.op (some 56) (.conv .u64) [(.t 55)]
    (.op (some 57) .mov [(.t 8)]
    (.op (some 58) (.bin .shl) [(.t 56), (.t 57)]
    (.op (some 59) (.conv .i64) [(.t 58)]
    (.op (some 6) .mov [(.t 59)]
    (.op (some 7) .mov [(.k (.c (.bool true)))]
    .nil))))))))
  .ret)
  (.seq (.reg 19 false (.op (some 61) (.bin .eql) [(.t 13), (.k (.c (.int .i64 8)))]
    (.op (some 60) .mov [(.t 61)]
    .nil)))
  (.cond (.t 60)
  (.seq (.reg 20 false (.op (some 62) .mov [(.t 1)]
    (.op (some 63) .mov [(.t 8)]
    (.op (some 64) (.bin .shr) [(.t 62), (.t 63)]
    (.op (some 6) .mov [(.t 64)]
    (.op (some 7) .mov [(.k (.c (.bool true)))]
    .nil))))))
  .ret)
  (.seq (.reg 21 false (.op (some 66) (.bin .eql) [(.t 13), (.k (.c (.int .i64 9)))]
    (.op (some 65) .mov [(.t 66)]
    .nil)))
  (.cond (.t 65)
  (.reg 22 false (.op (some 67) .mov [(.t 1)]
    (.op (some 68) .mov [(.t 2)]
    (.op (some 69) (.bin .eql) [(.t 67), (.t 68)]
    (.op (some 9) .mov [(.t 69)]
    .nil)))))
  (.seq (.reg 23 false (.op (some 71) (.bin .eql) [(.t 13), (.k (.c (.int .i64 10)))]
    (.op (some 70) .mov [(.t 71)]
    .nil)))
  (.cond (.t 70)
  (.reg 24 false (.op (some 72) .mov [(.t 1)]
    (.op (some 73) .mov [(.t 2)]
    (.op (some 74) (.bin .neq) [(.t 72), (.t 73)]
    (.op (some 9) .mov [(.t 74)]
    .nil)))))
  (.seq (.reg 25 false (.op (some 76) (.bin .eql) [(.t 13), (.k (.c (.int .i64 11)))]
    (.op (some 75) .mov [(.t 76)]
    .nil)))
  (.cond (.t 75)
  (.reg 26 false (.op (some 77) .mov [(.t 1)]
    (.op (some 78) .mov [(.t 2)]
    (.op (some 79) (.bin .lss) [(.t 77), (.t 78)]
    (.op (some 9) .mov [(.t 79)]
    .nil)))))
  (.seq (.reg 4 false (.op (some 6) .mov [(.k (.c (.int .i64 0)))]
    (.op (some 7) .mov [(.k (.c (.bool false)))]
    .nil)))
  .ret)))))))))))))))))))))))))
  (.seq (.seq (.reg 27 false (.op (some 80) .mov [(.t 9)]
    .nil))
  (.cond (.t 80)
  (.seq (.reg 28 false (.op (some 6) .mov [(.k (.c (.int .i64 1)))]
    (.op (some 7) .mov [(.k (.c (.bool true)))]
    .nil)))
  .ret)
  .skip))
  (.seq (.reg 29 false (.op (some 6) .mov [(.k (.c (.int .i64 0)))]
    (.op (some 7) .mov [(.k (.c (.bool true)))]
    .nil)))
  .ret)))))) }

/- jacquard/jacquardref2.Locs: 121 -/
def jacquardref2_Locs_b1 : IC :=
  (.seq (.seq (.reg 3 false (.op (some 11) .mov [(.t 4)]
    (.op (some 12) (.addr 1) [(.t 1)]
    (.op (some 13) (.ld (.slot 0) .any) [(.t 12)]
    (.op (some 14) .len [(.t 13)]
    (.op (some 15) (.bin .lss) [(.t 11), (.t 14)]
    .nil))))))
  (.cond (.t 15)
  .skip
  (.exit 0)))
  (.seq (.blk 1 (.reg 5 false (.op (some 18) (.addr 1) [(.t 1)]
    (.op (some 19) (.ld (.slot 0) .any) [(.t 18)]
    (.op (some 20) .mov [(.t 4)]
    (.op (some 21) (.idxS 2) [(.t 19), (.t 20)]
    (.op (some 22) (.addr 0) [(.t 21)]
    (.op (some 23) (.ld .heap (.i .i64)) [(.t 22)]
    (.op (some 24) (.bin .and) [(.t 23), (.k (.c (.int .i64 255)))]
    (.op (some 25) (.idxA 256 1) [(.t 3), (.t 24)]
    (.op none (.st (.slot 1)) [(.t 25), (.k (.c (.bool true)))]
    .nil)))))))))))
  (.reg 4 false (.op (some 16) .mov [(.t 4)]
    (.op (some 17) (.bin .add) [(.t 16), (.k (.c (.int .i64 1)))]
    (.op (some 4) .mov [(.t 17)]
    .nil))))))
def jacquardref2_Locs_b2 : IC :=
  (.seq (.seq (.reg 10 false (.op (some 33) .mov [(.t 6)]
    (.op (some 34) (.addr 2) [(.t 1)]
    (.op (some 35) (.ld (.slot 0) .any) [(.t 34)]
    (.op (some 36) .mov [(.t 5)]
    (.op (some 37) (.idxS 1) [(.t 35), (.t 36)]
    (.op (some 38) (.ld .heap .any) [(.t 37)]
    (.op (some 39) .len [(.t 38)]
    (.op (some 40) (.bin .lss) [(.t 33), (.t 39)]
    .nil)))))))))
  (.cond (.t 40)
  .skip
  (.exit 4)))
  (.seq (.blk 5 (.reg 12 false (.op (some 43) (.addr 2) [(.t 1)]
    (.op (some 44) (.ld (.slot 0) .any) [(.t 43)]
    (.op (some 45) .mov [(.t 5)]
    (.op (some 46) (.idxS 1) [(.t 44), (.t 45)]
    (.op (some 47) (.ld .heap .any) [(.t 46)]
    (.op (some 48) .mov [(.t 6)]
    (.op (some 49) (.idxS 9) [(.t 47), (.t 48)]
    (.op (some 50) (.addr 2) [(.t 49)]
    (.op (some 51) (.ld .heap (.i .i64)) [(.t 50)]
    (.op (some 52) (.bin .and) [(.t 51), (.k (.c (.int .i64 255)))]
    (.op (some 53) (.idxA 256 1) [(.t 3), (.t 52)]
    (.op none (.st (.slot 1)) [(.t 53), (.k (.c (.bool true)))]
    .nil))))))))))))))
  (.reg 11 false (.op (some 41) .mov [(.t 6)]
    (.op (some 42) (.bin .add) [(.t 41), (.k (.c (.int .i64 1)))]
    (.op (some 6) .mov [(.t 42)]
    .nil))))))
def jacquardref2_Locs_p3 : IC :=
  (.reg 8 false (.op (some 31) .mov [(.t 5)]
    (.op (some 32) (.bin .add) [(.t 31), (.k (.c (.int .i64 1)))]
    (.op (some 5) .mov [(.t 32)]
    .nil))))
def jacquardref2_Locs_b3 : IC :=
  (.seq (.seq (.reg 7 false (.op (some 26) .mov [(.t 5)]
    (.op (some 27) (.addr 2) [(.t 1)]
    (.op (some 28) (.ld (.slot 0) .any) [(.t 27)]
    (.op (some 29) .len [(.t 28)]
    (.op (some 30) (.bin .lss) [(.t 26), (.t 29)]
    .nil))))))
  (.cond (.t 30)
  .skip
  (.exit 2)))
  (.seq (.blk 3 (.seq (.reg 9 false (.op (some 6) .mov [(.k (.c (.int .i64 0)))]
    .nil))
  (.blk 4 (.loop [1, 3, 5, 6] [0, 1] [(5, [1, 3, 5], [0, 1])] jacquardref2_Locs_b2))))
  jacquardref2_Locs_p3))
def jacquardref2_Locs_b4 : IC :=
  (.seq (.seq (.reg 17 false (.op (some 62) .mov [(.t 8)]
    (.op (some 63) (.addr 3) [(.t 1)]
    (.op (some 64) (.addr 1) [(.t 63)]
    (.op (some 65) (.ld (.slot 0) .any) [(.t 64)]
    (.op (some 66) .mov [(.t 7)]
    (.op (some 67) (.idxS 1) [(.t 65), (.t 66)]
    (.op (some 68) (.ld .heap .any) [(.t 67)]
    (.op (some 69) .len [(.t 68)]
    (.op (some 70) (.bin .lss) [(.t 62), (.t 69)]
    .nil))))))))))
  (.cond (.t 70)
  .skip
  (.exit 8)))
  (.seq (.blk 9 (.reg 19 false (.op (some 73) (.addr 3) [(.t 1)]
    (.op (some 74) (.addr 1) [(.t 73)]
    (.op (some 75) (.ld (.slot 0) .any) [(.t 74)]
    (.op (some 76) .mov [(.t 7)]
    (.op (some 77) (.idxS 1) [(.t 75), (.t 76)]
    (.op (some 78) (.ld .heap .any) [(.t 77)]
    (.op (some 79) .mov [(.t 8)]
    (.op (some 80) (.idxS 4) [(.t 78), (.t 79)]
    (.op (some 81) (.addr 2) [(.t 80)]
    (.op (some 82) (.ld .heap (.i .i64)) [(.t 81)]
    (.op (some 83) (.bin .and) [(.t 82), (.k (.c (.int .i64 255)))]
    (.op (some 84) (.idxA 256 1) [(.t 3), (.t 83)]
    (.op none (.st (.slot 1)) [(.t 84), (.k (.c (.bool true)))]
    .nil)))))))))))))))
  (.reg 18 false (.op (some 71) .mov [(.t 8)]
    (.op (some 72) (.bin .add) [(.t 71), (.k (.c (.int .i64 1)))]
    (.op (some 8) .mov [(.t 72)]
    .nil))))))
def jacquardref2_Locs_p5 : IC :=
  (.reg 15 false (.op (some 60) .mov [(.t 7)]
    (.op (some 61) (.bin .add) [(.t 60), (.k (.c (.int .i64 1)))]
    (.op (some 7) .mov [(.t 61)]
    .nil))))
def jacquardref2_Locs_b5 : IC :=
  (.seq (.seq (.reg 14 false (.op (some 54) .mov [(.t 7)]
    (.op (some 55) (.addr 3) [(.t 1)]
    (.op (some 56) (.addr 1) [(.t 55)]
    (.op (some 57) (.ld (.slot 0) .any) [(.t 56)]
    (.op (some 58) .len [(.t 57)]
    (.op (some 59) (.bin .lss) [(.t 54), (.t 58)]
    .nil)))))))
  (.cond (.t 59)
  .skip
  (.exit 6)))
  (.seq (.blk 7 (.seq (.reg 16 false (.op (some 8) .mov [(.k (.c (.int .i64 0)))]
    .nil))
  (.blk 8 (.loop [1, 3, 7, 8] [0, 1] [(9, [1, 3, 7], [0, 1])] jacquardref2_Locs_b4))))
  jacquardref2_Locs_p5))
def jacquardref2_Locs_b6 : IC :=
  (.seq (.seq (.reg 22 false (.op (some 85) .mov [(.t 10)]
    (.op (some 86) (.bin .leq) [(.t 85), (.k (.c (.int .i32 122)))]
    .nil)))
  (.cond (.t 86)
  .skip
  (.exit 10)))
  (.seq (.blk 11 (.seq (.reg 24 false (.op (some 89) .mov [(.t 10)]
    (.op (some 90) (.idxA 256 1) [(.t 3), (.t 89)]
    (.op (some 91) (.ld (.slot 1) .b) [(.t 90)]
    .nil))))
  (.cond (.t 91)
  (.reg 25 false (.op (some 92) .mov [(.t 9)]
    (.op (some 93) .mov [(.t 10)]
    (.op (some 94) (.conv .u8) [(.t 93)]
    (.op (some 95) (.lit 1 1 ([Cell.int .u8 0]) [(0, 1)]) [(.t 94)]
    (.op (some 96) (.app 1 1) [(.t 92), (.t 95)]
    (.op (some 9) .mov [(.t 96)]
    .nil)))))))
  .skip)))
  (.reg 23 false (.op (some 87) .mov [(.t 10)]
    (.op (some 88) (.bin .add) [(.t 87), (.k (.c (.int .i32 1)))]
    (.op (some 10) .mov [(.t 88)]
    .nil))))))
def jacquardref2_Locs_p6 : IC :=
  (.seq (.reg 26 false (.op (some 97) .mov [(.t 9)]
    (.op (some 2) .mov [(.t 97)]
    .nil)))
  .ret)
def jacquardref2_Locs_p4 : IC :=
  (.seq (.reg 20 false (.op (some 9) .mov [(.k (.c .nils))]
    .nil))
  (.seq (.seq (.reg 21 false (.op (some 10) .mov [(.k (.c (.int .i32 97)))]
    .nil))
  (.blk 10 (.loop [3, 9, 10] [1] [(11, [9], [])] jacquardref2_Locs_b6)))
  jacquardref2_Locs_p6))
def jacquardref2_Locs_p2 : IC :=
  (.seq (.seq (.reg 13 false (.op (some 7) .mov [(.k (.c (.int .i64 0)))]
    .nil))
  (.blk 6 (.loop [1, 3, 7] [0, 1] [(7, [3], [1])] jacquardref2_Locs_b5)))
  jacquardref2_Locs_p4)
def jacquardref2_Locs_p1 : IC :=
  (.seq (.seq (.reg 6 false (.op (some 5) .mov [(.k (.c (.int .i64 0)))]
    .nil))
  (.blk 2 (.loop [1, 3, 5] [0, 1] [(3, [1, 3], [0, 1])] jacquardref2_Locs_b3)))
  jacquardref2_Locs_p2)
def jacquardref2_Locs : Fn := { np := 1, nt := 98, ns := 2, res := [.t 2 .any], gc := false, code :=
  (.seq (.reg 0 false (.box 1 0 (.t 0)
    (.op (some 2) .mov [(.k (.c .nils))]
    .nil)))
  (.seq (.reg 1 false (.al 3 1 (List.replicate 256 (Cell.bool false))
    .nil))
  (.seq (.seq (.reg 2 false (.op (some 4) .mov [(.k (.c (.int .i64 0)))]
    .nil))
  (.blk 0 (.loop [1, 3, 4] [0, 1] [(1, [1, 3], [0, 1])] jacquardref2_Locs_b1)))
  jacquardref2_Locs_p1))) }


end Jq

/- What a function needs of an environment. -/
namespace Jq
open Go

structure jacquardref2_Locs_In (E : Env) : Prop where
  fn : E.fn 121 = some jacquardref2_Locs

structure jacquardref2_Do_In (E : Env) : Prop where
  fn : E.fn 93 = some jacquardref2_Do

end Jq

namespace Jq
open Go

/- jacquard/jacquardref6.Closure: 6 -/
def jacquardref6_Closure_b1 : IC :=
  (.seq (.seq (.reg 5 false (.op (some 11) .mov [(.t 4)]
    (.op (some 12) (.addr 0) [(.t 1)]
    (.op (some 13) (.ld .heap (.i .i64)) [(.t 12)]
    (.op (some 14) (.bin .lss) [(.t 11), (.t 13)]
    .nil)))))
  (.cond (.t 14)
  .skip
  (.exit 2)))
  (.seq (.blk 3 (.seq (.reg 7 false (.op (some 17) .mov [(.t 4)]
    (.op (some 18) .mov [(.t 3)]
    (.op (some 19) (.call 7 [.b]) [(.t 1), (.t 17), (.t 18)]
    .nil))))
  (.cond (.t 19)
  (.reg 8 true (.op (some 20) .mov [(.t 4)]
    (.op (some 21) .mov [(.t 4)]
    (.op (some 22) (.addr 1) [(.t 1)]
    (.op (some 23) (.idxA 64 1) [(.t 22), (.t 21)]
    (.op (some 24) (.ld .heap (.i .u64)) [(.t 23)]
    (.op (some 25) .mov [(.t 3)]
    (.op (some 26) (.addr 1) [(.t 1)]
    (.op (some 27) (.idxA 64 1) [(.t 26), (.t 25)]
    (.op (some 28) (.ld .heap (.i .u64)) [(.t 27)]
    (.op (some 29) (.bin .or) [(.t 24), (.t 28)]
    (.op (some 30) (.addr 1) [(.t 1)]
    (.op (some 31) (.idxA 64 1) [(.t 30), (.t 20)]
    (.op none (.st .heap) [(.t 31), (.t 29)]
    .nil))))))))))))))
  .skip)))
  (.reg 6 false (.op (some 15) .mov [(.t 4)]
    (.op (some 16) (.bin .add) [(.t 15), (.k (.c (.int .i64 1)))]
    (.op (some 4) .mov [(.t 16)]
    .nil))))))
def jacquardref6_Closure_p2 : IC :=
  (.reg 3 false (.op (some 9) .mov [(.t 3)]
    (.op (some 10) (.bin .add) [(.t 9), (.k (.c (.int .i64 1)))]
    (.op (some 3) .mov [(.t 10)]
    .nil))))
def jacquardref6_Closure_b2 : IC :=
  (.seq (.seq (.reg 2 false (.op (some 5) .mov [(.t 3)]
    (.op (some 6) (.addr 0) [(.t 1)]
    (.op (some 7) (.ld .heap (.i .i64)) [(.t 6)]
    (.op (some 8) (.bin .lss) [(.t 5), (.t 7)]
    .nil)))))
  (.cond (.t 8)
  .skip
  (.exit 0)))
  (.seq (.blk 1 (.seq (.reg 4 false (.op (some 4) .mov [(.k (.c (.int .i64 0)))]
    .nil))
  (.blk 2 (.loop [1, 2, 3, 4] [0] [(3, [1, 2, 3], [0])] jacquardref6_Closure_b1))))
  jacquardref6_Closure_p2))
def jacquardref6_Closure_p1 : IC :=
  (.seq (.reg 9 false (.op (some 32) (.ldAll .heap 65) [(.t 1)]
    (.op none (.stAll (.slot 0) 65) [(.t 2), (.t 32)]
    .nil)))
  .ret)
def jacquardref6_Closure : Fn := { np := 1, nt := 33, ns := 1, res := [.all (.slot 0) 2 65], gc := true, code :=
  (.seq (.reg 0 false (.op (some 1) .boxH [(.t 0)]
    (.al 2 0 ([Cell.int .i64 0] ++ List.replicate 64 (Cell.int .u64 0))
    .nil)))
  (.seq (.seq (.reg 1 false (.op (some 3) .mov [(.k (.c (.int .i64 0)))]
    .nil))
  (.blk 0 (.loop [1, 2, 3] [0] [(1, [1, 2], [0])] jacquardref6_Closure_b2)))
  jacquardref6_Closure_p1)) }

/- (*jacquard/jacquardref6.Rel).Has: 7 -/
def jacquardref6_Rel_Has : Fn := { np := 3, nt := 17, ns := 0, res := [.t 6 .b], gc := false, code :=
  (.seq (.reg 0 false (.op (some 6) .mov [(.k (.c (.bool false)))]
    .nil))
  (.seq (.reg 1 false (.op (some 7) .mov [(.t 0)]
    (.op (some 8) .mov [(.t 1)]
    (.op (some 9) .nilchk [(.t 7)]
    (.op (some 10) (.addr 1) [(.t 9)]
    (.op (some 11) (.idxA 64 1) [(.t 10), (.t 8)]
    (.op (some 12) (.ld .heap (.i .u64)) [(.t 11)]
    (.op (some 13) .mov [(.t 2)]
    (.op (some 14) (.bin .shr) [(.t 12), (.t 13)]
    (.op (some 15) (.bin .and) [(.t 14), (.k (.c (.int .u64 1)))]
    (.op (some 16) (.bin .eql) [(.t 15), (.k (.c (.int .u64 1)))]
    (.op (some 6) .mov [(.t 16)]
    .nil))))))))))))
  .ret)) }

/- (*jacquard/jacquardref6.Rel).Add: 13 -/
def jacquardref6_Rel_Add : Fn := { np := 3, nt := 20, ns := 0, res := [], gc := false, code :=
  (.reg 0 true (.op (some 6) .mov [(.t 0)]
    (.op (some 7) .mov [(.t 1)]
    (.op (some 8) .mov [(.t 0)]
    (.op (some 9) .mov [(.t 1)]
    (.op (some 10) .nilchk [(.t 8)]
    (.op (some 11) (.addr 1) [(.t 10)]
    (.op (some 12) (.idxA 64 1) [(.t 11), (.t 9)]
    (.op (some 13) (.ld .heap (.i .u64)) [(.t 12)]
    (.op (some 14) .mov [(.t 2)]
    (.op (some 15) (.bin .shl) [(.k (.c (.int .u64 1))), (.t 14)]
    (.op (some 16) (.bin .or) [(.t 13), (.t 15)]
    (.op (some 17) .nilchk [(.t 6)]
    (.op (some 18) (.addr 1) [(.t 17)]
    (.op (some 19) (.idxA 64 1) [(.t 18), (.t 7)]
    (.op none (.st .heap) [(.t 19), (.t 16)]
    .nil)))))))))))))))) }

/- jacquard/jacquardref6.Acyclic: 71 -/
def jacquardref6_Acyclic_b1 : IC :=
  (.seq (.seq (.reg 3 false (.op (some 7) .mov [(.t 4)]
    (.op (some 8) (.addr 0) [(.t 1)]
    (.op (some 9) (.ld (.slot 0) (.i .i64)) [(.t 8)]
    (.op (some 10) (.bin .lss) [(.t 7), (.t 9)]
    .nil)))))
  (.cond (.t 10)
  .skip
  (.exit 0)))
  (.seq (.blk 1 (.seq (.reg 5 false (.op (some 13) .mov [(.t 4)]
    (.op (some 14) .mov [(.t 4)]
    (.op (some 15) (.call 7 [.b]) [(.t 3), (.t 13), (.t 14)]
    .nil))))
  (.cond (.t 15)
  (.seq (.reg 6 false (.op (some 2) .mov [(.k (.c (.bool false)))]
    .nil))
  .ret)
  .skip)))
  (.reg 4 false (.op (some 11) .mov [(.t 4)]
    (.op (some 12) (.bin .add) [(.t 11), (.k (.c (.int .i64 1)))]
    (.op (some 4) .mov [(.t 12)]
    .nil))))))
def jacquardref6_Acyclic_p1 : IC :=
  (.seq (.reg 7 false (.op (some 2) .mov [(.k (.c (.bool true)))]
    .nil))
  .ret)
def jacquardref6_Acyclic : Fn := { np := 1, nt := 16, ns := 1, res := [.t 2 .b], gc := true, code :=
  (.seq (.reg 0 false (.box 1 0 (.t 0)
    (.op (some 2) .mov [(.k (.c (.bool false)))]
    .nil)))
  (.seq (.reg 1 false (.op (some 5) (.ldAll (.slot 0) 65) [(.t 1)]
    (.op (some 6) (.call 6 [.agg]) [(.t 5)]
    (.op (some 3) (.allocH ([Cell.int .i64 0] ++ List.replicate 64 (Cell.int .u64 0))) []
    (.op none (.stAll .heap 65) [(.t 3), (.t 6)]
    .nil)))))
  (.seq (.seq (.reg 2 false (.op (some 4) .mov [(.k (.c (.int .i64 0)))]
    .nil))
  (.blk 0 (.loop [1, 3, 4] [0] [(0, [2], []), (1, [], [])] jacquardref6_Acyclic_b1)))
  jacquardref6_Acyclic_p1))) }

/- jacquard/jacquardref6.Next: 81 -/
def jacquardref6_Next : Fn := { np := 3, nt := 49, ns := 4, res := [.all (.slot 2) 6 9, .t 7 .b], gc := false, code :=
  (.seq (.reg 0 false (.box 3 0 (.t 0)
    (.box 5 1 (.t 2)
    (.al 6 2 (List.replicate 9 (Cell.int .i64 0))
    (.op (some 7) .mov [(.k (.c (.bool false)))]
    .nil)))))
  (.seq (.seq (.reg 1 true (.op (some 9) (.ldAll (.slot 0) 3) [(.t 3)]
    (.op (some 10) .mov [(.t 1)]
    (.op (some 11) (.qcall 110 [.b]) [(.t 9), (.t 10)]
    (.op (some 12) (.un .not) [(.t 11)]
    (.op (some 13) .mov [(.t 12)]
    (.sc 13 false (.op (some 14) (.addr 0) [(.t 5)]
    (.op (some 15) (.ld (.slot 1) (.i .i64)) [(.t 14)]
    (.op (some 16) (.bin .lss) [(.t 15), (.k (.c (.int .i64 0)))]
    .nil))) 16 17 true
    (.op (some 18) .mov [(.t 17)]
    (.sc 18 false (.op (some 19) (.addr 0) [(.t 5)]
    (.op (some 20) (.ld (.slot 1) (.i .i64)) [(.t 19)]
    (.op (some 21) (.addr 2) [(.t 3)]
    (.op (some 22) (.ld (.slot 0) .any) [(.t 21)]
    (.op (some 23) .mov [(.t 1)]
    (.op (some 24) (.idxS 1) [(.t 22), (.t 23)]
    (.op (some 25) (.ld .heap .any) [(.t 24)]
    (.op (some 26) .len [(.t 25)]
    (.op (some 27) (.bin .geq) [(.t 20), (.t 26)]
    .nil))))))))) 27 28 true
    .nil)))))))))
  (.cond (.t 28)
  (.seq (.reg 2 false (.op (some 29) (.build (List.replicate 9 (Cell.int .i64 0)) []) []
    (.op none (.stAll (.slot 2) 9) [(.t 6), (.t 29)]
    (.op (some 7) .mov [(.k (.c (.bool false)))]
    .nil))))
  .ret)
  .skip))
  (.seq (.reg 3 true (.op (some 30) (.addr 2) [(.t 3)]
    (.op (some 31) (.ld (.slot 0) .any) [(.t 30)]
    (.op (some 32) .mov [(.t 1)]
    (.op (some 33) (.idxS 1) [(.t 31), (.t 32)]
    (.op (some 34) (.ld .heap .any) [(.t 33)]
    (.op (some 35) (.addr 0) [(.t 5)]
    (.op (some 36) (.ld (.slot 1) (.i .i64)) [(.t 35)]
    (.op (some 37) (.idxS 9) [(.t 34), (.t 36)]
    (.op (some 38) (.ldN .heap 9) [(.t 37)]
    (.al 8 3 (List.replicate 9 (Cell.int .i64 0))
    (.op none (.stAll (.slot 3) 9) [(.t 8), (.t 38)]
    .nil))))))))))))
  (.seq (.seq (.reg 4 false (.op (some 39) (.addr 0) [(.t 8)]
    (.op (some 40) (.ld (.slot 3) (.i .i64)) [(.t 39)]
    (.op (some 41) (.bin .eql) [(.t 40), (.k (.c (.int .i64 5)))]
    (.op (some 42) .mov [(.t 41)]
    (.sc 42 false (.op (some 43) (.addr 0) [(.t 8)]
    (.op (some 44) (.ld (.slot 3) (.i .i64)) [(.t 43)]
    (.op (some 45) (.bin .eql) [(.t 44), (.k (.c (.int .i64 6)))]
    .nil))) 45 46 true
    .nil))))))
  (.cond (.t 46)
  (.seq (.reg 5 false (.op (some 47) (.build (List.replicate 9 (Cell.int .i64 0)) []) []
    (.op none (.stAll (.slot 2) 9) [(.t 6), (.t 47)]
    (.op (some 7) .mov [(.k (.c (.bool false)))]
    .nil))))
  .ret)
  .skip))
  (.seq (.reg 6 false (.op (some 48) (.ldAll (.slot 3) 9) [(.t 8)]
    (.op none (.stAll (.slot 2) 9) [(.t 6), (.t 48)]
    (.op (some 7) .mov [(.k (.c (.bool true)))]
    .nil))))
  .ret))))) }

/- jacquard/jacquardref6.Reads: 85 -/
def jacquardref6_Reads : Fn := { np := 1, nt := 16, ns := 1, res := [.t 2 .b], gc := false, code :=
  (.seq (.reg 0 false (.box 1 0 (.t 0)
    (.op (some 2) .mov [(.k (.c (.bool false)))]
    .nil)))
  (.seq (.reg 1 false (.op (some 3) (.addr 2) [(.t 1)]
    (.op (some 4) (.ld (.slot 0) (.i .i64)) [(.t 3)]
    (.op (some 5) (.bin .eql) [(.t 4), (.k (.c (.int .i64 1)))]
    (.op (some 6) .mov [(.t 5)]
    (.sc 6 false (.op (some 7) (.addr 2) [(.t 1)]
    (.op (some 8) (.ld (.slot 0) (.i .i64)) [(.t 7)]
    (.op (some 9) (.bin .eql) [(.t 8), (.k (.c (.int .i64 4)))]
    .nil))) 9 10 true
    (.op (some 11) .mov [(.t 10)]
    (.sc 11 false (.op (some 12) (.addr 2) [(.t 1)]
    (.op (some 13) (.ld (.slot 0) (.i .i64)) [(.t 12)]
    (.op (some 14) (.bin .eql) [(.t 13), (.k (.c (.int .i64 5)))]
    .nil))) 14 15 true
    (.op (some 2) .mov [(.t 15)]
    .nil)))))))))
  .ret)) }

/- jacquard/jacquardref6.Writes: 86 -/
def jacquardref6_Writes : Fn := { np := 1, nt := 11, ns := 1, res := [.t 2 .b], gc := false, code :=
  (.seq (.reg 0 false (.box 1 0 (.t 0)
    (.op (some 2) .mov [(.k (.c (.bool false)))]
    .nil)))
  (.seq (.reg 1 false (.op (some 3) (.addr 2) [(.t 1)]
    (.op (some 4) (.ld (.slot 0) (.i .i64)) [(.t 3)]
    (.op (some 5) (.bin .eql) [(.t 4), (.k (.c (.int .i64 2)))]
    (.op (some 6) .mov [(.t 5)]
    (.sc 6 false (.op (some 7) (.addr 2) [(.t 1)]
    (.op (some 8) (.ld (.slot 0) (.i .i64)) [(.t 7)]
    (.op (some 9) (.bin .eql) [(.t 8), (.k (.c (.int .i64 4)))]
    .nil))) 9 10 true
    (.op (some 2) .mov [(.t 10)]
    .nil)))))))
  .ret)) }

/- jacquard/jacquardref6.Fences: 87 -/
def jacquardref6_Fences : Fn := { np := 1, nt := 16, ns := 1, res := [.t 2 .b], gc := false, code :=
  (.seq (.reg 0 false (.box 1 0 (.t 0)
    (.op (some 2) .mov [(.k (.c (.bool false)))]
    .nil)))
  (.seq (.reg 1 false (.op (some 3) (.addr 2) [(.t 1)]
    (.op (some 4) (.ld (.slot 0) (.i .i64)) [(.t 3)]
    (.op (some 5) (.bin .eql) [(.t 4), (.k (.c (.int .i64 3)))]
    (.op (some 6) .mov [(.t 5)]
    (.sc 6 false (.op (some 7) (.addr 2) [(.t 1)]
    (.op (some 8) (.ld (.slot 0) (.i .i64)) [(.t 7)]
    (.op (some 9) (.bin .eql) [(.t 8), (.k (.c (.int .i64 4)))]
    .nil))) 9 10 true
    (.op (some 11) .mov [(.t 10)]
    (.sc 11 false (.op (some 12) (.addr 2) [(.t 1)]
    (.op (some 13) (.ld (.slot 0) (.i .i64)) [(.t 12)]
    (.op (some 14) (.bin .eql) [(.t 13), (.k (.c (.int .i64 5)))]
    .nil))) 14 15 true
    (.op (some 2) .mov [(.t 15)]
    .nil)))))))))
  .ret)) }

/- jacquard/jacquardref6.Inits: 89 -/
def jacquardref6_Inits_b1 : IC :=
  (.seq (.seq (.reg 3 false (.op (some 5) .mov [(.t 4)]
    (.op (some 6) (.addr 0) [(.t 1)]
    (.op (some 7) (.ld (.slot 0) .any) [(.t 6)]
    (.op (some 8) .len [(.t 7)]
    (.op (some 9) (.bin .lss) [(.t 5), (.t 8)]
    .nil))))))
  (.cond (.t 9)
  .skip
  (.exit 0)))
  (.seq (.blk 1 (.reg 5 false (.op (some 12) .mov [(.t 3)]
    (.op (some 13) .mov [(.t 4)]
    (.op (some 14) .mov [(.t 4)]
    (.op (some 15) (.addr 1) [(.t 1)]
    (.op (some 16) (.ld (.slot 0) .any) [(.t 15)]
    (.op (some 17) .mov [(.t 4)]
    (.op (some 18) (.idxS 1) [(.t 16), (.t 17)]
    (.op (some 19) (.ld .heap (.i .i64)) [(.t 18)]
    (.op (some 20) (.build ([Cell.int .i64 0, Cell.int .i64 0, Cell.int .i64 0, Cell.int .i64 0, Cell.int .i64 0, Cell.int .i64 0]) [(0, 1), (1, 1), (2, 1), (3, 1), (5, 1)]) [(.k (.c (.int .i64 (-1)))), (.t 13), (.k (.c (.int .i64 2))), (.t 14), (.t 19)]
    (.op (some 21) (.lit 6 1 ([Cell.int .i64 0, Cell.int .i64 0, Cell.int .i64 0, Cell.int .i64 0, Cell.int .i64 0, Cell.int .i64 0]) [(0, 6)]) [(.t 20)]
    (.op (some 22) (.app 6 48) [(.t 12), (.t 21)]
    (.op (some 3) .mov [(.t 22)]
    .nil))))))))))))))
  (.reg 4 false (.op (some 10) .mov [(.t 4)]
    (.op (some 11) (.bin .add) [(.t 10), (.k (.c (.int .i64 1)))]
    (.op (some 4) .mov [(.t 11)]
    .nil))))))
def jacquardref6_Inits_p1 : IC :=
  (.seq (.reg 6 false (.op (some 23) .mov [(.t 3)]
    (.op (some 2) .mov [(.t 23)]
    .nil)))
  .ret)
def jacquardref6_Inits : Fn := { np := 1, nt := 24, ns := 1, res := [.t 2 .any], gc := false, code :=
  (.seq (.reg 0 false (.box 1 0 (.t 0)
    (.op (some 2) .mov [(.k (.c .nils))]
    .nil)))
  (.seq (.reg 1 false (.op (some 3) .mov [(.k (.c .nils))]
    .nil))
  (.seq (.seq (.reg 2 false (.op (some 4) .mov [(.k (.c (.int .i64 0)))]
    .nil))
  (.blk 0 (.loop [1, 3, 4] [0] [(1, [3], [])] jacquardref6_Inits_b1)))
  jacquardref6_Inits_p1))) }

/- jacquard/jacquardref6.PO: 91 -/
def jacquardref6_PO_b1 : IC :=
  (.seq (.seq (.reg 9 false (.op (some 20) .mov [(.t 5)]
    (.op (some 21) .mov [(.t 0)]
    (.op (some 22) .len [(.t 21)]
    (.op (some 23) (.bin .lss) [(.t 20), (.t 22)]
    .nil)))))
  (.cond (.t 23)
  .skip
  (.exit 2)))
  (.seq (.blk 3 (.seq (.reg 11 true (.op (some 26) .mov [(.t 0)]
    (.op (some 27) .mov [(.t 4)]
    (.op (some 28) (.idxS 6) [(.t 26), (.t 27)]
    (.op (some 29) (.addr 0) [(.t 28)]
    (.op (some 30) (.ld .heap (.i .i64)) [(.t 29)]
    (.op (some 31) (.bin .lss) [(.t 30), (.k (.c (.int .i64 0)))]
    (.op (some 32) .mov [(.t 31)]
    (.sc 32 true (.op (some 33) .mov [(.t 0)]
    (.op (some 34) .mov [(.t 5)]
    (.op (some 35) (.idxS 6) [(.t 33), (.t 34)]
    (.op (some 36) (.addr 0) [(.t 35)]
    (.op (some 37) (.ld .heap (.i .i64)) [(.t 36)]
    (.op (some 38) (.bin .geq) [(.t 37), (.k (.c (.int .i64 0)))]
    .nil)))))) 38 39 false
    (.op (some 40) .mov [(.t 39)]
    (.sc 40 false (.op (some 41) .mov [(.t 0)]
    (.op (some 42) .mov [(.t 4)]
    (.op (some 43) (.idxS 6) [(.t 41), (.t 42)]
    (.op (some 44) (.addr 0) [(.t 43)]
    (.op (some 45) (.ld .heap (.i .i64)) [(.t 44)]
    (.op (some 46) (.bin .geq) [(.t 45), (.k (.c (.int .i64 0)))]
    (.op (some 47) .mov [(.t 46)]
    (.sc 47 true (.op (some 48) .mov [(.t 0)]
    (.op (some 49) .mov [(.t 4)]
    (.op (some 50) (.idxS 6) [(.t 48), (.t 49)]
    (.op (some 51) (.addr 0) [(.t 50)]
    (.op (some 52) (.ld .heap (.i .i64)) [(.t 51)]
    (.op (some 53) .mov [(.t 0)]
    (.op (some 54) .mov [(.t 5)]
    (.op (some 55) (.idxS 6) [(.t 53), (.t 54)]
    (.op (some 56) (.addr 0) [(.t 55)]
    (.op (some 57) (.ld .heap (.i .i64)) [(.t 56)]
    (.op (some 58) (.bin .eql) [(.t 52), (.t 57)]
    .nil))))))))))) 58 59 false
    (.op (some 60) .mov [(.t 59)]
    (.sc 60 true (.op (some 61) .mov [(.t 0)]
    (.op (some 62) .mov [(.t 4)]
    (.op (some 63) (.idxS 6) [(.t 61), (.t 62)]
    (.op (some 64) (.addr 1) [(.t 63)]
    (.op (some 65) (.ld .heap (.i .i64)) [(.t 64)]
    (.op (some 66) .mov [(.t 0)]
    (.op (some 67) .mov [(.t 5)]
    (.op (some 68) (.idxS 6) [(.t 66), (.t 67)]
    (.op (some 69) (.addr 1) [(.t 68)]
    (.op (some 70) (.ld .heap (.i .i64)) [(.t 69)]
    (.op (some 71) (.bin .lss) [(.t 65), (.t 70)]
    .nil))))))))))) 71 72 false
    .nil)))))))))) 72 73 true
    .nil)))))))))))
  (.cond (.t 73)
  (.reg 12 false (.op (some 74) .mov [(.t 4)]
    (.op (some 75) .mov [(.t 5)]
    (.op (some 76) (.call 13 []) [(.t 3), (.t 74), (.t 75)]
    .nil))))
  .skip)))
  (.reg 10 false (.op (some 24) .mov [(.t 5)]
    (.op (some 25) (.bin .add) [(.t 24), (.k (.c (.int .i64 1)))]
    (.op (some 5) .mov [(.t 25)]
    .nil))))))
def jacquardref6_PO_p2 : IC :=
  (.reg 7 false (.op (some 18) .mov [(.t 4)]
    (.op (some 19) (.bin .add) [(.t 18), (.k (.c (.int .i64 1)))]
    (.op (some 4) .mov [(.t 19)]
    .nil))))
def jacquardref6_PO_b2 : IC :=
  (.seq (.seq (.reg 6 false (.op (some 14) .mov [(.t 4)]
    (.op (some 15) .mov [(.t 0)]
    (.op (some 16) .len [(.t 15)]
    (.op (some 17) (.bin .lss) [(.t 14), (.t 16)]
    .nil)))))
  (.cond (.t 17)
  .skip
  (.exit 0)))
  (.seq (.blk 1 (.seq (.reg 8 false (.op (some 5) .mov [(.k (.c (.int .i64 0)))]
    .nil))
  (.blk 2 (.loop [0, 2, 3, 4, 5] [0] [(3, [0, 2, 3, 4], [0])] jacquardref6_PO_b1))))
  jacquardref6_PO_p2))
def jacquardref6_PO_p1 : IC :=
  (.seq (.reg 13 false (.op (some 77) (.ldAll .heap 65) [(.t 3)]
    (.op none (.stAll (.slot 0) 65) [(.t 2), (.t 77)]
    .nil)))
  .ret)
def jacquardref6_PO : Fn := { np := 1, nt := 78, ns := 1, res := [.all (.slot 0) 2 65], gc := true, code :=
  (.seq (.reg 0 false (.al 2 0 ([Cell.int .i64 0] ++ List.replicate 64 (Cell.int .u64 0))
    .nil))
  (.seq (.reg 1 false (.op (some 6) (.build ([Cell.int .i64 0] ++ List.replicate 64 (Cell.int .u64 0)) []) []
    (.op (some 3) (.allocH ([Cell.int .i64 0] ++ List.replicate 64 (Cell.int .u64 0))) []
    (.op none (.stAll .heap 65) [(.t 3), (.t 6)]
    .nil))))
  (.seq (.seq (.reg 2 false (.op (some 7) .mov [(.t 0)]
    (.op (some 8) .len [(.t 7)]
    (.op (some 9) (.bin .gtr) [(.t 8), (.k (.c (.int .i64 64)))]
    .nil))))
  (.cond (.t 9)
  (.seq (.reg 3 false (.op (some 10) (.ldAll .heap 65) [(.t 3)]
    (.op none (.stAll (.slot 0) 65) [(.t 2), (.t 10)]
    .nil)))
  .ret)
  .skip))
  (.seq (.reg 4 false (.op (some 11) .mov [(.t 0)]
    (.op (some 12) .len [(.t 11)]
    (.op (some 13) (.addr 0) [(.t 3)]
    (.op none (.st .heap) [(.t 13), (.t 12)]
    .nil)))))
  (.seq (.seq (.reg 5 false (.op (some 4) .mov [(.k (.c (.int .i64 0)))]
    .nil))
  (.blk 0 (.loop [0, 2, 3, 4] [0] [(1, [2, 3], [0])] jacquardref6_PO_b2)))
  jacquardref6_PO_p1))))) }

/- jacquard/jacquardref6.Value: 92 -/
def jacquardref6_Value : Fn := { np := 2, nt := 20, ns := 2, res := [.t 4 (.i .i64)], gc := false, code :=
  (.seq (.reg 0 false (.box 2 0 (.t 0)
    (.box 3 1 (.t 1)
    (.op (some 4) .mov [(.k (.c (.int .i64 0)))]
    .nil))))
  (.seq (.seq (.reg 1 false (.op (some 5) (.addr 0) [(.t 2)]
    (.op (some 6) (.ld (.slot 0) (.i .i64)) [(.t 5)]
    (.op (some 7) (.bin .geq) [(.t 6), (.k (.c (.int .i64 0)))]
    (.op (some 8) .mov [(.t 7)]
    (.sc 8 true (.op (some 9) (.addr 0) [(.t 2)]
    (.op (some 10) (.ld (.slot 0) (.i .i64)) [(.t 9)]
    (.op (some 11) (.bin .leq) [(.t 10), (.k (.c (.int .i64 3)))]
    .nil))) 11 12 false
    .nil))))))
  (.cond (.t 12)
  (.seq (.reg 2 false (.op (some 13) (.addr 0) [(.t 2)]
    (.op (some 14) (.ld (.slot 0) (.i .i64)) [(.t 13)]
    (.op (some 15) (.addr 1) [(.t 3)]
    (.op (some 16) (.idxA 4 1) [(.t 15), (.t 14)]
    (.op (some 17) (.ld (.slot 1) (.i .i64)) [(.t 16)]
    (.op (some 4) .mov [(.t 17)]
    .nil)))))))
  .ret)
  .skip))
  (.seq (.reg 3 false (.op (some 18) (.addr 1) [(.t 2)]
    (.op (some 19) (.ld (.slot 0) (.i .i64)) [(.t 18)]
    (.op (some 4) .mov [(.t 19)]
    .nil))))
  .ret))) }

/- jacquard/jacquardref6.Compile: 101 -/
def jacquardref6_Compile_b1 : IC :=
  (.seq (.seq (.reg 7 false (.op (some 21) .mov [(.t 6)]
    (.op (some 22) (.addr 1) [(.t 1)]
    (.op (some 23) (.ld (.slot 0) .any) [(.t 22)]
    (.op (some 24) .len [(.t 23)]
    (.op (some 25) (.bin .lss) [(.t 21), (.t 24)]
    .nil))))))
  (.cond (.t 25)
  .skip
  (.exit 2)))
  (.seq (.blk 3 (.seq (.reg 9 true (.op (some 28) (.addr 1) [(.t 1)]
    (.op (some 29) (.ld (.slot 0) .any) [(.t 28)]
    (.op (some 30) .mov [(.t 6)]
    (.op (some 31) (.idxS 2) [(.t 29), (.t 30)]
    (.op (some 32) (.addr 0) [(.t 31)]
    (.op (some 33) (.ld .heap (.i .i64)) [(.t 32)]
    (.op (some 34) (.addr 0) [(.t 3)]
    (.op (some 35) (.ld (.slot 2) .any) [(.t 34)]
    (.op (some 36) .mov [(.t 4)]
    (.op (some 37) (.idxS 1) [(.t 35), (.t 36)]
    (.op (some 38) (.ld .heap (.i .u8)) [(.t 37)]
    (.op (some 39) (.conv .i64) [(.t 38)]
    (.op (some 40) (.bin .eql) [(.t 33), (.t 39)]
    .nil))))))))))))))
  (.cond (.t 40)
  (.reg 10 false (.op (some 41) (.addr 1) [(.t 1)]
    (.op (some 42) (.ld (.slot 0) .any) [(.t 41)]
    (.op (some 43) .mov [(.t 6)]
    (.op (some 44) (.idxS 2) [(.t 42), (.t 43)]
    (.op (some 45) (.addr 1) [(.t 44)]
    (.op (some 46) (.ld .heap (.i .i64)) [(.t 45)]
    (.op (some 5) .mov [(.t 46)]
    .nil))))))))
  .skip)))
  (.reg 8 false (.op (some 26) .mov [(.t 6)]
    (.op (some 27) (.bin .add) [(.t 26), (.k (.c (.int .i64 1)))]
    (.op (some 6) .mov [(.t 27)]
    .nil))))))
def jacquardref6_Compile_p3 : IC :=
  (.reg 11 false (.op (some 47) (.addr 1) [(.t 3)]
    (.op (some 48) (.ld (.slot 2) .any) [(.t 47)]
    (.op (some 49) .mov [(.t 5)]
    (.op (some 50) (.lit 1 1 ([Cell.int .i64 0]) [(0, 1)]) [(.t 49)]
    (.op (some 51) (.app 1 8) [(.t 48), (.t 50)]
    (.op (some 52) (.addr 1) [(.t 3)]
    (.op none (.st (.slot 2)) [(.t 52), (.t 51)]
    .nil))))))))
def jacquardref6_Compile_p2 : IC :=
  (.reg 4 false (.op (some 19) .mov [(.t 4)]
    (.op (some 20) (.bin .add) [(.t 19), (.k (.c (.int .i64 1)))]
    (.op (some 4) .mov [(.t 20)]
    .nil))))
def jacquardref6_Compile_b2 : IC :=
  (.seq (.seq (.reg 3 false (.op (some 14) .mov [(.t 4)]
    (.op (some 15) (.addr 0) [(.t 3)]
    (.op (some 16) (.ld (.slot 2) .any) [(.t 15)]
    (.op (some 17) .len [(.t 16)]
    (.op (some 18) (.bin .lss) [(.t 14), (.t 17)]
    .nil))))))
  (.cond (.t 18)
  .skip
  (.exit 0)))
  (.seq (.blk 1 (.seq (.reg 5 false (.op (some 5) .mov [(.k (.c (.int .i64 0)))]
    .nil))
  (.seq (.seq (.reg 6 false (.op (some 6) .mov [(.k (.c (.int .i64 0)))]
    .nil))
  (.blk 2 (.loop [1, 2, 3, 4, 5, 6] [0, 1, 2] [(3, [1, 2, 3, 4, 5], [0, 1, 2])] jacquardref6_Compile_b1)))
  jacquardref6_Compile_p3)))
  jacquardref6_Compile_p2))
def jacquardref6_Compile_b3 : IC :=
  (.seq (.seq (.reg 17 false (.op (some 60) .mov [(.t 9)]
    (.op (some 61) (.addr 2) [(.t 1)]
    (.op (some 62) (.ld (.slot 0) .any) [(.t 61)]
    (.op (some 63) .mov [(.t 7)]
    (.op (some 64) (.idxS 1) [(.t 62), (.t 63)]
    (.op (some 65) (.ld .heap .any) [(.t 64)]
    (.op (some 66) .len [(.t 65)]
    (.op (some 67) (.bin .lss) [(.t 60), (.t 66)]
    .nil)))))))))
  (.cond (.t 67)
  .skip
  (.exit 6)))
  (.seq (.blk 7 (.seq (.reg 19 false (.op (some 70) (.addr 2) [(.t 1)]
    (.op (some 71) (.ld (.slot 0) .any) [(.t 70)]
    (.op (some 72) .mov [(.t 7)]
    (.op (some 73) (.idxS 1) [(.t 71), (.t 72)]
    (.op (some 74) (.ld .heap .any) [(.t 73)]
    (.op (some 75) .mov [(.t 9)]
    (.op (some 76) (.idxS 9) [(.t 74), (.t 75)]
    (.op (some 77) (.ldN .heap 9) [(.t 76)]
    (.al 10 3 (List.replicate 9 (Cell.int .i64 0))
    (.op none (.stAll (.slot 3) 9) [(.t 10), (.t 77)]
    .nil)))))))))))
  (.seq (.seq (.reg 20 false (.op (some 78) (.addr 2) [(.t 10)]
    (.op (some 79) (.ld (.slot 3) (.i .i64)) [(.t 78)]
    (.op (some 80) (.bin .neq) [(.t 79), (.k (.c (.int .i64 0)))]
    .nil))))
  (.cond (.t 80)
  (.reg 21 false (.op (some 81) (.ldAll (.slot 2) 3) [(.t 3)]
    (.op (some 82) (.addr 2) [(.t 10)]
    (.op (some 83) (.ld (.slot 3) (.i .i64)) [(.t 82)]
    (.op (some 84) (.call 122 [(.i .i64)]) [(.t 81), (.t 83)]
    (.op (some 85) (.addr 2) [(.t 10)]
    (.op none (.st (.slot 3)) [(.t 85), (.t 84)]
    .nil)))))))
  .skip))
  (.reg 22 false (.op (some 86) .mov [(.t 8)]
    (.op (some 87) (.ldAll (.slot 3) 9) [(.t 10)]
    (.op (some 88) (.lit 9 1 (List.replicate 9 (Cell.int .i64 0)) [(0, 9)]) [(.t 87)]
    (.op (some 89) (.app 9 72) [(.t 86), (.t 88)]
    (.op (some 8) .mov [(.t 89)]
    .nil)))))))))
  (.reg 18 false (.op (some 68) .mov [(.t 9)]
    (.op (some 69) (.bin .add) [(.t 68), (.k (.c (.int .i64 1)))]
    (.op (some 9) .mov [(.t 69)]
    .nil))))))
def jacquardref6_Compile_p6 : IC :=
  (.reg 23 false (.op (some 90) (.addr 2) [(.t 3)]
    (.op (some 91) (.ld (.slot 2) .any) [(.t 90)]
    (.op (some 92) .mov [(.t 8)]
    (.op (some 93) (.lit 1 1 ([Cell.nils]) [(0, 1)]) [(.t 92)]
    (.op (some 94) (.app 1 24) [(.t 91), (.t 93)]
    (.op (some 95) (.addr 2) [(.t 3)]
    (.op none (.st (.slot 2)) [(.t 95), (.t 94)]
    .nil))))))))
def jacquardref6_Compile_p5 : IC :=
  (.reg 14 false (.op (some 58) .mov [(.t 7)]
    (.op (some 59) (.bin .add) [(.t 58), (.k (.c (.int .i64 1)))]
    (.op (some 7) .mov [(.t 59)]
    .nil))))
def jacquardref6_Compile_b4 : IC :=
  (.seq (.seq (.reg 13 false (.op (some 53) .mov [(.t 7)]
    (.op (some 54) (.addr 2) [(.t 1)]
    (.op (some 55) (.ld (.slot 0) .any) [(.t 54)]
    (.op (some 56) .len [(.t 55)]
    (.op (some 57) (.bin .lss) [(.t 53), (.t 56)]
    .nil))))))
  (.cond (.t 57)
  .skip
  (.exit 4)))
  (.seq (.blk 5 (.seq (.reg 15 false (.op (some 8) .mov [(.k (.c .nils))]
    .nil))
  (.seq (.seq (.reg 16 false (.op (some 9) .mov [(.k (.c (.int .i64 0)))]
    .nil))
  (.blk 6 (.loop [1, 2, 3, 7, 8, 9] [0, 1, 2] [(7, [1, 2, 3, 7, 8], [0, 1, 2])] jacquardref6_Compile_b3)))
  jacquardref6_Compile_p6)))
  jacquardref6_Compile_p5))
def jacquardref6_Compile_p4 : IC :=
  (.seq (.reg 24 false (.op (some 96) (.ldAll (.slot 2) 3) [(.t 3)]
    (.op none (.stAll (.slot 1) 3) [(.t 2), (.t 96)]
    .nil)))
  .ret)
def jacquardref6_Compile_p1 : IC :=
  (.seq (.seq (.reg 12 false (.op (some 7) .mov [(.k (.c (.int .i64 0)))]
    .nil))
  (.blk 4 (.loop [1, 2, 3, 7] [0, 1, 2] [(5, [2, 3], [1, 2])] jacquardref6_Compile_b4)))
  jacquardref6_Compile_p4)
def jacquardref6_Compile : Fn := { np := 1, nt := 97, ns := 4, res := [.all (.slot 1) 2 3], gc := false, code :=
  (.seq (.reg 0 false (.box 1 0 (.t 0)
    (.al 2 1 ([Cell.nils, Cell.nils, Cell.nils])
    .nil)))
  (.seq (.reg 1 false (.op (some 11) (.ldAll (.slot 0) 5) [(.t 1)]
    (.op (some 12) (.call 121 [.any]) [(.t 11)]
    (.op (some 13) (.build ([Cell.nils, Cell.nils, Cell.nils]) [(0, 1)]) [(.t 12)]
    (.al 3 2 ([Cell.nils, Cell.nils, Cell.nils])
    (.op none (.stAll (.slot 2) 3) [(.t 3), (.t 13)]
    .nil))))))
  (.seq (.seq (.reg 2 false (.op (some 4) .mov [(.k (.c (.int .i64 0)))]
    .nil))
  (.blk 0 (.loop [1, 2, 3, 4] [0, 1, 2] [(1, [1, 2, 3], [0, 1, 2])] jacquardref6_Compile_b2)))
  jacquardref6_Compile_p1))) }

/- jacquard/jacquardref6.Start: 104 -/
def jacquardref6_Start : Fn := { np := 2, nt := 14, ns := 2, res := [.all (.slot 1) 4 5], gc := false, code :=
  (.seq (.reg 0 false (.box 2 0 (.t 0)
    (.al 4 1 ([Cell.int .i64 0, Cell.int .i64 0, Cell.int .i64 0, Cell.int .i64 0, Cell.int .i64 0])
    .nil)))
  (.seq (.seq (.reg 1 false (.op (some 5) (.ldAll (.slot 0) 3) [(.t 2)]
    (.op (some 6) .mov [(.t 1)]
    (.op (some 7) (.call 110 [.b]) [(.t 5), (.t 6)]
    (.op (some 8) (.un .not) [(.t 7)]
    .nil)))))
  (.cond (.t 8)
  (.seq (.reg 2 false (.op (some 9) (.build ([Cell.int .i64 0, Cell.int .i64 0, Cell.int .i64 0, Cell.int .i64 0, Cell.int .i64 0]) []) []
    (.op none (.stAll (.slot 1) 5) [(.t 4), (.t 9)]
    .nil)))
  .ret)
  .skip))
  (.seq (.reg 3 false (.op (some 10) (.ldAll (.slot 0) 3) [(.t 2)]
    (.op (some 11) .mov [(.t 1)]
    (.op (some 12) (.build ([Cell.int .i64 0, Cell.int .i64 0, Cell.int .i64 0, Cell.int .i64 0, Cell.int .i64 0]) []) []
    (.op (some 13) (.call 123 [.agg]) [(.t 10), (.t 11), (.t 12)]
    (.op none (.stAll (.slot 1) 5) [(.t 4), (.t 13)]
    .nil))))))
  .ret))) }

/- jacquard/jacquardref6.After: 107 -/
def jacquardref6_After : Fn := { np := 4, nt := 42, ns := 4, res := [.all (.slot 2) 8 5], gc := false, code :=
  (.seq (.reg 0 false (.box 4 0 (.t 0)
    (.box 6 1 (.t 2)
    (.al 8 2 ([Cell.int .i64 0, Cell.int .i64 0, Cell.int .i64 0, Cell.int .i64 0, Cell.int .i64 0])
    .nil))))
  (.seq (.reg 1 false (.op (some 12) (.ldAll (.slot 0) 3) [(.t 4)]
    (.op (some 13) .mov [(.t 1)]
    (.op (some 14) (.ldAll (.slot 1) 5) [(.t 6)]
    (.op (some 15) (.call 81 [.agg, .b]) [(.t 12), (.t 13), (.t 14)]
    (.op (some 11) .mov [(.t 15)]
    (.op (some 16) (.ext 0) [(.t 11)]
    (.op (some 17) (.ext 1) [(.t 11)]
    (.al 9 3 (List.replicate 9 (Cell.int .i64 0))
    (.op none (.stAll (.slot 3) 9) [(.t 9), (.t 16)]
    (.op (some 10) .mov [(.t 17)]
    .nil)))))))))))
  (.seq (.seq (.reg 2 false (.op (some 18) .mov [(.t 10)]
    (.op (some 19) (.un .not) [(.t 18)]
    .nil)))
  (.cond (.t 19)
  (.seq (.reg 3 false (.op (some 20) (.ldAll (.slot 1) 5) [(.t 6)]
    (.op none (.stAll (.slot 2) 5) [(.t 8), (.t 20)]
    .nil)))
  .ret)
  .skip))
  (.seq (.seq (.reg 4 false (.op (some 21) (.addr 0) [(.t 9)]
    (.op (some 22) (.ld (.slot 3) (.i .i64)) [(.t 21)]
    (.op (some 23) (.bin .eql) [(.t 22), (.k (.c (.int .i64 2)))]
    (.op (some 24) .mov [(.t 23)]
    (.sc 24 false (.op (some 25) (.addr 0) [(.t 9)]
    (.op (some 26) (.ld (.slot 3) (.i .i64)) [(.t 25)]
    (.op (some 27) (.bin .eql) [(.t 26), (.k (.c (.int .i64 4)))]
    .nil))) 27 28 true
    .nil))))))
  (.cond (.t 28)
  (.reg 5 false (.op (some 29) (.addr 1) [(.t 9)]
    (.op (some 30) (.ld (.slot 3) (.i .i64)) [(.t 29)]
    (.op (some 31) .mov [(.t 3)]
    (.op (some 32) (.addr 1) [(.t 6)]
    (.op (some 33) (.idxA 4 1) [(.t 32), (.t 30)]
    (.op none (.st (.slot 1)) [(.t 33), (.t 31)]
    .nil)))))))
  .skip))
  (.seq (.reg 6 false (.op (some 34) (.addr 0) [(.t 6)]
    (.op (some 35) (.ld (.slot 1) (.i .i64)) [(.t 34)]
    (.op (some 36) (.bin .add) [(.t 35), (.k (.c (.int .i64 1)))]
    (.op (some 37) (.addr 0) [(.t 6)]
    (.op none (.st (.slot 1)) [(.t 37), (.t 36)]
    .nil))))))
  (.seq (.reg 7 false (.op (some 38) (.ldAll (.slot 0) 3) [(.t 4)]
    (.op (some 39) .mov [(.t 1)]
    (.op (some 40) (.ldAll (.slot 1) 5) [(.t 6)]
    (.op (some 41) (.call 123 [.agg]) [(.t 38), (.t 39), (.t 40)]
    (.op none (.stAll (.slot 2) 5) [(.t 8), (.t 41)]
    .nil))))))
  .ret)))))) }

/- jacquard/jacquardref6.there: 110 -/
def jacquardref6_there : Fn := { np := 2, nt := 14, ns := 1, res := [.t 4 .b], gc := false, code :=
  (.seq (.reg 0 false (.box 2 0 (.t 0)
    (.op (some 4) .mov [(.k (.c (.bool false)))]
    .nil)))
  (.seq (.reg 1 false (.op (some 5) .mov [(.t 1)]
    (.op (some 6) (.bin .geq) [(.t 5), (.k (.c (.int .i64 0)))]
    (.op (some 7) .mov [(.t 6)]
    (.sc 7 true (.op (some 8) .mov [(.t 1)]
    (.op (some 9) (.addr 2) [(.t 2)]
    (.op (some 10) (.ld (.slot 0) .any) [(.t 9)]
    (.op (some 11) .len [(.t 10)]
    (.op (some 12) (.bin .lss) [(.t 8), (.t 11)]
    .nil))))) 12 13 false
    (.op (some 4) .mov [(.t 13)]
    .nil))))))
  .ret)) }

/- jacquard/jacquardref6.Event: 111 -/
def jacquardref6_Event : Fn := { np := 3, nt := 45, ns := 3, res := [.all (.slot 2) 6 6], gc := false, code :=
  (.seq (.reg 0 false (.box 3 0 (.t 0)
    (.box 4 1 (.t 1)
    (.al 6 2 ([Cell.int .i64 0, Cell.int .i64 0, Cell.int .i64 0, Cell.int .i64 0, Cell.int .i64 0, Cell.int .i64 0])
    .nil))))
  (.seq (.seq (.reg 1 false (.op (some 7) (.addr 0) [(.t 3)]
    (.op (some 8) (.ld (.slot 0) (.i .i64)) [(.t 7)]
    .nil)))
  (.blk 0 (.seq (.reg 2 false (.op (some 10) (.bin .eql) [(.t 8), (.k (.c (.int .i64 1)))]
    (.op (some 9) .mov [(.t 10)]
    .nil)))
  (.cond (.t 9)
  (.seq (.reg 3 true (.op (some 11) (.addr 2) [(.t 3)]
    (.op (some 12) (.ld (.slot 0) (.i .i64)) [(.t 11)]
    (.op (some 13) (.addr 3) [(.t 3)]
    (.op (some 14) (.ldN (.slot 0) 2) [(.t 13)]
    (.op (some 15) (.ldAll (.slot 1) 5) [(.t 4)]
    (.op (some 16) (.qcall 92 [(.i .i64)]) [(.t 14), (.t 15)]
    (.op (some 17) (.build ([Cell.int .i64 0, Cell.int .i64 0, Cell.int .i64 0, Cell.int .i64 0, Cell.int .i64 0, Cell.int .i64 0]) [(2, 1), (3, 1), (5, 1)]) [(.k (.c (.int .i64 2))), (.t 12), (.t 16)]
    (.op none (.stAll (.slot 2) 6) [(.t 6), (.t 17)]
    .nil)))))))))
  .ret)
  (.seq (.reg 4 false (.op (some 19) (.bin .eql) [(.t 8), (.k (.c (.int .i64 2)))]
    (.op (some 18) .mov [(.t 19)]
    .nil)))
  (.cond (.t 18)
  (.seq (.reg 5 false (.op (some 20) (.addr 2) [(.t 3)]
    (.op (some 21) (.ld (.slot 0) (.i .i64)) [(.t 20)]
    (.op (some 22) .mov [(.t 2)]
    (.op (some 23) (.build ([Cell.int .i64 0, Cell.int .i64 0, Cell.int .i64 0, Cell.int .i64 0, Cell.int .i64 0, Cell.int .i64 0]) [(2, 1), (3, 1), (4, 1)]) [(.k (.c (.int .i64 1))), (.t 21), (.t 22)]
    (.op none (.stAll (.slot 2) 6) [(.t 6), (.t 23)]
    .nil))))))
  .ret)
  (.seq (.reg 6 false (.op (some 25) (.bin .eql) [(.t 8), (.k (.c (.int .i64 4)))]
    (.op (some 24) .mov [(.t 25)]
    .nil)))
  (.cond (.t 24)
  (.seq (.seq (.reg 7 false (.op (some 26) .mov [(.t 2)]
    (.op (some 27) (.addr 3) [(.t 3)]
    (.op (some 28) (.ldN (.slot 0) 2) [(.t 27)]
    (.op (some 29) (.ldAll (.slot 1) 5) [(.t 4)]
    (.op (some 30) (.call 92 [(.i .i64)]) [(.t 28), (.t 29)]
    (.op (some 31) (.bin .eql) [(.t 26), (.t 30)]
    .nil)))))))
  (.cond (.t 31)
  (.seq (.reg 8 true (.op (some 32) (.addr 2) [(.t 3)]
    (.op (some 33) (.ld (.slot 0) (.i .i64)) [(.t 32)]
    (.op (some 34) .mov [(.t 2)]
    (.op (some 35) (.addr 6) [(.t 3)]
    (.op (some 36) (.ldN (.slot 0) 2) [(.t 35)]
    (.op (some 37) (.ldAll (.slot 1) 5) [(.t 4)]
    (.op (some 38) (.qcall 92 [(.i .i64)]) [(.t 36), (.t 37)]
    (.op (some 39) (.build ([Cell.int .i64 0, Cell.int .i64 0, Cell.int .i64 0, Cell.int .i64 0, Cell.int .i64 0, Cell.int .i64 0]) [(2, 1), (3, 1), (4, 1), (5, 1)]) [(.k (.c (.int .i64 4))), (.t 33), (.t 34), (.t 38)]
    (.op none (.stAll (.slot 2) 6) [(.t 6), (.t 39)]
    .nil))))))))))
  .ret)
  .skip))
  (.seq (.reg 9 false (.op (some 40) (.addr 2) [(.t 3)]
    (.op (some 41) (.ld (.slot 0) (.i .i64)) [(.t 40)]
    (.op (some 42) .mov [(.t 2)]
    (.op (some 43) (.build ([Cell.int .i64 0, Cell.int .i64 0, Cell.int .i64 0, Cell.int .i64 0, Cell.int .i64 0, Cell.int .i64 0]) [(2, 1), (3, 1), (4, 1)]) [(.k (.c (.int .i64 5))), (.t 41), (.t 42)]
    (.op none (.stAll (.slot 2) 6) [(.t 6), (.t 43)]
    .nil))))))
  .ret))
  .skip))))))))
  (.seq (.reg 10 false (.op (some 44) (.build ([Cell.int .i64 0, Cell.int .i64 0, Cell.int .i64 0, Cell.int .i64 0, Cell.int .i64 0, Cell.int .i64 0]) [(2, 1)]) [(.k (.c (.int .i64 3)))]
    (.op none (.stAll (.slot 2) 6) [(.t 6), (.t 44)]
    .nil)))
  .ret))) }

/- jacquard/jacquardref6.Place: 122 -/
def jacquardref6_Place_b1 : IC :=
  (.seq (.seq (.reg 2 false (.op (some 6) .mov [(.t 5)]
    (.op (some 7) (.addr 0) [(.t 2)]
    (.op (some 8) (.ld (.slot 0) .any) [(.t 7)]
    (.op (some 9) .len [(.t 8)]
    (.op (some 10) (.bin .lss) [(.t 6), (.t 9)]
    .nil))))))
  (.cond (.t 10)
  .skip
  (.exit 0)))
  (.seq (.blk 1 (.seq (.reg 4 false (.op (some 13) (.addr 0) [(.t 2)]
    (.op (some 14) (.ld (.slot 0) .any) [(.t 13)]
    (.op (some 15) .mov [(.t 5)]
    (.op (some 16) (.idxS 1) [(.t 14), (.t 15)]
    (.op (some 17) (.ld .heap (.i .u8)) [(.t 16)]
    (.op (some 18) (.conv .i64) [(.t 17)]
    (.op (some 19) .mov [(.t 1)]
    (.op (some 20) (.bin .eql) [(.t 18), (.t 19)]
    .nil)))))))))
  (.cond (.t 20)
  (.seq (.reg 5 false (.op (some 21) .mov [(.t 5)]
    (.op (some 4) .mov [(.t 21)]
    .nil)))
  .ret)
  .skip)))
  (.reg 3 false (.op (some 11) .mov [(.t 5)]
    (.op (some 12) (.bin .add) [(.t 11), (.k (.c (.int .i64 1)))]
    (.op (some 5) .mov [(.t 12)]
    .nil))))))
def jacquardref6_Place_p1 : IC :=
  (.seq (.reg 6 false (.op (some 4) .mov [(.k (.c (.int .i64 (-1))))]
    .nil))
  .ret)
def jacquardref6_Place : Fn := { np := 2, nt := 22, ns := 1, res := [.t 4 (.i .i64)], gc := false, code :=
  (.seq (.reg 0 false (.box 2 0 (.t 0)
    (.op (some 4) .mov [(.k (.c (.int .i64 0)))]
    .nil)))
  (.seq (.seq (.reg 1 false (.op (some 5) .mov [(.k (.c (.int .i64 0)))]
    .nil))
  (.blk 0 (.loop [1, 2, 5] [0] [(0, [4], []), (1, [], [])] jacquardref6_Place_b1)))
  jacquardref6_Place_p1)) }

/- jacquard/jacquardref6.normal: 123 -/
def jacquardref6_normal_b1 : IC :=
  (.seq (.seq (.reg 1 true (.op (some 9) (.addr 0) [(.t 5)]
    (.op (some 10) (.ld (.slot 1) (.i .i64)) [(.t 9)]
    (.op (some 11) (.addr 2) [(.t 3)]
    (.op (some 12) (.ld (.slot 0) .any) [(.t 11)]
    (.op (some 13) .mov [(.t 1)]
    (.op (some 14) (.idxS 1) [(.t 12), (.t 13)]
    (.op (some 15) (.ld .heap .any) [(.t 14)]
    (.op (some 16) .len [(.t 15)]
    (.op (some 17) (.bin .lss) [(.t 10), (.t 16)]
    .nil))))))))))
  (.cond (.t 17)
  .skip
  (.exit 0)))
  (.blk 1 (.seq (.reg 2 true (.op (some 18) (.addr 2) [(.t 3)]
    (.op (some 19) (.ld (.slot 0) .any) [(.t 18)]
    (.op (some 20) .mov [(.t 1)]
    (.op (some 21) (.idxS 1) [(.t 19), (.t 20)]
    (.op (some 22) (.ld .heap .any) [(.t 21)]
    (.op (some 23) (.addr 0) [(.t 5)]
    (.op (some 24) (.ld (.slot 1) (.i .i64)) [(.t 23)]
    (.op (some 25) (.idxS 9) [(.t 22), (.t 24)]
    (.op (some 26) (.ldN .heap 9) [(.t 25)]
    (.al 7 3 (List.replicate 9 (Cell.int .i64 0))
    (.op none (.stAll (.slot 3) 9) [(.t 7), (.t 26)]
    .nil))))))))))))
  (.seq (.reg 3 false (.op (some 27) (.addr 0) [(.t 7)]
    (.op (some 28) (.ld (.slot 3) (.i .i64)) [(.t 27)]
    .nil)))
  (.blk 2 (.seq (.reg 5 false (.op (some 31) (.bin .eql) [(.t 28), (.k (.c (.int .i64 5)))]
    (.op (some 30) .mov [(.t 31)]
    .nil)))
  (.cond (.t 30)
  (.seq (.reg 6 false (.op (some 32) (.addr 3) [(.t 7)]
    (.op (some 33) (.ldN (.slot 3) 2) [(.t 32)]
    (.op (some 34) (.ldAll (.slot 1) 5) [(.t 5)]
    (.op (some 35) (.call 92 [(.i .i64)]) [(.t 33), (.t 34)]
    (.op (some 8) .mov [(.t 35)]
    .nil))))))
  (.seq (.seq (.reg 7 false (.op (some 36) (.addr 5) [(.t 7)]
    (.op (some 37) (.ld (.slot 3) (.i .i64)) [(.t 36)]
    (.op (some 38) (.bin .neq) [(.t 37), (.k (.c (.int .i64 0)))]
    .nil))))
  (.cond (.t 38)
  (.reg 8 true (.op (some 40) (.addr 5) [(.t 7)]
    (.op (some 41) (.ld (.slot 3) (.i .i64)) [(.t 40)]
    (.op (some 42) .mov [(.t 8)]
    (.op (some 43) (.addr 6) [(.t 7)]
    (.op (some 44) (.ldN (.slot 3) 2) [(.t 43)]
    (.op (some 45) (.ldAll (.slot 1) 5) [(.t 5)]
    (.op (some 46) (.qcall 92 [(.i .i64)]) [(.t 44), (.t 45)]
    (.op (some 47) (.qcall 93 [(.i .i64), .b]) [(.t 41), (.t 42), (.t 46)]
    (.op (some 39) .mov [(.t 47)]
    (.op (some 48) (.ext 0) [(.t 39)]
    (.op (some 49) (.ext 1) [(.t 39)]
    (.op (some 8) .mov [(.t 48)]
    .nil)))))))))))))
  .skip))
  (.seq (.reg 9 false (.op (some 50) (.addr 1) [(.t 7)]
    (.op (some 51) (.ld (.slot 3) (.i .i64)) [(.t 50)]
    (.op (some 52) .mov [(.t 8)]
    (.op (some 53) (.addr 1) [(.t 5)]
    (.op (some 54) (.idxA 4 1) [(.t 53), (.t 51)]
    (.op none (.st (.slot 1)) [(.t 54), (.t 52)]
    .nil)))))))
  (.reg 10 false (.op (some 55) (.addr 0) [(.t 5)]
    (.op (some 56) (.ld (.slot 1) (.i .i64)) [(.t 55)]
    (.op (some 57) (.bin .add) [(.t 56), (.k (.c (.int .i64 1)))]
    (.op (some 58) (.addr 0) [(.t 5)]
    (.op none (.st (.slot 1)) [(.t 58), (.t 57)]
    .nil)))))))))
  (.seq (.reg 11 false (.op (some 60) (.bin .eql) [(.t 28), (.k (.c (.int .i64 6)))]
    (.op (some 59) .mov [(.t 60)]
    .nil)))
  (.cond (.t 59)
  (.seq (.seq (.reg 12 true (.op (some 61) (.addr 3) [(.t 7)]
    (.op (some 62) (.ldN (.slot 3) 2) [(.t 61)]
    (.op (some 63) (.ldAll (.slot 1) 5) [(.t 5)]
    (.op (some 64) (.qcall 92 [(.i .i64)]) [(.t 62), (.t 63)]
    (.op (some 65) (.addr 6) [(.t 7)]
    (.op (some 66) (.ldN (.slot 3) 2) [(.t 65)]
    (.op (some 67) (.ldAll (.slot 1) 5) [(.t 5)]
    (.op (some 68) (.qcall 92 [(.i .i64)]) [(.t 66), (.t 67)]
    (.op (some 69) (.bin .eql) [(.t 64), (.t 68)]
    .nil))))))))))
  (.cond (.t 69)
  (.reg 13 false (.op (some 70) (.addr 0) [(.t 5)]
    (.op (some 71) (.ld (.slot 1) (.i .i64)) [(.t 70)]
    (.op (some 72) (.addr 8) [(.t 7)]
    (.op (some 73) (.ld (.slot 3) (.i .i64)) [(.t 72)]
    (.op (some 74) (.bin .add) [(.t 71), (.t 73)]
    (.op (some 75) (.addr 0) [(.t 5)]
    (.op none (.st (.slot 1)) [(.t 75), (.t 74)]
    .nil))))))))
  .skip))
  (.reg 14 false (.op (some 76) (.addr 0) [(.t 5)]
    (.op (some 77) (.ld (.slot 1) (.i .i64)) [(.t 76)]
    (.op (some 78) (.bin .add) [(.t 77), (.k (.c (.int .i64 1)))]
    (.op (some 79) (.addr 0) [(.t 5)]
    (.op none (.st (.slot 1)) [(.t 79), (.t 78)]
    .nil)))))))
  (.seq (.reg 4 false (.op (some 29) (.ldAll (.slot 1) 5) [(.t 5)]
    (.op none (.stAll (.slot 2) 5) [(.t 6), (.t 29)]
    .nil)))
  .ret))))))))))
def jacquardref6_normal_p1 : IC :=
  (.seq (.reg 15 false (.op (some 80) (.ldAll (.slot 1) 5) [(.t 5)]
    (.op none (.stAll (.slot 2) 5) [(.t 6), (.t 80)]
    .nil)))
  .ret)
def jacquardref6_normal : Fn := { np := 3, nt := 81, ns := 4, res := [.all (.slot 2) 6 5], gc := false, code :=
  (.seq (.reg 0 false (.box 3 0 (.t 0)
    (.box 5 1 (.t 2)
    (.al 6 2 ([Cell.int .i64 0, Cell.int .i64 0, Cell.int .i64 0, Cell.int .i64 0, Cell.int .i64 0])
    .nil))))
  (.seq (.blk 0 (.loop [1, 3, 5, 6] [0, 1, 2] [(0, [6], [2]), (1, [5, 6], [1, 2])] jacquardref6_normal_b1))
  jacquardref6_normal_p1)) }


end Jq

/- What a function needs of an environment. -/
namespace Jq
open Go

structure jacquardref6_Rel_Add_In (E : Env) : Prop where
  fn : E.fn 13 = some jacquardref6_Rel_Add

structure jacquardref6_Rel_Has_In (E : Env) : Prop where
  fn : E.fn 7 = some jacquardref6_Rel_Has

structure jacquardref6_Closure_In (E : Env) : Prop where
  fn : E.fn 6 = some jacquardref6_Closure
  c7 : jacquardref6_Rel_Has_In E

structure jacquardref6_Acyclic_In (E : Env) : Prop where
  fn : E.fn 71 = some jacquardref6_Acyclic
  c6 : jacquardref6_Closure_In E
  c7 : jacquardref6_Rel_Has_In E

structure jacquardref6_Place_In (E : Env) : Prop where
  fn : E.fn 122 = some jacquardref6_Place

structure jacquardref6_Compile_In (E : Env) : Prop where
  fn : E.fn 101 = some jacquardref6_Compile
  c121 : jacquardref2_Locs_In E
  c122 : jacquardref6_Place_In E

structure jacquardref6_there_In (E : Env) : Prop where
  fn : E.fn 110 = some jacquardref6_there

structure jacquardref6_Next_In (E : Env) : Prop where
  fn : E.fn 81 = some jacquardref6_Next
  c110 : jacquardref6_there_In E

structure jacquardref6_Value_In (E : Env) : Prop where
  fn : E.fn 92 = some jacquardref6_Value

structure jacquardref6_normal_In (E : Env) : Prop where
  fn : E.fn 123 = some jacquardref6_normal
  c92 : jacquardref6_Value_In E
  c93 : jacquardref2_Do_In E

structure jacquardref6_Start_In (E : Env) : Prop where
  fn : E.fn 104 = some jacquardref6_Start
  c110 : jacquardref6_there_In E
  c123 : jacquardref6_normal_In E

structure jacquardref6_After_In (E : Env) : Prop where
  fn : E.fn 107 = some jacquardref6_After
  c81 : jacquardref6_Next_In E
  c123 : jacquardref6_normal_In E

structure jacquardref6_Event_In (E : Env) : Prop where
  fn : E.fn 111 = some jacquardref6_Event
  c92 : jacquardref6_Value_In E

structure jacquardref6_Reads_In (E : Env) : Prop where
  fn : E.fn 85 = some jacquardref6_Reads

structure jacquardref6_Writes_In (E : Env) : Prop where
  fn : E.fn 86 = some jacquardref6_Writes

structure jacquardref6_Fences_In (E : Env) : Prop where
  fn : E.fn 87 = some jacquardref6_Fences

structure jacquardref6_Inits_In (E : Env) : Prop where
  fn : E.fn 89 = some jacquardref6_Inits

structure jacquardref6_PO_In (E : Env) : Prop where
  fn : E.fn 91 = some jacquardref6_PO
  c13 : jacquardref6_Rel_Add_In E

end Jq

/- What a function needs of an environment. -/
namespace Jq
open Go

structure jacquardlaw6_Of_In (E : Env) : Prop where
  fn : E.fn 76 = some jacquardlaw6_Of
  c97 : jacquardlaw3_Small_In E
  c101 : jacquardref6_Compile_In E

end Jq

namespace Jq
open Go

/- jacquard/jacquardlaw8.Of: 1 -/
def jacquardlaw8_Of_b1 : IC :=
  (.seq (.seq (.reg 4 false (.op (some 17) .mov [(.t 8)]
    (.op (some 18) .mov [(.t 1)]
    (.op (some 19) .len [(.t 18)]
    (.op (some 20) (.bin .lss) [(.t 17), (.t 19)]
    (.op (some 21) .mov [(.t 20)]
    (.sc 21 true (.op (some 22) .mov [(.t 8)]
    (.op (some 23) (.bin .lss) [(.t 22), (.k (.c (.int .i64 200)))]
    .nil)) 23 24 false
    .nil)))))))
  (.cond (.t 24)
  .skip
  (.exit 0)))
  (.seq (.blk 1 (.seq (.reg 6 true (.op (some 27) .mov [(.t 1)]
    (.op (some 28) .mov [(.t 8)]
    (.op (some 29) (.idxS 2) [(.t 27), (.t 28)]
    (.op (some 30) (.idxA 2 1) [(.t 29), (.k (.c (.int .i64 0)))]
    (.op (some 31) (.ld .heap (.i .i64)) [(.t 30)]
    (.op (some 32) .mov [(.t 1)]
    (.op (some 33) .mov [(.t 8)]
    (.op (some 34) (.idxS 2) [(.t 32), (.t 33)]
    (.op (some 35) (.idxA 2 1) [(.t 34), (.k (.c (.int .i64 1)))]
    (.op (some 36) (.ld .heap (.i .i64)) [(.t 35)]
    (.op (some 9) .mov [(.t 31)]
    (.op (some 10) .mov [(.t 36)]
    .nil)))))))))))))
  (.seq (.reg 7 false (.op (some 37) (.ldAll (.slot 2) 65) [(.t 6)]
    (.op (some 38) .mov [(.t 9)]
    (.op (some 39) .mov [(.t 10)]
    (.op (some 40) (.call 10 [.agg]) [(.t 37), (.t 38), (.t 39)]
    (.op none (.stAll (.slot 2) 65) [(.t 6), (.t 40)]
    .nil))))))
  (.seq (.reg 8 false (.op (some 41) .mov [(.t 9)]
    (.op (some 42) (.bin .geq) [(.t 41), (.k (.c (.int .i64 0)))]
    (.op (some 43) .mov [(.t 42)]
    (.sc 43 true (.op (some 44) .mov [(.t 9)]
    (.op (some 45) (.addr 0) [(.t 7)]
    (.op (some 46) (.ld .heap (.i .i64)) [(.t 45)]
    (.op (some 47) (.bin .lss) [(.t 44), (.t 46)]
    .nil)))) 47 48 false
    (.op (some 49) .mov [(.t 48)]
    (.sc 49 true (.op (some 50) .mov [(.t 10)]
    (.op (some 51) (.bin .geq) [(.t 50), (.k (.c (.int .i64 0)))]
    .nil)) 51 52 false
    (.op (some 53) .mov [(.t 52)]
    (.sc 53 true (.op (some 54) .mov [(.t 10)]
    (.op (some 55) (.addr 0) [(.t 7)]
    (.op (some 56) (.ld .heap (.i .i64)) [(.t 55)]
    (.op (some 57) (.bin .lss) [(.t 54), (.t 56)]
    .nil)))) 57 58 false
    .nil)))))))))
  (.cond (.t 58)
  (.reg 9 false (.op (some 59) .mov [(.t 9)]
    (.op (some 60) .mov [(.t 10)]
    (.op (some 61) (.call 13 []) [(.t 7), (.t 59), (.t 60)]
    .nil))))
  .skip)))))
  (.reg 5 false (.op (some 25) .mov [(.t 8)]
    (.op (some 26) (.bin .add) [(.t 25), (.k (.c (.int .i64 1)))]
    (.op (some 8) .mov [(.t 26)]
    .nil))))))
def jacquardlaw8_Of_p1 : IC :=
  (.seq (.reg 10 true (.op (some 62) (.ldAll (.slot 2) 65) [(.t 6)]
    (.op (some 63) (.ldAll .heap 65) [(.t 7)]
    (.op none (.stAll (.slot 0) 65) [(.t 4), (.t 62)]
    (.op none (.stAll (.slot 1) 65) [(.t 5), (.t 63)]
    .nil)))))
  .ret)
def jacquardlaw8_Of : Fn := { np := 2, nt := 64, ns := 3, res := [.all (.slot 0) 4 65, .all (.slot 1) 5 65], gc := true, code :=
  (.seq (.reg 0 false (.al 4 0 ([Cell.int .i64 0] ++ List.replicate 64 (Cell.int .u64 0))
    (.al 5 1 ([Cell.int .i64 0] ++ List.replicate 64 (Cell.int .u64 0))
    .nil)))
  (.seq (.reg 1 false (.op (some 11) .mov [(.t 0)]
    (.op (some 12) (.call 9 [.agg]) [(.t 11)]
    (.al 6 2 ([Cell.int .i64 0] ++ List.replicate 64 (Cell.int .u64 0))
    (.op none (.stAll (.slot 2) 65) [(.t 6), (.t 12)]
    .nil)))))
  (.seq (.reg 2 false (.op (some 13) .mov [(.t 0)]
    (.op (some 14) .mx [(.t 13), (.k (.c (.int .i64 0)))]
    (.op (some 15) .mn [(.t 14), (.k (.c (.int .i64 64)))]
    (.op (some 16) (.build ([Cell.int .i64 0] ++ List.replicate 64 (Cell.int .u64 0)) [(0, 1)]) [(.t 15)]
    (.op (some 7) (.allocH ([Cell.int .i64 0] ++ List.replicate 64 (Cell.int .u64 0))) []
    (.op none (.stAll .heap 65) [(.t 7), (.t 16)]
    .nil)))))))
  (.seq (.seq (.reg 3 false (.op (some 8) .mov [(.k (.c (.int .i64 0)))]
    .nil))
  (.blk 0 (.loop [1, 4, 5, 6, 7, 8] [0, 1, 2] [(1, [4, 5, 6, 7], [0, 1, 2])] jacquardlaw8_Of_b1)))
  jacquardlaw8_Of_p1)))) }

/- jacquard/jacquardlaw8.awake: 55 -/
def jacquardlaw8_awake : Fn := { np := 0, nt := 28, ns := 1, res := [.t 0 .b], gc := false, code :=
  (.seq (.reg 0 false (.op (some 0) .mov [(.k (.c (.bool false)))]
    .nil))
  (.seq (.reg 1 false (.op (some 2) (.call 9 [.agg]) [(.k (.c (.int .i64 3)))]
    (.op (some 3) (.call 10 [.agg]) [(.t 2), (.k (.c (.int .i64 0))), (.k (.c (.int .i64 1)))]
    (.op (some 4) (.call 10 [.agg]) [(.t 3), (.k (.c (.int .i64 1))), (.k (.c (.int .i64 2)))]
    (.al 1 0 ([Cell.int .i64 0] ++ List.replicate 64 (Cell.int .u64 0))
    (.op none (.stAll (.slot 0) 65) [(.t 1), (.t 4)]
    .nil))))))
  (.seq (.reg 2 false (.op (some 5) (.ldAll (.slot 0) 65) [(.t 1)]
    (.op (some 6) (.call 12 [.agg]) [(.t 5)]
    (.op (some 7) (.call 3 [.b]) [(.t 6), (.k (.c (.int .i64 0))), (.k (.c (.int .i64 2)))]
    (.op (some 8) .mov [(.t 7)]
    (.sc 8 true (.op (some 9) (.ldAll (.slot 0) 65) [(.t 1)]
    (.op (some 10) (.call 3 [.b]) [(.t 9), (.k (.c (.int .i64 0))), (.k (.c (.int .i64 2)))]
    (.op (some 11) (.un .not) [(.t 10)]
    .nil))) 11 12 false
    (.op (some 13) .mov [(.t 12)]
    (.sc 13 true (.op (some 14) (.ldAll (.slot 0) 65) [(.t 1)]
    (.op (some 15) (.call 26 [.b]) [(.t 14)]
    .nil)) 15 16 false
    (.op (some 17) .mov [(.t 16)]
    (.sc 17 true (.op (some 18) (.ldAll (.slot 0) 65) [(.t 1)]
    (.op (some 19) (.call 10 [.agg]) [(.t 18), (.k (.c (.int .i64 2))), (.k (.c (.int .i64 0)))]
    (.op (some 20) (.call 26 [.b]) [(.t 19)]
    (.op (some 21) (.un .not) [(.t 20)]
    .nil)))) 21 22 false
    (.op (some 23) .mov [(.t 22)]
    (.sc 23 true (.op (some 24) (.ldAll (.slot 0) 65) [(.t 1)]
    (.op (some 25) (.call 14 [(.i .i64)]) [(.t 24)]
    (.op (some 26) (.bin .eql) [(.t 25), (.k (.c (.int .i64 3)))]
    .nil))) 26 27 false
    (.op (some 0) .mov [(.t 27)]
    .nil)))))))))))))
  .ret))) }

/- jacquard/jacquardlaw8.Same: 69 -/
def jacquardlaw8_Same_b1 : IC :=
  (.seq (.seq (.reg 4 false (.op (some 11) .mov [(.t 5)]
    (.op (some 12) (.bin .lss) [(.t 11), (.k (.c (.int .i64 64)))]
    .nil)))
  (.cond (.t 12)
  .skip
  (.exit 0)))
  (.seq (.blk 1 (.seq (.reg 6 true (.op (some 15) (.ldAll (.slot 0) 65) [(.t 2)]
    (.op (some 16) .mov [(.t 5)]
    (.op (some 17) (.qcall 41 [(.i .u64)]) [(.t 15), (.t 16)]
    (.op (some 18) .mov [(.t 5)]
    (.op (some 19) (.addr 1) [(.t 3)]
    (.op (some 20) (.idxA 64 1) [(.t 19), (.t 18)]
    (.op (some 21) (.ld (.slot 1) (.i .u64)) [(.t 20)]
    (.op (some 22) (.bin .neq) [(.t 17), (.t 21)]
    .nil)))))))))
  (.cond (.t 22)
  (.seq (.reg 7 false (.op (some 4) .mov [(.k (.c (.bool false)))]
    .nil))
  .ret)
  .skip)))
  (.reg 5 false (.op (some 13) .mov [(.t 5)]
    (.op (some 14) (.bin .add) [(.t 13), (.k (.c (.int .i64 1)))]
    (.op (some 5) .mov [(.t 14)]
    .nil))))))
def jacquardlaw8_Same_p1 : IC :=
  (.seq (.reg 8 false (.op (some 4) .mov [(.k (.c (.bool true)))]
    .nil))
  .ret)
def jacquardlaw8_Same : Fn := { np := 2, nt := 23, ns := 2, res := [.t 4 .b], gc := false, code :=
  (.seq (.reg 0 false (.box 2 0 (.t 0)
    (.box 3 1 (.t 1)
    (.op (some 4) .mov [(.k (.c (.bool false)))]
    .nil))))
  (.seq (.seq (.reg 1 true (.op (some 6) (.ldAll (.slot 0) 65) [(.t 2)]
    (.op (some 7) (.qcall 14 [(.i .i64)]) [(.t 6)]
    (.op (some 8) (.addr 0) [(.t 3)]
    (.op (some 9) (.ld (.slot 1) (.i .i64)) [(.t 8)]
    (.op (some 10) (.bin .neq) [(.t 7), (.t 9)]
    .nil))))))
  (.cond (.t 10)
  (.seq (.reg 2 false (.op (some 4) .mov [(.k (.c (.bool false)))]
    .nil))
  .ret)
  .skip))
  (.seq (.seq (.reg 3 false (.op (some 5) .mov [(.k (.c (.int .i64 0)))]
    .nil))
  (.blk 0 (.loop [2, 3, 5] [0, 1] [(0, [4], []), (1, [], [])] jacquardlaw8_Same_b1)))
  jacquardlaw8_Same_p1))) }

/- jacquard/jacquardlaw8.cut: 70 -/
def jacquardlaw8_cut_b1 : IC :=
  (.seq (.seq (.reg 6 false (.op (some 19) .mov [(.t 7)]
    (.op (some 20) (.addr 0) [(.t 5)]
    (.op (some 21) (.ld .heap (.i .i64)) [(.t 20)]
    (.op (some 22) (.bin .lss) [(.t 19), (.t 21)]
    .nil)))))
  (.cond (.t 22)
  .skip
  (.exit 2)))
  (.seq (.blk 3 (.seq (.reg 8 false (.op (some 25) .mov [(.t 6)]
    (.op (some 26) .mov [(.t 7)]
    (.op (some 27) (.call 7 [.b]) [(.t 2), (.t 25), (.t 26)]
    .nil))))
  (.cond (.t 27)
  (.reg 9 false (.op (some 28) .mov [(.t 6)]
    (.op (some 29) .mov [(.t 7)]
    (.op (some 30) (.call 13 []) [(.t 5), (.t 28), (.t 29)]
    .nil))))
  .skip)))
  (.reg 7 false (.op (some 23) .mov [(.t 7)]
    (.op (some 24) (.bin .add) [(.t 23), (.k (.c (.int .i64 1)))]
    (.op (some 7) .mov [(.t 24)]
    .nil))))))
def jacquardlaw8_cut_p2 : IC :=
  (.reg 4 false (.op (some 17) .mov [(.t 6)]
    (.op (some 18) (.bin .add) [(.t 17), (.k (.c (.int .i64 1)))]
    (.op (some 6) .mov [(.t 18)]
    .nil))))
def jacquardlaw8_cut_b2 : IC :=
  (.seq (.seq (.reg 3 false (.op (some 13) .mov [(.t 6)]
    (.op (some 14) (.addr 0) [(.t 5)]
    (.op (some 15) (.ld .heap (.i .i64)) [(.t 14)]
    (.op (some 16) (.bin .lss) [(.t 13), (.t 15)]
    .nil)))))
  (.cond (.t 16)
  .skip
  (.exit 0)))
  (.seq (.blk 1 (.seq (.reg 5 false (.op (some 7) .mov [(.k (.c (.int .i64 0)))]
    .nil))
  (.blk 2 (.loop [2, 4, 5, 6, 7] [0] [(3, [2, 4, 5, 6], [0])] jacquardlaw8_cut_b1))))
  jacquardlaw8_cut_p2))
def jacquardlaw8_cut_p1 : IC :=
  (.seq (.reg 10 false (.op (some 31) (.ldAll .heap 65) [(.t 5)]
    (.op none (.stAll (.slot 0) 65) [(.t 4), (.t 31)]
    .nil)))
  .ret)
def jacquardlaw8_cut : Fn := { np := 2, nt := 32, ns := 1, res := [.all (.slot 0) 4 65], gc := true, code :=
  (.seq (.reg 0 false (.op (some 2) .boxH [(.t 0)]
    (.al 4 0 ([Cell.int .i64 0] ++ List.replicate 64 (Cell.int .u64 0))
    .nil)))
  (.seq (.reg 1 false (.op (some 8) (.addr 0) [(.t 2)]
    (.op (some 9) (.ld .heap (.i .i64)) [(.t 8)]
    (.op (some 10) .mov [(.t 1)]
    (.op (some 11) .mn [(.t 9), (.t 10)]
    (.op (some 12) (.build ([Cell.int .i64 0] ++ List.replicate 64 (Cell.int .u64 0)) [(0, 1)]) [(.t 11)]
    (.op (some 5) (.allocH ([Cell.int .i64 0] ++ List.replicate 64 (Cell.int .u64 0))) []
    (.op none (.stAll .heap 65) [(.t 5), (.t 12)]
    .nil))))))))
  (.seq (.seq (.reg 2 false (.op (some 6) .mov [(.k (.c (.int .i64 0)))]
    .nil))
  (.blk 0 (.loop [2, 4, 5, 6] [0] [(1, [4, 5], [0])] jacquardlaw8_cut_b2)))
  jacquardlaw8_cut_p1))) }

/- jacquard/jacquardlaw8.RelPairs: 240 -/
def jacquardlaw8_RelPairs_b1 : IC :=
  (.seq (.seq (.reg 9 false (.op (some 29) .mov [(.t 10)]
    (.op (some 30) .mov [(.t 0)]
    (.op (some 31) (.bin .lss) [(.t 29), (.t 30)]
    .nil))))
  (.cond (.t 31)
  .skip
  (.exit 2)))
  (.seq (.blk 3 (.seq (.seq (.reg 11 false (.op (some 34) (.ldAll (.slot 0) 65) [(.t 5)]
    (.op (some 35) .mov [(.t 9)]
    (.op (some 36) .mov [(.t 10)]
    (.op (some 37) (.call 3 [.b]) [(.t 34), (.t 35), (.t 36)]
    (.op (some 38) .mov [(.t 9)]
    (.op (some 39) .mov [(.t 10)]
    (.op (some 40) (.call 7 [.b]) [(.t 6), (.t 38), (.t 39)]
    (.op (some 41) (.eqB true) [(.t 37), (.t 40)]
    .nil)))))))))
  (.cond (.t 41)
  (.seq (.reg 12 false (.op (some 4) .mov [(.k (.c (.bool false)))]
    .nil))
  .ret)
  .skip))
  (.seq (.seq (.reg 13 false (.op (some 42) .mov [(.t 9)]
    (.op (some 43) .mov [(.t 10)]
    (.op (some 44) (.call 7 [.b]) [(.t 6), (.t 42), (.t 43)]
    (.op (some 45) (.un .not) [(.t 44)]
    .nil)))))
  (.cond (.t 45)
  (.exit 3)
  .skip))
  (.seq (.seq (.reg 14 false (.op (some 46) .mov [(.t 8)]
    (.op (some 47) .mov [(.t 7)]
    (.op (some 48) .len [(.t 47)]
    (.op (some 49) (.bin .geq) [(.t 46), (.t 48)]
    (.op (some 50) .mov [(.t 49)]
    (.sc 50 false (.op (some 51) .mov [(.t 7)]
    (.op (some 52) .mov [(.t 8)]
    (.op (some 53) (.idxS 2) [(.t 51), (.t 52)]
    (.op (some 54) (.ldN .heap 2) [(.t 53)]
    (.op (some 55) .mov [(.t 9)]
    (.op (some 56) .mov [(.t 10)]
    (.op (some 57) (.build ([Cell.int .i64 0, Cell.int .i64 0]) [(0, 1), (1, 1)]) [(.t 55), (.t 56)]
    (.op (some 58) (.eqA true ([Cell.int .i64 0, Cell.int .i64 0])) [(.t 54), (.t 57)]
    .nil)))))))) 58 59 true
    .nil)))))))
  (.cond (.t 59)
  (.seq (.reg 15 false (.op (some 4) .mov [(.k (.c (.bool false)))]
    .nil))
  .ret)
  .skip))
  (.reg 16 false (.op (some 60) .mov [(.t 8)]
    (.op (some 61) (.bin .add) [(.t 60), (.k (.c (.int .i64 1)))]
    (.op (some 8) .mov [(.t 61)]
    .nil))))))))
  (.reg 10 false (.op (some 32) .mov [(.t 10)]
    (.op (some 33) (.bin .add) [(.t 32), (.k (.c (.int .i64 1)))]
    (.op (some 10) .mov [(.t 33)]
    .nil))))))
def jacquardlaw8_RelPairs_p2 : IC :=
  (.reg 7 false (.op (some 27) .mov [(.t 9)]
    (.op (some 28) (.bin .add) [(.t 27), (.k (.c (.int .i64 1)))]
    (.op (some 9) .mov [(.t 28)]
    .nil))))
def jacquardlaw8_RelPairs_b2 : IC :=
  (.seq (.seq (.reg 6 false (.op (some 24) .mov [(.t 9)]
    (.op (some 25) .mov [(.t 0)]
    (.op (some 26) (.bin .lss) [(.t 24), (.t 25)]
    .nil))))
  (.cond (.t 26)
  .skip
  (.exit 0)))
  (.seq (.blk 1 (.seq (.reg 8 false (.op (some 10) .mov [(.k (.c (.int .i64 0)))]
    .nil))
  (.blk 2 (.loop [0, 5, 6, 7, 8, 9, 10] [0] [(0, [4], []), (3, [0, 5, 6, 7, 8, 9], [0])] jacquardlaw8_RelPairs_b1))))
  jacquardlaw8_RelPairs_p2))
def jacquardlaw8_RelPairs_p1 : IC :=
  (.seq (.reg 17 false (.op (some 63) .mov [(.t 0)]
    (.op (some 64) .mov [(.t 7)]
    (.op (some 65) (.call 1 [.agg, .agg]) [(.t 63), (.t 64)]
    (.op (some 62) .mov [(.t 65)]
    (.op (some 66) (.ext 0) [(.t 62)]
    (.op (some 67) (.ext 1) [(.t 62)]
    (.al 11 1 ([Cell.int .i64 0] ++ List.replicate 64 (Cell.int .u64 0))
    (.al 12 2 ([Cell.int .i64 0] ++ List.replicate 64 (Cell.int .u64 0))
    (.op none (.stAll (.slot 1) 65) [(.t 11), (.t 66)]
    (.op none (.stAll (.slot 2) 65) [(.t 12), (.t 67)]
    .nil)))))))))))
  (.seq (.reg 18 false (.op (some 68) .mov [(.t 8)]
    (.op (some 69) .mov [(.t 7)]
    (.op (some 70) .len [(.t 69)]
    (.op (some 71) (.bin .eql) [(.t 68), (.t 70)]
    (.op (some 72) .mov [(.t 71)]
    (.sc 72 true (.op (some 73) .mov [(.t 8)]
    (.op (some 74) (.bin .gtr) [(.t 73), (.k (.c (.int .i64 200)))]
    (.op (some 75) .mov [(.t 74)]
    (.sc 75 false (.op (some 76) (.ldAll (.slot 1) 65) [(.t 11)]
    (.op (some 77) (.ldAll (.slot 0) 65) [(.t 5)]
    (.op (some 78) (.eqA false ([Cell.int .i64 0] ++ List.replicate 64 (Cell.int .u64 0))) [(.t 76), (.t 77)]
    .nil))) 78 79 true
    .nil)))) 79 80 false
    (.op (some 81) .mov [(.t 80)]
    (.sc 81 true (.op (some 82) (.ldAll (.slot 0) 65) [(.t 5)]
    (.op (some 83) (.call 3 [.b]) [(.t 82), (.k (.c (.int .i64 (-1)))), (.k (.c (.int .i64 0)))]
    (.op (some 84) (.un .not) [(.t 83)]
    .nil))) 84 85 false
    (.op (some 86) .mov [(.t 85)]
    (.sc 86 true (.op (some 87) (.ldAll (.slot 0) 65) [(.t 5)]
    (.op (some 88) (.call 3 [.b]) [(.t 87), (.k (.c (.int .i64 0))), (.k (.c (.int .i64 64)))]
    (.op (some 89) (.un .not) [(.t 88)]
    .nil))) 89 90 false
    (.op (some 91) .mov [(.t 90)]
    (.sc 91 true (.op (some 92) (.ldAll (.slot 0) 65) [(.t 5)]
    (.op (some 93) (.call 41 [(.i .u64)]) [(.t 92), (.k (.c (.int .i64 (-1))))]
    (.op (some 94) (.bin .eql) [(.t 93), (.k (.c (.int .u64 0)))]
    .nil))) 94 95 false
    (.op (some 96) .mov [(.t 95)]
    (.sc 96 true (.op (some 97) (.ldAll (.slot 0) 65) [(.t 5)]
    (.op (some 98) (.call 41 [(.i .u64)]) [(.t 97), (.k (.c (.int .i64 64)))]
    (.op (some 99) (.bin .eql) [(.t 98), (.k (.c (.int .u64 0)))]
    .nil))) 99 100 false
    (.op (some 101) .mov [(.t 100)]
    (.sc 101 true (.op (some 102) (.call 55 [.b]) []
    .nil) 102 103 false
    (.op (some 4) .mov [(.t 103)]
    .nil))))))))))))))))))
  .ret))
def jacquardlaw8_RelPairs : Fn := { np := 2, nt := 104, ns := 3, res := [.t 4 .b], gc := true, code :=
  (.seq (.reg 0 false (.op (some 4) .mov [(.k (.c (.bool false)))]
    .nil))
  (.seq (.reg 1 false (.op (some 13) .mov [(.t 0)]
    (.op (some 14) .mx [(.t 13), (.k (.c (.int .i64 0)))]
    (.op (some 15) .mn [(.t 14), (.k (.c (.int .i64 64)))]
    (.op (some 0) .mov [(.t 15)]
    .nil)))))
  (.seq (.reg 2 false (.op (some 17) .mov [(.t 0)]
    (.op (some 18) .mov [(.t 1)]
    (.op (some 19) (.call 1 [.agg, .agg]) [(.t 17), (.t 18)]
    (.op (some 16) .mov [(.t 19)]
    (.op (some 20) (.ext 0) [(.t 16)]
    (.op (some 21) (.ext 1) [(.t 16)]
    (.al 5 0 ([Cell.int .i64 0] ++ List.replicate 64 (Cell.int .u64 0))
    (.op (some 6) (.allocH ([Cell.int .i64 0] ++ List.replicate 64 (Cell.int .u64 0))) []
    (.op none (.stAll (.slot 0) 65) [(.t 5), (.t 20)]
    (.op none (.stAll .heap 65) [(.t 6), (.t 21)]
    .nil)))))))))))
  (.seq (.reg 3 false (.op (some 22) (.ldAll (.slot 0) 65) [(.t 5)]
    (.op (some 23) (.call 20 [.any]) [(.t 22)]
    (.op (some 7) .mov [(.t 23)]
    .nil))))
  (.seq (.reg 4 false (.op (some 8) .mov [(.k (.c (.int .i64 0)))]
    .nil))
  (.seq (.seq (.reg 5 false (.op (some 9) .mov [(.k (.c (.int .i64 0)))]
    .nil))
  (.blk 0 (.loop [0, 5, 6, 7, 8, 9] [0] [(0, [4], []), (1, [0, 5, 7, 8], [0])] jacquardlaw8_RelPairs_b2)))
  jacquardlaw8_RelPairs_p1)))))) }

/- jacquard/jacquardlaw8.RelThen: 241 -/
def jacquardlaw8_RelThen_b1 : IC :=
  (.seq (.seq (.reg 8 false (.op (some 51) .mov [(.t 20)]
    (.op (some 52) .mov [(.t 0)]
    (.op (some 53) (.bin .lss) [(.t 51), (.t 52)]
    .nil))))
  (.cond (.t 53)
  .skip
  (.exit 0)))
  (.seq (.blk 1 (.reg 10 false (.op (some 56) .mov [(.t 19)]
    (.op (some 57) .mov [(.t 56)]
    (.sc 57 false (.op (some 58) (.ldAll (.slot 0) 65) [(.t 13)]
    (.op (some 59) .mov [(.t 4)]
    (.op (some 60) .mov [(.t 20)]
    (.op (some 61) (.call 3 [.b]) [(.t 58), (.t 59), (.t 60)]
    (.op (some 62) .mov [(.t 61)]
    (.sc 62 true (.op (some 63) (.ldAll (.slot 2) 65) [(.t 15)]
    (.op (some 64) .mov [(.t 20)]
    (.op (some 65) .mov [(.t 5)]
    (.op (some 66) (.call 3 [.b]) [(.t 63), (.t 64), (.t 65)]
    .nil)))) 66 67 false
    .nil)))))) 67 68 true
    (.op (some 19) .mov [(.t 68)]
    .nil))))))
  (.reg 9 false (.op (some 54) .mov [(.t 20)]
    (.op (some 55) (.bin .add) [(.t 54), (.k (.c (.int .i64 1)))]
    (.op (some 20) .mov [(.t 55)]
    .nil))))))
def jacquardlaw8_RelThen_p1 : IC :=
  (.seq (.reg 11 true (.op (some 69) (.ldAll (.slot 0) 65) [(.t 13)]
    (.op (some 70) (.ldAll (.slot 2) 65) [(.t 15)]
    (.op (some 71) (.qcall 58 [.agg]) [(.t 69), (.t 70)]
    (.op (some 72) .mov [(.t 4)]
    (.op (some 73) .mov [(.t 5)]
    (.op (some 74) (.qcall 3 [.b]) [(.t 71), (.t 72), (.t 73)]
    (.op (some 75) .mov [(.t 19)]
    (.op (some 76) (.eqB false) [(.t 74), (.t 75)]
    (.op (some 77) .mov [(.t 76)]
    (.sc 77 true (.op (some 78) (.ldAll (.slot 0) 65) [(.t 13)]
    (.op (some 79) (.ldAll (.slot 2) 65) [(.t 15)]
    (.op (some 80) (.qcall 58 [.agg]) [(.t 78), (.t 79)]
    (.op (some 81) (.ldAll (.slot 4) 65) [(.t 17)]
    (.op (some 82) (.qcall 58 [.agg]) [(.t 80), (.t 81)]
    (.op (some 83) (.ldAll (.slot 0) 65) [(.t 13)]
    (.op (some 84) (.ldAll (.slot 2) 65) [(.t 15)]
    (.op (some 85) (.ldAll (.slot 4) 65) [(.t 17)]
    (.op (some 86) (.qcall 58 [.agg]) [(.t 84), (.t 85)]
    (.op (some 87) (.qcall 58 [.agg]) [(.t 83), (.t 86)]
    (.op (some 88) (.eqA false ([Cell.int .i64 0] ++ List.replicate 64 (Cell.int .u64 0))) [(.t 82), (.t 87)]
    .nil))))))))))) 88 89 false
    (.op (some 90) .mov [(.t 89)]
    (.sc 90 true (.op (some 91) (.ldAll (.slot 0) 65) [(.t 13)]
    (.op (some 92) (.ldAll (.slot 2) 65) [(.t 15)]
    (.op (some 93) (.qcall 59 [.agg]) [(.t 91), (.t 92)]
    (.op (some 94) (.ldAll (.slot 4) 65) [(.t 17)]
    (.op (some 95) (.qcall 58 [.agg]) [(.t 93), (.t 94)]
    (.op (some 96) (.ldAll (.slot 0) 65) [(.t 13)]
    (.op (some 97) (.ldAll (.slot 4) 65) [(.t 17)]
    (.op (some 98) (.qcall 58 [.agg]) [(.t 96), (.t 97)]
    (.op (some 99) (.ldAll (.slot 2) 65) [(.t 15)]
    (.op (some 100) (.ldAll (.slot 4) 65) [(.t 17)]
    (.op (some 101) (.qcall 58 [.agg]) [(.t 99), (.t 100)]
    (.op (some 102) (.qcall 59 [.agg]) [(.t 98), (.t 101)]
    (.op (some 103) (.eqA false ([Cell.int .i64 0] ++ List.replicate 64 (Cell.int .u64 0))) [(.t 95), (.t 102)]
    .nil))))))))))))) 103 104 false
    (.op (some 105) .mov [(.t 104)]
    (.sc 105 true (.op (some 106) (.qcall 55 [.b]) []
    .nil) 106 107 false
    (.op (some 12) .mov [(.t 107)]
    .nil))))))))))))))))
  .ret)
def jacquardlaw8_RelThen : Fn := { np := 6, nt := 108, ns := 6, res := [.t 12 .b], gc := false, code :=
  (.seq (.reg 0 false (.op (some 12) .mov [(.k (.c (.bool false)))]
    .nil))
  (.seq (.reg 1 false (.op (some 21) .mov [(.t 0)]
    (.op (some 22) (.bin .and) [(.t 21), (.k (.c (.int .i64 255)))]
    (.op (some 23) (.bin .rem) [(.t 22), (.k (.c (.int .i64 20)))]
    (.op (some 24) (.bin .add) [(.t 23), (.k (.c (.int .i64 1)))]
    (.op (some 0) .mov [(.t 24)]
    .nil))))))
  (.seq (.reg 2 true (.op (some 25) .mov [(.t 4)]
    (.op (some 26) (.bin .and) [(.t 25), (.k (.c (.int .i64 255)))]
    (.op (some 27) .mov [(.t 0)]
    (.op (some 28) (.bin .rem) [(.t 26), (.t 27)]
    (.op (some 29) .mov [(.t 5)]
    (.op (some 30) (.bin .and) [(.t 29), (.k (.c (.int .i64 255)))]
    (.op (some 31) .mov [(.t 0)]
    (.op (some 32) (.bin .rem) [(.t 30), (.t 31)]
    (.op (some 4) .mov [(.t 28)]
    (.op (some 5) .mov [(.t 32)]
    .nil)))))))))))
  (.seq (.reg 3 false (.op (some 34) .mov [(.t 0)]
    (.op (some 35) .mov [(.t 1)]
    (.op (some 36) (.call 1 [.agg, .agg]) [(.t 34), (.t 35)]
    (.op (some 33) .mov [(.t 36)]
    (.op (some 37) (.ext 0) [(.t 33)]
    (.op (some 38) (.ext 1) [(.t 33)]
    (.al 13 0 ([Cell.int .i64 0] ++ List.replicate 64 (Cell.int .u64 0))
    (.al 14 1 ([Cell.int .i64 0] ++ List.replicate 64 (Cell.int .u64 0))
    (.op none (.stAll (.slot 0) 65) [(.t 13), (.t 37)]
    (.op none (.stAll (.slot 1) 65) [(.t 14), (.t 38)]
    .nil)))))))))))
  (.seq (.reg 4 false (.op (some 40) .mov [(.t 0)]
    (.op (some 41) .mov [(.t 2)]
    (.op (some 42) (.call 1 [.agg, .agg]) [(.t 40), (.t 41)]
    (.op (some 39) .mov [(.t 42)]
    (.op (some 43) (.ext 0) [(.t 39)]
    (.op (some 44) (.ext 1) [(.t 39)]
    (.al 15 2 ([Cell.int .i64 0] ++ List.replicate 64 (Cell.int .u64 0))
    (.al 16 3 ([Cell.int .i64 0] ++ List.replicate 64 (Cell.int .u64 0))
    (.op none (.stAll (.slot 2) 65) [(.t 15), (.t 43)]
    (.op none (.stAll (.slot 3) 65) [(.t 16), (.t 44)]
    .nil)))))))))))
  (.seq (.reg 5 false (.op (some 46) .mov [(.t 0)]
    (.op (some 47) .mov [(.t 3)]
    (.op (some 48) (.call 1 [.agg, .agg]) [(.t 46), (.t 47)]
    (.op (some 45) .mov [(.t 48)]
    (.op (some 49) (.ext 0) [(.t 45)]
    (.op (some 50) (.ext 1) [(.t 45)]
    (.al 17 4 ([Cell.int .i64 0] ++ List.replicate 64 (Cell.int .u64 0))
    (.al 18 5 ([Cell.int .i64 0] ++ List.replicate 64 (Cell.int .u64 0))
    (.op none (.stAll (.slot 4) 65) [(.t 17), (.t 49)]
    (.op none (.stAll (.slot 5) 65) [(.t 18), (.t 50)]
    .nil)))))))))))
  (.seq (.reg 6 false (.op (some 19) .mov [(.k (.c (.bool false)))]
    .nil))
  (.seq (.seq (.reg 7 false (.op (some 20) .mov [(.k (.c (.int .i64 0)))]
    .nil))
  (.blk 0 (.loop [0, 4, 5, 13, 15, 17, 19, 20] [0, 2, 4] [(1, [4, 5, 13, 15, 17, 19], [0, 2, 4])] jacquardlaw8_RelThen_b1)))
  jacquardlaw8_RelThen_p1)))))))) }

/- jacquard/jacquardlaw8.RelAlgebra: 243 -/
def jacquardlaw8_RelAlgebra : Fn := { np := 3, nt := 107, ns := 5, res := [.t 6 .b], gc := false, code :=
  (.seq (.reg 0 false (.op (some 6) .mov [(.k (.c (.bool false)))]
    .nil))
  (.seq (.reg 1 false (.op (some 12) .mov [(.t 0)]
    (.op (some 13) .mx [(.t 12), (.k (.c (.int .i64 0)))]
    (.op (some 14) .mn [(.t 13), (.k (.c (.int .i64 64)))]
    (.op (some 0) .mov [(.t 14)]
    .nil)))))
  (.seq (.reg 2 false (.op (some 16) .mov [(.t 0)]
    (.op (some 17) .mov [(.t 1)]
    (.op (some 18) (.call 1 [.agg, .agg]) [(.t 16), (.t 17)]
    (.op (some 15) .mov [(.t 18)]
    (.op (some 19) (.ext 0) [(.t 15)]
    (.op (some 20) (.ext 1) [(.t 15)]
    (.al 7 0 ([Cell.int .i64 0] ++ List.replicate 64 (Cell.int .u64 0))
    (.al 8 1 ([Cell.int .i64 0] ++ List.replicate 64 (Cell.int .u64 0))
    (.op none (.stAll (.slot 0) 65) [(.t 7), (.t 19)]
    (.op none (.stAll (.slot 1) 65) [(.t 8), (.t 20)]
    .nil)))))))))))
  (.seq (.reg 3 false (.op (some 22) .mov [(.t 0)]
    (.op (some 23) .mov [(.t 2)]
    (.op (some 24) (.call 1 [.agg, .agg]) [(.t 22), (.t 23)]
    (.op (some 21) .mov [(.t 24)]
    (.op (some 25) (.ext 0) [(.t 21)]
    (.op (some 26) (.ext 1) [(.t 21)]
    (.al 9 2 ([Cell.int .i64 0] ++ List.replicate 64 (Cell.int .u64 0))
    (.al 10 3 ([Cell.int .i64 0] ++ List.replicate 64 (Cell.int .u64 0))
    (.op none (.stAll (.slot 2) 65) [(.t 9), (.t 25)]
    (.op none (.stAll (.slot 3) 65) [(.t 10), (.t 26)]
    .nil)))))))))))
  (.seq (.reg 4 false (.op (some 27) (.ldAll (.slot 0) 65) [(.t 7)]
    (.op (some 28) (.call 12 [.agg]) [(.t 27)]
    (.al 11 4 ([Cell.int .i64 0] ++ List.replicate 64 (Cell.int .u64 0))
    (.op none (.stAll (.slot 4) 65) [(.t 11), (.t 28)]
    .nil)))))
  (.seq (.reg 5 true (.op (some 29) (.ldAll (.slot 0) 65) [(.t 7)]
    (.op (some 30) (.ldAll (.slot 2) 65) [(.t 9)]
    (.op (some 31) (.qcall 59 [.agg]) [(.t 29), (.t 30)]
    (.op (some 32) (.ldAll (.slot 2) 65) [(.t 9)]
    (.op (some 33) (.ldAll (.slot 0) 65) [(.t 7)]
    (.op (some 34) (.qcall 59 [.agg]) [(.t 32), (.t 33)]
    (.op (some 35) (.eqA false ([Cell.int .i64 0] ++ List.replicate 64 (Cell.int .u64 0))) [(.t 31), (.t 34)]
    (.op (some 36) .mov [(.t 35)]
    (.sc 36 true (.op (some 37) (.ldAll (.slot 0) 65) [(.t 7)]
    (.op (some 38) (.ldAll (.slot 2) 65) [(.t 9)]
    (.op (some 39) (.qcall 67 [.agg]) [(.t 37), (.t 38)]
    (.op (some 40) (.ldAll (.slot 2) 65) [(.t 9)]
    (.op (some 41) (.ldAll (.slot 0) 65) [(.t 7)]
    (.op (some 42) (.qcall 67 [.agg]) [(.t 40), (.t 41)]
    (.op (some 43) (.eqA false ([Cell.int .i64 0] ++ List.replicate 64 (Cell.int .u64 0))) [(.t 39), (.t 42)]
    .nil))))))) 43 44 false
    (.op (some 45) .mov [(.t 44)]
    (.sc 45 true (.op (some 46) (.ldAll (.slot 0) 65) [(.t 7)]
    (.op (some 47) (.qcall 40 [.agg]) [(.t 46)]
    (.op (some 48) (.qcall 40 [.agg]) [(.t 47)]
    (.op (some 49) (.ldAll (.slot 0) 65) [(.t 7)]
    (.op (some 50) (.eqA false ([Cell.int .i64 0] ++ List.replicate 64 (Cell.int .u64 0))) [(.t 48), (.t 49)]
    .nil))))) 50 51 false
    (.op (some 52) .mov [(.t 51)]
    (.sc 52 true (.op (some 53) (.ldAll (.slot 4) 65) [(.t 11)]
    (.op (some 54) (.qcall 12 [.agg]) [(.t 53)]
    (.op (some 55) (.ldAll (.slot 4) 65) [(.t 11)]
    (.op (some 56) (.eqA false ([Cell.int .i64 0] ++ List.replicate 64 (Cell.int .u64 0))) [(.t 54), (.t 55)]
    .nil)))) 56 57 false
    (.op (some 58) .mov [(.t 57)]
    (.sc 58 true (.op (some 59) (.ldAll (.slot 0) 65) [(.t 7)]
    (.op (some 60) (.ldAll (.slot 2) 65) [(.t 9)]
    (.op (some 61) (.qcall 58 [.agg]) [(.t 59), (.t 60)]
    (.op (some 62) (.qcall 40 [.agg]) [(.t 61)]
    (.op (some 63) (.ldAll (.slot 2) 65) [(.t 9)]
    (.op (some 64) (.qcall 40 [.agg]) [(.t 63)]
    (.op (some 65) (.ldAll (.slot 0) 65) [(.t 7)]
    (.op (some 66) (.qcall 40 [.agg]) [(.t 65)]
    (.op (some 67) (.qcall 58 [.agg]) [(.t 64), (.t 66)]
    (.op (some 68) (.eqA false ([Cell.int .i64 0] ++ List.replicate 64 (Cell.int .u64 0))) [(.t 62), (.t 67)]
    .nil)))))))))) 68 69 false
    (.op (some 70) .mov [(.t 69)]
    (.sc 70 true (.op (some 71) (.ldAll (.slot 0) 65) [(.t 7)]
    (.op (some 72) (.ldAll (.slot 2) 65) [(.t 9)]
    (.op (some 73) (.qcall 68 [.agg]) [(.t 71), (.t 72)]
    (.op (some 74) (.ldAll (.slot 0) 65) [(.t 7)]
    (.op (some 75) (.ldAll (.slot 2) 65) [(.t 9)]
    (.op (some 76) (.qcall 67 [.agg]) [(.t 74), (.t 75)]
    (.op (some 77) (.qcall 59 [.agg]) [(.t 73), (.t 76)]
    (.op (some 78) (.ldAll (.slot 0) 65) [(.t 7)]
    (.op (some 79) (.eqA false ([Cell.int .i64 0] ++ List.replicate 64 (Cell.int .u64 0))) [(.t 77), (.t 78)]
    .nil))))))))) 79 80 false
    (.op (some 81) .mov [(.t 80)]
    (.sc 81 true (.op (some 82) (.ldAll (.slot 4) 65) [(.t 11)]
    (.op (some 83) (.ldAll (.slot 4) 65) [(.t 11)]
    (.op (some 84) (.qcall 58 [.agg]) [(.t 82), (.t 83)]
    (.op (some 85) (.ldAll (.slot 4) 65) [(.t 11)]
    (.op (some 86) (.qcall 59 [.agg]) [(.t 84), (.t 85)]
    (.op (some 87) (.ldAll (.slot 4) 65) [(.t 11)]
    (.op (some 88) (.eqA false ([Cell.int .i64 0] ++ List.replicate 64 (Cell.int .u64 0))) [(.t 86), (.t 87)]
    .nil))))))) 88 89 false
    (.op (some 90) .mov [(.t 89)]
    (.sc 90 true (.op (some 91) (.ldAll (.slot 0) 65) [(.t 7)]
    (.op (some 92) (.ldAll (.slot 4) 65) [(.t 11)]
    (.op (some 93) (.qcall 59 [.agg]) [(.t 91), (.t 92)]
    (.op (some 94) (.ldAll (.slot 4) 65) [(.t 11)]
    (.op (some 95) (.eqA false ([Cell.int .i64 0] ++ List.replicate 64 (Cell.int .u64 0))) [(.t 93), (.t 94)]
    .nil))))) 95 96 false
    (.op (some 97) .mov [(.t 96)]
    (.sc 97 true (.op (some 98) (.ldAll (.slot 0) 65) [(.t 7)]
    (.op (some 99) (.ldAll (.slot 0) 65) [(.t 7)]
    (.op (some 100) (.qcall 59 [.agg]) [(.t 98), (.t 99)]
    (.op (some 101) (.ldAll (.slot 0) 65) [(.t 7)]
    (.op (some 102) (.eqA false ([Cell.int .i64 0] ++ List.replicate 64 (Cell.int .u64 0))) [(.t 100), (.t 101)]
    .nil))))) 102 103 false
    (.op (some 104) .mov [(.t 103)]
    (.sc 104 true (.op (some 105) (.qcall 55 [.b]) []
    .nil) 105 106 false
    (.op (some 6) .mov [(.t 106)]
    .nil)))))))))))))))))))))))))))
  .ret)))))) }


end Jq

/- What a function needs of an environment. -/
namespace Jq
open Go

structure jacquardlaw8_Of_In (E : Env) : Prop where
  fn : E.fn 1 = some jacquardlaw8_Of
  c9 : rel_New_In E
  c10 : rel_Rel_Add_In E
  c13 : jacquardref6_Rel_Add_In E

structure jacquardlaw8_awake_In (E : Env) : Prop where
  fn : E.fn 55 = some jacquardlaw8_awake
  c3 : rel_Rel_Has_In E
  c9 : rel_New_In E
  c10 : rel_Rel_Add_In E
  c12 : rel_Rel_Closure_In E
  c14 : rel_Rel_N_In E
  c26 : rel_Rel_Acyclic_In E

structure jacquardlaw8_Same_In (E : Env) : Prop where
  fn : E.fn 69 = some jacquardlaw8_Same
  c14 : rel_Rel_N_In E
  c41 : rel_Rel_Row_In E

structure jacquardlaw8_cut_In (E : Env) : Prop where
  fn : E.fn 70 = some jacquardlaw8_cut
  c7 : jacquardref6_Rel_Has_In E
  c13 : jacquardref6_Rel_Add_In E

structure jacquardlaw8_RelPairs_In (E : Env) : Prop where
  fn : E.fn 240 = some jacquardlaw8_RelPairs
  c1 : jacquardlaw8_Of_In E
  c3 : rel_Rel_Has_In E
  c7 : jacquardref6_Rel_Has_In E
  c20 : rel_Rel_Pairs_In E
  c41 : rel_Rel_Row_In E
  c55 : jacquardlaw8_awake_In E

structure jacquardlaw8_RelThen_In (E : Env) : Prop where
  fn : E.fn 241 = some jacquardlaw8_RelThen
  c1 : jacquardlaw8_Of_In E
  c3 : rel_Rel_Has_In E
  c55 : jacquardlaw8_awake_In E
  c58 : rel_Rel_Then_In E
  c59 : rel_Rel_Union_In E

structure jacquardlaw8_RelAlgebra_In (E : Env) : Prop where
  fn : E.fn 243 = some jacquardlaw8_RelAlgebra
  c1 : jacquardlaw8_Of_In E
  c12 : rel_Rel_Closure_In E
  c40 : rel_Rel_Inverse_In E
  c55 : jacquardlaw8_awake_In E
  c58 : rel_Rel_Then_In E
  c59 : rel_Rel_Union_In E
  c67 : rel_Rel_Meet_In E
  c68 : rel_Rel_Minus_In E

end Jq

/- What a function needs of an environment. -/
namespace Jq
open Go

structure jacquardlaw10_awake_In (E : Env) : Prop where
  fn : E.fn 77 = some jacquardlaw10_awake
  c78 : event_Unfold_In E
  c88 : event_Inits_In E

structure jacquardlaw10_EventCounts_In (E : Env) : Prop where
  fn : E.fn 211 = some jacquardlaw10_EventCounts
  c76 : jacquardlaw6_Of_In E
  c77 : jacquardlaw10_awake_In E
  c78 : event_Unfold_In E
  c79 : event_Reads_In E
  c80 : event_Writes_In E
  c81 : jacquardref6_Next_In E

structure jacquardlaw10_EventKinds_In (E : Env) : Prop where
  fn : E.fn 212 = some jacquardlaw10_EventKinds
  c77 : jacquardlaw10_awake_In E
  c79 : event_Reads_In E
  c80 : event_Writes_In E
  c82 : event_Fences_In E

structure jacquardlaw10_EventOrders_In (E : Env) : Prop where
  fn : E.fn 214 = some jacquardlaw10_EventOrders
  c14 : rel_Rel_N_In E
  c69 : jacquardlaw8_Same_In E
  c77 : jacquardlaw10_awake_In E
  c84 : event_Same_In E
  c90 : event_PO_In E
  c91 : jacquardref6_PO_In E

end Jq

/- The seat: where the functions that are reached lie in the given program, and that each is the given one. -/
namespace Go.Proofs.Ytldfafaiappibaa.LEventCounts
open Go Jq

def seatFn : Nat → Nat
  | 76 => 13
  | 77 => 14
  | 78 => 15
  | 79 => 16
  | 80 => 17
  | 81 => 18
  | 88 => 25
  | 94 => 33
  | 97 => 36
  | 101 => 40
  | 105 => 44
  | 106 => 45
  | 108 => 47
  | 109 => 48
  | 110 => 49
  | 113 => 57
  | 114 => 56
  | 115 => 58
  | 121 => 65
  | 122 => 66
  | 124 => 68
  | 125 => 71
  | 139 => 86
  | 211 => 4
  | _ => 0

def envFn : Nat → Option Jq.Fn
  | 76 => some jacquardlaw6_Of
  | 77 => some jacquardlaw10_awake
  | 78 => some event_Unfold
  | 79 => some event_Reads
  | 80 => some event_Writes
  | 81 => some jacquardref6_Next
  | 88 => some event_Inits
  | 94 => some prog_Start
  | 97 => some jacquardlaw3_Small
  | 101 => some jacquardref6_Compile
  | 105 => some prog_Next
  | 106 => some prog_After
  | 108 => some prog_Value
  | 109 => some event_Of
  | 110 => some jacquardref6_there
  | 113 => some prog_thread
  | 114 => some prog_normal
  | 115 => some jacquardlaw3_Small_1
  | 121 => some jacquardref2_Locs
  | 122 => some jacquardref6_Place
  | 124 => some prog_set
  | 125 => some num_Do
  | 139 => some num_one
  | 211 => some jacquardlaw10_EventCounts
  | _ => none

def seatTab : Nat → List Cell := fun _ => []
noncomputable def seat : Seat := { P := Try.prog, fn := seatFn, gl := fun _ => 0, tab := seatTab }
def env : Env := { fn := envFn, tab := seatTab }

theorem mixed : true = true → seat.P.follows .mixedOrders = true := fun _ => by kernel_rfl

theorem ok_76 : FnOk seat 76 jacquardlaw6_Of := ⟨⟨Try.f13, _, drK seat true, Try.func13, rfl, by kernel_rfl, by kernel_rfl, by kernel_rfl, by kernel_rfl, fun _ _ h => draw_sound mixed h⟩⟩
theorem ok_77 : FnOk seat 77 jacquardlaw10_awake := ⟨⟨Try.f14, _, drK seat true, Try.func14, rfl, by kernel_rfl, by kernel_rfl, by kernel_rfl, by kernel_rfl, fun _ _ h => draw_sound mixed h⟩⟩
theorem ok_78 : FnOk seat 78 event_Unfold := ⟨⟨Try.f15, _, drK seat true, Try.func15, rfl, by kernel_rfl, by kernel_rfl, by kernel_rfl, by kernel_rfl, fun _ _ h => draw_sound mixed h⟩⟩
theorem ok_79 : FnOk seat 79 event_Reads := ⟨⟨Try.f16, _, drK seat true, Try.func16, rfl, by kernel_rfl, by kernel_rfl, by kernel_rfl, by kernel_rfl, fun _ _ h => draw_sound mixed h⟩⟩
theorem ok_80 : FnOk seat 80 event_Writes := ⟨⟨Try.f17, _, drK seat true, Try.func17, rfl, by kernel_rfl, by kernel_rfl, by kernel_rfl, by kernel_rfl, fun _ _ h => draw_sound mixed h⟩⟩
theorem ok_81 : FnOk seat 81 jacquardref6_Next := ⟨⟨Try.f18, _, drK seat true, Try.func18, rfl, by kernel_rfl, by kernel_rfl, by kernel_rfl, by kernel_rfl, fun _ _ h => draw_sound mixed h⟩⟩
theorem ok_88 : FnOk seat 88 event_Inits := ⟨⟨Try.f25, _, drK seat true, Try.func25, rfl, by kernel_rfl, by kernel_rfl, by kernel_rfl, by kernel_rfl, fun _ _ h => draw_sound mixed h⟩⟩
theorem ok_94 : FnOk seat 94 prog_Start := ⟨⟨Try.f33, _, drK seat true, Try.func33, rfl, by kernel_rfl, by kernel_rfl, by kernel_rfl, by kernel_rfl, fun _ _ h => draw_sound mixed h⟩⟩
theorem ok_97 : FnOk seat 97 jacquardlaw3_Small := ⟨⟨Try.f36, _, drK seat true, Try.func36, rfl, by kernel_rfl, by kernel_rfl, by kernel_rfl, by kernel_rfl, fun _ _ h => draw_sound mixed h⟩⟩
theorem ok_101 : FnOk seat 101 jacquardref6_Compile := ⟨⟨Try.f40, _, drK seat true, Try.func40, rfl, by kernel_rfl, by kernel_rfl, by kernel_rfl, by kernel_rfl, fun _ _ h => draw_sound mixed h⟩⟩
theorem ok_105 : FnOk seat 105 prog_Next := ⟨⟨Try.f44, _, drK seat true, Try.func44, rfl, by kernel_rfl, by kernel_rfl, by kernel_rfl, by kernel_rfl, fun _ _ h => draw_sound mixed h⟩⟩
theorem ok_106 : FnOk seat 106 prog_After := ⟨⟨Try.f45, _, drK seat true, Try.func45, rfl, by kernel_rfl, by kernel_rfl, by kernel_rfl, by kernel_rfl, fun _ _ h => draw_sound mixed h⟩⟩
theorem ok_108 : FnOk seat 108 prog_Value := ⟨⟨Try.f47, _, drK seat true, Try.func47, rfl, by kernel_rfl, by kernel_rfl, by kernel_rfl, by kernel_rfl, fun _ _ h => draw_sound mixed h⟩⟩
theorem ok_109 : FnOk seat 109 event_Of := ⟨⟨Try.f48, _, drK seat true, Try.func48, rfl, by kernel_rfl, by kernel_rfl, by kernel_rfl, by kernel_rfl, fun _ _ h => draw_sound mixed h⟩⟩
theorem ok_110 : FnOk seat 110 jacquardref6_there := ⟨⟨Try.f49, _, drK seat true, Try.func49, rfl, by kernel_rfl, by kernel_rfl, by kernel_rfl, by kernel_rfl, fun _ _ h => draw_sound mixed h⟩⟩
theorem ok_113 : FnOk seat 113 prog_thread := ⟨⟨Try.f57, _, drK seat true, Try.func57, rfl, by kernel_rfl, by kernel_rfl, by kernel_rfl, by kernel_rfl, fun _ _ h => draw_sound mixed h⟩⟩
theorem ok_114 : FnOk seat 114 prog_normal := ⟨⟨Try.f56, _, drK seat true, Try.func56, rfl, by kernel_rfl, by kernel_rfl, by kernel_rfl, by kernel_rfl, fun _ _ h => draw_sound mixed h⟩⟩
theorem ok_115 : FnOk seat 115 jacquardlaw3_Small_1 := ⟨⟨Try.f58, _, drK seat true, Try.func58, rfl, by kernel_rfl, by kernel_rfl, by kernel_rfl, by kernel_rfl, fun _ _ h => draw_sound mixed h⟩⟩
theorem ok_121 : FnOk seat 121 jacquardref2_Locs := ⟨⟨Try.f65, _, drK seat true, Try.func65, rfl, by kernel_rfl, by kernel_rfl, by kernel_rfl, by kernel_rfl, fun _ _ h => draw_sound mixed h⟩⟩
theorem ok_122 : FnOk seat 122 jacquardref6_Place := ⟨⟨Try.f66, _, drK seat true, Try.func66, rfl, by kernel_rfl, by kernel_rfl, by kernel_rfl, by kernel_rfl, fun _ _ h => draw_sound mixed h⟩⟩
theorem ok_124 : FnOk seat 124 prog_set := ⟨⟨Try.f68, _, drK seat true, Try.func68, rfl, by kernel_rfl, by kernel_rfl, by kernel_rfl, by kernel_rfl, fun _ _ h => draw_sound mixed h⟩⟩
theorem ok_125 : FnOk seat 125 num_Do := ⟨⟨Try.f71, _, drK seat true, Try.func71, rfl, by kernel_rfl, by kernel_rfl, by kernel_rfl, by kernel_rfl, fun _ _ h => draw_sound mixed h⟩⟩
theorem ok_139 : FnOk seat 139 num_one := ⟨⟨Try.f86, _, drK seat true, Try.func86, rfl, by kernel_rfl, by kernel_rfl, by kernel_rfl, by kernel_rfl, fun _ _ h => draw_sound mixed h⟩⟩
theorem ok_211 : FnOk seat 211 jacquardlaw10_EventCounts := ⟨⟨Try.f4, _, drK seat true, Try.func4, rfl, by kernel_rfl, by kernel_rfl, by kernel_rfl, by kernel_rfl, fun _ _ h => draw_sound mixed h⟩⟩

theorem allOk : ∀ g fn, env.fn g = some fn → FnOk seat g fn := by
  intro g fn h
  unfold env envFn at h
  dsimp only at h
  split at h
  · cases h; exact ok_76
  · cases h; exact ok_77
  · cases h; exact ok_78
  · cases h; exact ok_79
  · cases h; exact ok_80
  · cases h; exact ok_81
  · cases h; exact ok_88
  · cases h; exact ok_94
  · cases h; exact ok_97
  · cases h; exact ok_101
  · cases h; exact ok_105
  · cases h; exact ok_106
  · cases h; exact ok_108
  · cases h; exact ok_109
  · cases h; exact ok_110
  · cases h; exact ok_113
  · cases h; exact ok_114
  · cases h; exact ok_115
  · cases h; exact ok_121
  · cases h; exact ok_122
  · cases h; exact ok_124
  · cases h; exact ok_125
  · cases h; exact ok_139
  · cases h; exact ok_211
  · cases h

theorem in_115 : jacquardlaw3_Small_1_In env := { fn := rfl }
theorem in_97 : jacquardlaw3_Small_In env := { fn := rfl, c115 := in_115 }
theorem in_121 : jacquardref2_Locs_In env := { fn := rfl }
theorem in_122 : jacquardref6_Place_In env := { fn := rfl }
theorem in_101 : jacquardref6_Compile_In env := { fn := rfl, c121 := in_121, c122 := in_122 }
theorem in_76 : jacquardlaw6_Of_In env := { fn := rfl, c97 := in_97, c101 := in_101 }
theorem in_113 : prog_thread_In env := { fn := rfl }
theorem in_108 : prog_Value_In env := { fn := rfl }
theorem in_124 : prog_set_In env := { fn := rfl }
theorem in_139 : num_one_In env := { fn := rfl }
theorem in_125 : num_Do_In env := { fn := rfl, c139 := in_139 }
theorem in_114 : prog_normal_In env := { fn := rfl, c108 := in_108, c124 := in_124, c125 := in_125 }
theorem in_94 : prog_Start_In env := { fn := rfl, c113 := in_113, c114 := in_114 }
theorem in_105 : prog_Next_In env := { fn := rfl, c113 := in_113 }
theorem in_106 : prog_After_In env := { fn := rfl, c105 := in_105, c113 := in_113, c114 := in_114, c124 := in_124 }
theorem in_109 : event_Of_In env := { fn := rfl, c108 := in_108 }
theorem in_78 : event_Unfold_In env := { fn := rfl, c94 := in_94, c105 := in_105, c106 := in_106, c109 := in_109 }
theorem in_88 : event_Inits_In env := { fn := rfl }
theorem in_77 : jacquardlaw10_awake_In env := { fn := rfl, c78 := in_78, c88 := in_88 }
theorem in_79 : event_Reads_In env := { fn := rfl }
theorem in_80 : event_Writes_In env := { fn := rfl }
theorem in_110 : jacquardref6_there_In env := { fn := rfl }
theorem in_81 : jacquardref6_Next_In env := { fn := rfl, c110 := in_110 }
theorem in_211 : jacquardlaw10_EventCounts_In env := { fn := rfl, c76 := in_76, c77 := in_77, c78 := in_78, c79 := in_79, c80 := in_80, c81 := in_81 }

end Go.Proofs.Ytldfafaiappibaa.LEventCounts

namespace Jq
open Go

/- (jacquard/set.Set).Has: 17 -/
set_option maxRecDepth 100000 in
theorem set_Set_Has_eq (C : CallF) (L : LoopF) (G : Glo) (a0 : Int) (a1 : Int) (h0 : AHeap) :
    set_Set_Has.body C L G [(.c (.int .u64 a0)), (.c (.int .i64 a1))] h0 =
    c1 (C 19 [(.c (.int .i64 a1))] h0) fun y_2 h_1 => asI .u64 y_2 fun n_3 => some ([(.c (.bool ((G.band .u64 a0 n_3) != 0)))], h_1) := by kernel_rfl

/- (jacquard/set.Set).With: 18 -/
set_option maxRecDepth 100000 in
theorem set_Set_With_eq (C : CallF) (L : LoopF) (G : Glo) (a0 : Int) (a1 : Int) (h0 : AHeap) :
    set_Set_With.body C L G [(.c (.int .u64 a0)), (.c (.int .i64 a1))] h0 =
    c1 (C 19 [(.c (.int .i64 a1))] h0) fun y_2 h_1 => asI .u64 y_2 fun n_3 => some ([(.c (.int .u64 (G.bor .u64 a0 n_3)))], h_1) := by kernel_rfl

/- jacquard/set.bit: 19 -/
set_option maxRecDepth 100000 in
theorem set_bit_eq (C : CallF) (L : LoopF) (G : Glo) (a0 : Int) (h0 : AHeap) :
    set_bit.body C L G [(.c (.int .i64 a0))] h0 =
    scK (decide (a0 < 0)) false (some ((decide (a0 ≥ 64)), h0)) true h0 fun b_1 h_2 => if b_1 = true then some ([(.c (.int .u64 0))], h_2) else if (G.wrap .u64 a0) < 0 then none else some ([(.c (.int .u64 (G.shl .u64 1 (G.wrap .u64 a0))))], h_2) := by kernel_rfl

/- (jacquard/set.Set).List: 32 -/
def set_Set_List_k2 (C : CallF) (L : LoopF) (G : Glo) (h0 : AHeap) : Ex → St → Option (List AV × AHeap) :=
  kSeq (fun st => set_Set_List_p1.exec C L G st (set_Set_List.fin G h0)) (set_Set_List.fin G h0)
def set_Set_List_k3 (C : CallF) (L : LoopF) (G : Glo) (h0 : AHeap) : Ex → St → Option (List AV × AHeap) :=
  kBlk 0 (set_Set_List_k2 C L G h0)
def set_Set_List_s1 (a0 : Int) (x3 : Cell) (h : AHeap) : St := ⟨[.v (.c (.int .u64 a0)), .top, .top, .v (.c x3), .top, .top, .top, .top, .top, .top, .top, .top, .top, .top, .top, .top], [], h⟩
def set_Set_List_F1 (C : CallF) (L : LoopF) (G : Glo) : St → Option (Ex × St) :=
  roundF (fun st f => set_Set_List_b1.exec C L G st f) [0, 3] [] [(1, [3], [])]
def set_Set_List_x1_1 (x3 : Cell) (h : AHeap) : St := ⟨[.top, .top, .top, .v (.c x3), .top, .top, .top, .top, .top, .top, .top, .top, .top, .top, .top, .top], [], h⟩
theorem set_Set_List_r1 (C : CallF) (L : LoopF) (G : Glo) (a0 : Int) (x3 : Cell) (h : AHeap) :
    set_Set_List_F1 C L G (set_Set_List_s1 a0 x3 h) =
    if (a0 != 0) = true then c1 (C 38 [(.c (.int .u64 a0))] h) fun y_2 h_1 => asI .i64 y_2 fun n_3 => if (splice [Cell.int .i64 0] 0 ([(.int .i64 n_3)] : List Cell)).length = 1 * 1 then appK 1 8 x3 (splice [Cell.int .i64 0] 0 ([(.int .i64 n_3)] : List Cell)) h_1 fun x_4 h_5 => some (.normal, (set_Set_List_s1 (G.band .u64 a0 (G.wrap .u64 (a0 - 1))) x_4 h_5)) else none else some ((.exit 0), (set_Set_List_x1_1 x3 h)) := by kernel_rfl
theorem set_Set_List_e1_1 (C : CallF) (L : LoopF) (G : Glo) (h0 : AHeap) (x3 : Cell) (h : AHeap) :
    (set_Set_List_k3 C L G h0) (.exit 0) (set_Set_List_x1_1 x3 h) =
    some ([(.c x3)], h) := by kernel_rfl
set_option maxRecDepth 100000 in
theorem set_Set_List_eq (C : CallF) (L : LoopF) (G : Glo) (a0 : Int) (h0 : AHeap) :
    set_Set_List.body C L G [(.c (.int .u64 a0))] h0 =
    (L (set_Set_List_F1 C L G) (set_Set_List_s1 a0 .nils h0)).bind fun p_6 => (set_Set_List_k3 C L G h0) p_6.1 p_6.2 := by kernel_rfl

/- (jacquard/set.Set).First: 38 -/
set_option maxRecDepth 100000 in
theorem set_Set_First_eq (C : CallF) (L : LoopF) (G : Glo) (a0 : Int) (h0 : AHeap) :
    set_Set_First.body C L G [(.c (.int .u64 a0))] h0 =
    if (a0 == 0) = true then some ([(.c (.int .i64 (-1)))], h0) else c1 (C 42 [(.c (.int .u64 a0))] h0) fun y_2 h_1 => asI .i64 y_2 fun n_3 => some ([(.c (.int .i64 n_3))], h_1) := by kernel_rfl

/- (jacquard/set.Set).Len: 56 -/
set_option maxRecDepth 100000 in
theorem set_Set_Len_eq (C : CallF) (L : LoopF) (G : Glo) (a0 : Int) (h0 : AHeap) :
    set_Set_Len.body C L G [(.c (.int .u64 a0))] h0 =
    c1 (C 57 [(.c (.int .u64 a0))] h0) fun y_2 h_1 => asI .i64 y_2 fun n_3 => some ([(.c (.int .i64 n_3))], h_1) := by kernel_rfl

/- (jacquard/set.Set).Next: 60 -/
set_option maxRecDepth 100000 in
theorem set_Set_Next_eq (C : CallF) (L : LoopF) (G : Glo) (a0 : Int) (h0 : AHeap) :
    set_Set_Next.body C L G [(.c (.int .u64 a0))] h0 =
    if (a0 == 0) = true then some ([(.c (.int .u64 0))], h0) else let v_1 : Int := (G.wrap .u64 (a0 + (G.band .u64 a0 (G.wrap .u64 (0 - a0))))); if (v_1 == 0) = true then some ([(.c (.int .u64 0))], h0) else c1 (C 38 [(.c (.int .u64 (G.band .u64 a0 (G.wrap .u64 (0 - a0)))))] h0) fun y_3 h_2 => asI .i64 y_3 fun n_4 => if (G.wrap .u64 n_4) < 0 then none else let v_5 : Int := (G.shr .u64 (G.shr .u64 (G.bxor .u64 a0 v_1) 2) (G.wrap .u64 n_4)); some ([(.c (.int .u64 (G.bor .u64 v_1 v_5)))], h_2) := by kernel_rfl

/- jacquard/set.Upto: 61 -/
set_option maxRecDepth 100000 in
theorem set_Upto_eq (C : CallF) (L : LoopF) (G : Glo) (a0 : Int) (h0 : AHeap) :
    set_Upto.body C L G [(.c (.int .i64 a0))] h0 =
    let v_1 : Int := (if 64 < (if 0 > a0 then 0 else a0) then 64 else (if 0 > a0 then 0 else a0)); if (v_1 == 64) = true then some ([(.c (.int .u64 18446744073709551615))], h0) else if (G.wrap .u64 v_1) < 0 then none else let v_2 : Int := (G.wrap .u64 ((G.shl .u64 1 (G.wrap .u64 v_1)) - 1)); some ([(.c (.int .u64 v_2))], h0) := by kernel_rfl

/- (jacquard/set.Set).Without: 63 -/
set_option maxRecDepth 100000 in
theorem set_Set_Without_eq (C : CallF) (L : LoopF) (G : Glo) (a0 : Int) (a1 : Int) (h0 : AHeap) :
    set_Set_Without.body C L G [(.c (.int .u64 a0)), (.c (.int .i64 a1))] h0 =
    c1 (C 19 [(.c (.int .i64 a1))] h0) fun y_2 h_1 => asI .u64 y_2 fun n_3 => some ([(.c (.int .u64 (G.bandNot .u64 a0 n_3)))], h_1) := by kernel_rfl

/- jacquard/set.Of: 65 -/
def set_Of_k2 (C : CallF) (L : LoopF) (G : Glo) (h0 : AHeap) : Ex → St → Option (List AV × AHeap) :=
  kSeq (fun st => set_Of_p1.exec C L G st (set_Of.fin G h0)) (set_Of.fin G h0)
def set_Of_k3 (C : CallF) (L : LoopF) (G : Glo) (h0 : AHeap) : Ex → St → Option (List AV × AHeap) :=
  kBlk 0 (set_Of_k2 C L G h0)
def set_Of_s1 (a3 : Int) (x6 : Cell) (a7 : Int) (a8 : Int) (h : AHeap) : St := ⟨[.top, .top, .top, .v (.c (.int .u64 a3)), .top, .top, .v (.c x6), .v (.c (.int .i64 a7)), .v (.c (.int .i64 a8)), .top, .top, .top, .top, .top, .top, .top, .top], [], h⟩
def set_Of_F1 (C : CallF) (L : LoopF) (G : Glo) : St → Option (Ex × St) :=
  roundF (fun st f => set_Of_b1.exec C L G st f) [3, 6, 7, 8] [] [(1, [3], [])]
def set_Of_x1_1 (a3 : Int) (h : AHeap) : St := ⟨[.top, .top, .top, .v (.c (.int .u64 a3)), .top, .top, .top, .top, .top, .top, .top, .top, .top, .top, .top, .top, .top], [], h⟩
theorem set_Of_r1 (C : CallF) (L : LoopF) (G : Glo) (a3 : Int) (x6 : Cell) (a7 : Int) (a8 : Int) (h : AHeap) :
    set_Of_F1 C L G (set_Of_s1 a3 x6 a7 a8 h) =
    if (decide (a8 < a7)) = true then idxSK 1 x6 a8 fun k_2 N_3 o_4 => rdH h k_2 N_3 fun l_5 => atK l_5 o_4 fun q_6 => asI .i64 (.c q_6) fun n_7 => c1 (C 18 [(.c (.int .u64 a3)), (.c (.int .i64 n_7))] h) fun y_9 h_8 => asI .u64 y_9 fun n_10 => some (.normal, (set_Of_s1 n_10 x6 a7 (G.wrap .i64 (a8 + 1)) h_8)) else some ((.exit 0), (set_Of_x1_1 a3 h)) := by kernel_rfl
theorem set_Of_e1_1 (C : CallF) (L : LoopF) (G : Glo) (h0 : AHeap) (a3 : Int) (h : AHeap) :
    (set_Of_k3 C L G h0) (.exit 0) (set_Of_x1_1 a3 h) =
    some ([(.c (.int .u64 a3))], h) := by kernel_rfl
set_option maxRecDepth 100000 in
theorem set_Of_eq (C : CallF) (L : LoopF) (G : Glo) (x0 : Cell) (h0 : AHeap) :
    set_Of.body C L G [(.c x0)] h0 =
    lenK x0 fun n_1 => (L (set_Of_F1 C L G) (set_Of_s1 0 x0 n_1 0 h0)).bind fun p_11 => (set_Of_k3 C L G h0) p_11.1 p_11.2 := by kernel_rfl


end Jq

/- Few numbers in one word: what the package's functions come to. -/
namespace Jq
open Go

/-- A number's bit. -/
def bitI (i : Int) : Nat := if 0 ≤ i ∧ i < 64 then 2 ^ i.toNat else 0

theorem bitI_lt (i : Int) : bitI i < 2 ^ 64 := by
  unfold bitI; split
  · exact Nat.pow_lt_pow_right (by omega) (by omega)
  · omega

theorem testBit_bitI (i : Int) (j : Nat) : (bitI i).testBit j = (decide (i = j) && decide (j < 64)) := by
  unfold bitI; split
  · rename_i h
    rw [Nat.testBit_two_pow]
    rw [Bool.eq_iff_iff]; simp; omega
  · rename_i h
    rw [Nat.zero_testBit, eq_comm, Bool.eq_false_iff]; simp; omega

/-- Whether a number is in it. -/
def hasI (s : Nat) (i : Int) : Bool := decide (0 ≤ i) && s.testBit i.toNat && decide (i < 64)

theorem and_bitI {s : Nat} (i : Int) : ((s &&& bitI i) != 0) = hasI s i := by
  unfold hasI bitI
  by_cases h : 0 ≤ i ∧ i < 64
  · rw [if_pos h]
    simp only [h.1, h.2, decide_true, Bool.true_and, Bool.and_true]
    cases hb : s.testBit i.toNat with
    | true =>
      simp only [bne_iff_ne, ne_eq]
      intro h0
      have := congrArg (fun x => x.testBit i.toNat) h0
      simp [Nat.testBit_and, hb, Nat.testBit_two_pow] at this
    | false =>
      have : s &&& 2 ^ i.toNat = 0 := by
        refine Nat.eq_of_testBit_eq fun j => ?_
        rw [Nat.testBit_and, Nat.testBit_two_pow, Nat.zero_testBit]
        by_cases hj : i.toNat = j
        · subst hj; simp [hb]
        · simp [hj]
      simp [this]
  · rw [if_neg h]
    have : ¬ (0 ≤ i) ∨ ¬ (i < 64) := by omega
    rcases this with h | h <;> simp [h]

theorem hasI_nat {s i : Nat} (hi : i < 64) : hasI s (i : Int) = s.testBit i := by
  unfold hasI; simp; omega

variable {E : Env}

theorem bit_R (hE : set_bit_In E) (i : Int) (h : AHeap) : R E 19 [.c (.int .i64 i)] h = some ([.c (.int .u64 (bitI i))], h) := by
  refine R_intro hE.fn ?_
  rw [set_bit_eq, scK_or]
  unfold bitI
  by_cases hi : 0 ≤ i ∧ i < 64
  · have h1 : (decide (i < 0) || decide (i ≥ 64)) = false := by simp; omega
    rw [h1, if_pos hi]
    obtain ⟨n, rfl⟩ := Int.eq_ofNat_of_zero_le hi.1
    have hw : E.glob.wrap .u64 (n : Int) = n := wrap_u64n (by omega)
    rw [hw]
    simp only [Bool.false_eq_true, if_false]
    rw [if_neg (by omega), show E.glob.shl .u64 1 (n : Int) = _ from std_shl_one (by omega)]
    simp
  · have h1 : (decide (i < 0) || decide (i ≥ 64)) = true := by simp; omega
    rw [h1, if_neg hi]; simp

theorem Has_R (hE : set_Set_Has_In E) {s : Nat} (hs : s < 2 ^ 64) (i : Int) (h : AHeap) : R E 17 [.c (.int .u64 s), .c (.int .i64 i)] h = some ([.c (.bool (hasI s i))], h) := by
  refine R_intro hE.fn ?_
  rw [set_Set_Has_eq, bit_R hE.c19, c1_ok, asI_ok, show E.glob.band .u64 (s : Int) _ = _ from std_band hs (bitI_lt i), ← and_bitI]
  have : (((s &&& bitI i : Nat) : Int) != 0) = (s &&& bitI i != 0) := by rw [Bool.eq_iff_iff]; simp
  rw [this]

theorem With_R (hE : set_Set_With_In E) {s : Nat} (hs : s < 2 ^ 64) (i : Int) (h : AHeap) : R E 18 [.c (.int .u64 s), .c (.int .i64 i)] h = some ([.c (.int .u64 ((s ||| bitI i : Nat) : Int))], h) := by
  refine R_intro hE.fn ?_
  rw [set_Set_With_eq, bit_R hE.c19, c1_ok, asI_ok, show E.glob.bor .u64 (s : Int) _ = _ from std_bor hs (bitI_lt i)]

theorem Without_R (hE : set_Set_Without_In E) {s : Nat} (hs : s < 2 ^ 64) (i : Int) (h : AHeap) : R E 63 [.c (.int .u64 s), .c (.int .i64 i)] h = some ([.c (.int .u64 ((ndiff s (bitI i) : Nat) : Int))], h) := by
  refine R_intro hE.fn ?_
  rw [set_Set_Without_eq, bit_R hE.c19, c1_ok, asI_ok, show E.glob.bandNot .u64 (s : Int) _ = _ from std_bandNot hs (bitI_lt i)]

end Jq

namespace Jq
open Go

/- (jacquard/rel.Rel).Has: 3 -/
set_option maxRecDepth 100000 in
theorem rel_Rel_Has_eq (C : CallF) (L : LoopF) (G : Glo) (l0 : List Cell) (a1 : Int) (a2 : Int) (h0 : AHeap) :
    rel_Rel_Has.body C L G [(.agg l0), (.c (.int .i64 a1)), (.c (.int .i64 a2))] h0 =
    if 0 = 0 ∧ l0.length = 65 then c1 (C 16 [(.agg l0), (.c (.int .i64 a1))] h0) fun y_2 h_1 => asB y_2 fun b_3 => scK b_3 true (if 0 ≤ a1 ∧ a1 < ((64 : Nat) : Int) then atK l0 (1 + ((Int.toNat a1) * 1)) fun q_4 => asI .u64 (.c q_4) fun n_5 => c1 (C 17 [(.c (.int .u64 n_5)), (.c (.int .i64 a2))] h_1) fun y_7 h_6 => asB y_7 fun b_8 => some (b_8, h_6) else none) false h_1 fun b_9 h_10 => some ([(.c (.bool b_9))], h_10) else none := by kernel_rfl

/- jacquard/rel.New: 9 -/
set_option maxRecDepth 100000 in
theorem rel_New_eq (C : CallF) (L : LoopF) (G : Glo) (a0 : Int) (h0 : AHeap) :
    rel_New.body C L G [(.c (.int .i64 a0))] h0 =
    let v_1 : Int := (if 64 < (if 0 > a0 then 0 else a0) then 64 else (if 0 > a0 then 0 else a0)); if 0 = 0 ∧ ([Cell.int .i64 0] ++ List.replicate 64 (Cell.int .u64 0)).length = 65 ∧ (splice ([Cell.int .i64 0] ++ List.replicate 64 (Cell.int .u64 0)) 0 ([(.int .i64 v_1)] : List Cell)).length = 65 then if 0 = 0 ∧ (splice ([Cell.int .i64 0] ++ List.replicate 64 (Cell.int .u64 0)) 0 ([(.int .i64 v_1)] : List Cell)).length = 65 then some ([(.agg (splice ([Cell.int .i64 0] ++ List.replicate 64 (Cell.int .u64 0)) 0 ([(.int .i64 v_1)] : List Cell)))], h0) else none else none := by kernel_rfl

/- (jacquard/rel.Rel).Add: 10 -/
set_option maxRecDepth 100000 in
theorem rel_Rel_Add_eq (C : CallF) (L : LoopF) (G : Glo) (l0 : List Cell) (a1 : Int) (a2 : Int) (h0 : AHeap) :
    rel_Rel_Add.body C L G [(.agg l0), (.c (.int .i64 a1)), (.c (.int .i64 a2))] h0 =
    if 0 = 0 ∧ l0.length = 65 then c1 (C 16 [(.agg l0), (.c (.int .i64 a1))] h0) fun y_2 h_1 => asB y_2 fun b_3 => scK b_3 true (if 0 = 0 ∧ l0.length = 65 then c1 (C 16 [(.agg l0), (.c (.int .i64 a2))] h_1) fun y_5 h_4 => asB y_5 fun b_6 => some (b_6, h_4) else none) false h_1 fun b_7 h_8 => if b_7 = true then if 0 ≤ a1 ∧ a1 < ((64 : Nat) : Int) then atK l0 (1 + ((Int.toNat a1) * 1)) fun q_9 => asI .u64 (.c q_9) fun n_10 => c1 (C 18 [(.c (.int .u64 n_10)), (.c (.int .i64 a2))] h_8) fun y_12 h_11 => asI .u64 y_12 fun n_13 => if 0 ≤ a1 ∧ a1 < ((64 : Nat) : Int) then if (1 + ((Int.toNat a1) * 1)) < l0.length then if 0 = 0 ∧ (l0.set (1 + ((Int.toNat a1) * 1)) (.int .u64 n_13)).length = 65 then if 0 = 0 ∧ ([Cell.int .i64 0] ++ List.replicate 64 (Cell.int .u64 0)).length = 65 ∧ (l0.set (1 + ((Int.toNat a1) * 1)) (.int .u64 n_13)).length = 65 then if 0 = 0 ∧ (l0.set (1 + ((Int.toNat a1) * 1)) (.int .u64 n_13)).length = 65 then some ([(.agg (l0.set (1 + ((Int.toNat a1) * 1)) (.int .u64 n_13)))], h_11) else none else none else none else none else none else none else if 0 = 0 ∧ l0.length = 65 then if 0 = 0 ∧ ([Cell.int .i64 0] ++ List.replicate 64 (Cell.int .u64 0)).length = 65 ∧ l0.length = 65 then if 0 = 0 ∧ l0.length = 65 then some ([(.agg l0)], h_8) else none else none else none else none := by kernel_rfl

/- (jacquard/rel.Rel).Closure: 12 -/
def rel_Rel_Closure_k2 (C : CallF) (L : LoopF) (G : Glo) (h0 : AHeap) : Ex → St → Option (List AV × AHeap) :=
  kSeq (fun st => rel_Rel_Closure_p1.exec C L G st (rel_Rel_Closure.fin G h0)) (rel_Rel_Closure.fin G h0)
def rel_Rel_Closure_k3 (C : CallF) (L : LoopF) (G : Glo) (h0 : AHeap) : Ex → St → Option (List AV × AHeap) :=
  kBlk 0 (rel_Rel_Closure_k2 C L G h0)
def rel_Rel_Closure_s2 (a6 : Int) (a7 : Int) (s0 : List Cell) (s1 : List Cell) (h : AHeap) : St := ⟨[.top, .loc 0 0, .loc 1 0, .top, .top, .top, .v (.c (.int .i64 a6)), .v (.c (.int .i64 a7)), .top, .top, .top, .top, .top, .top, .top, .top, .top, .top, .top, .top, .top, .top, .top, .top, .top, .top, .top, .top, .top, .top, .top, .top, .top, .top, .top], [some s0, some s1], h⟩
def rel_Rel_Closure_F2 (C : CallF) (L : LoopF) (G : Glo) : St → Option (Ex × St) :=
  roundF (fun st f => rel_Rel_Closure_b2.exec C L G st f) [1, 2, 6, 7] [0, 1] [(1, [1, 2], [0, 1])]
def rel_Rel_Closure_k4 (C : CallF) (L : LoopF) (G : Glo) : Ex → St → Option (Ex × St) :=
  kSeq (fun st => rel_Rel_Closure_p2.exec C L G st (kLoop [1, 2, 6, 7] [0, 1] [(1, [1, 2], [0, 1])])) (kLoop [1, 2, 6, 7] [0, 1] [(1, [1, 2], [0, 1])])
def rel_Rel_Closure_k5 (C : CallF) (L : LoopF) (G : Glo) : Ex → St → Option (Ex × St) :=
  kBlk 1 (rel_Rel_Closure_k4 C L G)
def rel_Rel_Closure_k6 (C : CallF) (L : LoopF) (G : Glo) : Ex → St → Option (Ex × St) :=
  kBlk 2 (rel_Rel_Closure_k5 C L G)
def rel_Rel_Closure_s1 (a3 : Int) (a6 : Int) (a7 : Int) (a11 : Int) (a12 : Int) (s0 : List Cell) (s1 : List Cell) (h : AHeap) : St := ⟨[.top, .loc 0 0, .loc 1 0, .v (.c (.int .i64 a3)), .top, .top, .v (.c (.int .i64 a6)), .v (.c (.int .i64 a7)), .top, .top, .top, .v (.c (.int .i64 a11)), .v (.c (.int .i64 a12)), .top, .top, .top, .top, .top, .top, .top, .top, .top, .top, .top, .top, .top, .top, .top, .top, .top, .top, .top, .top, .top, .top], [some s0, some s1], h⟩
def rel_Rel_Closure_F1 (C : CallF) (L : LoopF) (G : Glo) : St → Option (Ex × St) :=
  roundF (fun st f => rel_Rel_Closure_b1.exec C L G st f) [1, 2, 3, 6, 7, 11, 12] [0, 1] [(3, [1, 2, 6, 7], [0, 1])]
def rel_Rel_Closure_x1_3 (a6 : Int) (a7 : Int) (s0 : List Cell) (s1 : List Cell) (h : AHeap) : St := ⟨[.top, .loc 0 0, .loc 1 0, .top, .top, .top, .v (.c (.int .i64 a6)), .v (.c (.int .i64 a7)), .top, .top, .top, .top, .top, .top, .top, .top, .top, .top, .top, .top, .top, .top, .top, .top, .top, .top, .top, .top, .top, .top, .top, .top, .top, .top, .top], [some s0, some s1], h⟩
def rel_Rel_Closure_x2_1 (s0 : List Cell) (s1 : List Cell) (h : AHeap) : St := ⟨[.top, .loc 0 0, .loc 1 0, .top, .top, .top, .top, .top, .top, .top, .top, .top, .top, .top, .top, .top, .top, .top, .top, .top, .top, .top, .top, .top, .top, .top, .top, .top, .top, .top, .top, .top, .top, .top, .top], [some s0, some s1], h⟩
theorem rel_Rel_Closure_r1 (C : CallF) (L : LoopF) (G : Glo) (a3 : Int) (a6 : Int) (a7 : Int) (a11 : Int) (a12 : Int) (s0 : List Cell) (s1 : List Cell) (h : AHeap) :
    rel_Rel_Closure_F1 C L G (rel_Rel_Closure_s1 a3 a6 a7 a11 a12 s0 s1 h) =
    if (decide (a12 < a11)) = true then if 0 ≤ a12 ∧ a12 < ((64 : Nat) : Int) then atK s0 (1 + ((Int.toNat a12) * 1)) fun q_5 => asI .u64 (.c q_5) fun n_6 => c1 (C 17 [(.c (.int .u64 n_6)), (.c (.int .i64 a3))] h) fun y_8 h_7 => asB y_8 fun b_9 => if b_9 = true then if 0 ≤ a12 ∧ a12 < ((64 : Nat) : Int) then atK s0 (1 + ((Int.toNat a12) * 1)) fun q_10 => asI .u64 (.c q_10) fun n_11 => if 0 ≤ a3 ∧ a3 < ((64 : Nat) : Int) then atK s0 (1 + ((Int.toNat a3) * 1)) fun q_12 => asI .u64 (.c q_12) fun n_13 => if 0 ≤ a12 ∧ a12 < ((64 : Nat) : Int) then if (1 + ((Int.toNat a12) * 1)) < s0.length then some (.normal, (rel_Rel_Closure_s1 a3 a6 a7 a11 (G.wrap .i64 (a12 + 1)) (s0.set (1 + ((Int.toNat a12) * 1)) (.int .u64 (G.bor .u64 n_11 n_13))) s1 h_7)) else none else none else none else none else some (.normal, (rel_Rel_Closure_s1 a3 a6 a7 a11 (G.wrap .i64 (a12 + 1)) s0 s1 h_7)) else none else some ((.exit 2), (rel_Rel_Closure_x1_3 a6 a7 s0 s1 h)) := by kernel_rfl
theorem rel_Rel_Closure_e1_3 (C : CallF) (L : LoopF) (G : Glo) (a6 : Int) (a7 : Int) (s0 : List Cell) (s1 : List Cell) (h : AHeap) :
    (rel_Rel_Closure_k6 C L G) (.exit 2) (rel_Rel_Closure_x1_3 a6 a7 s0 s1 h) =
    some (.normal, (rel_Rel_Closure_s2 a6 (G.wrap .i64 (a7 + 1)) s0 s1 h)) := by kernel_rfl
theorem rel_Rel_Closure_r2 (C : CallF) (L : LoopF) (G : Glo) (a6 : Int) (a7 : Int) (s0 : List Cell) (s1 : List Cell) (h : AHeap) :
    rel_Rel_Closure_F2 C L G (rel_Rel_Closure_s2 a6 a7 s0 s1 h) =
    if (decide (a7 < a6)) = true then atK s0 0 fun q_3 => asI .i64 (.c q_3) fun n_4 => (L (rel_Rel_Closure_F1 C L G) (rel_Rel_Closure_s1 a7 a6 a7 n_4 0 s0 s1 h)).bind fun p_14 => (rel_Rel_Closure_k6 C L G) p_14.1 p_14.2 else some ((.exit 0), (rel_Rel_Closure_x2_1 s0 s1 h)) := by kernel_rfl
theorem rel_Rel_Closure_e2_1 (C : CallF) (L : LoopF) (G : Glo) (h0 : AHeap) (s0 : List Cell) (s1 : List Cell) (h : AHeap) :
    (rel_Rel_Closure_k3 C L G h0) (.exit 0) (rel_Rel_Closure_x2_1 s0 s1 h) =
    if 0 = 0 ∧ s0.length = 65 then if 0 = 0 ∧ s1.length = 65 ∧ s0.length = 65 then if 0 = 0 ∧ s0.length = 65 then some ([(.agg s0)], h) else none else none else none := by kernel_rfl
set_option maxRecDepth 100000 in
theorem rel_Rel_Closure_eq (C : CallF) (L : LoopF) (G : Glo) (l0 : List Cell) (h0 : AHeap) :
    rel_Rel_Closure.body C L G [(.agg l0)] h0 =
    atK l0 0 fun q_1 => asI .i64 (.c q_1) fun n_2 => (L (rel_Rel_Closure_F2 C L G) (rel_Rel_Closure_s2 n_2 0 l0 ([Cell.int .i64 0] ++ List.replicate 64 (Cell.int .u64 0)) h0)).bind fun p_15 => (rel_Rel_Closure_k3 C L G h0) p_15.1 p_15.2 := by kernel_rfl

/- (jacquard/rel.Rel).N: 14 -/
set_option maxRecDepth 100000 in
theorem rel_Rel_N_eq (C : CallF) (L : LoopF) (G : Glo) (l0 : List Cell) (h0 : AHeap) :
    rel_Rel_N.body C L G [(.agg l0)] h0 =
    atK l0 0 fun q_1 => asI .i64 (.c q_1) fun n_2 => some ([(.c (.int .i64 n_2))], h0) := by kernel_rfl

/- (jacquard/rel.Rel).in: 16 -/
set_option maxRecDepth 100000 in
theorem rel_Rel_in_eq (C : CallF) (L : LoopF) (G : Glo) (l0 : List Cell) (a1 : Int) (h0 : AHeap) :
    rel_Rel_in.body C L G [(.agg l0), (.c (.int .i64 a1))] h0 =
    scK (decide (a1 ≥ 0)) true (atK l0 0 fun q_1 => asI .i64 (.c q_1) fun n_2 => some ((decide (a1 < n_2)), h0)) false h0 fun b_3 h_4 => some ([(.c (.bool b_3))], h_4) := by kernel_rfl

/- (jacquard/rel.Rel).Pairs: 20 -/
def rel_Rel_Pairs_k2 (C : CallF) (L : LoopF) (G : Glo) (h0 : AHeap) : Ex → St → Option (List AV × AHeap) :=
  kSeq (fun st => rel_Rel_Pairs_p1.exec C L G st (rel_Rel_Pairs.fin G h0)) (rel_Rel_Pairs.fin G h0)
def rel_Rel_Pairs_k3 (C : CallF) (L : LoopF) (G : Glo) (h0 : AHeap) : Ex → St → Option (List AV × AHeap) :=
  kBlk 0 (rel_Rel_Pairs_k2 C L G h0)
def rel_Rel_Pairs_s2 (x3 : Cell) (a8 : Int) (a9 : Int) (s0 : List Cell) (h : AHeap) : St := ⟨[.top, .loc 0 0, .top, .v (.c x3), .top, .top, .top, .top, .v (.c (.int .i64 a8)), .v (.c (.int .i64 a9)), .top, .top, .top, .top, .top, .top, .top, .top, .top, .top, .top, .top, .top, .top, .top, .top, .top, .top, .top, .top, .top], [some s0], h⟩
def rel_Rel_Pairs_F2 (C : CallF) (L : LoopF) (G : Glo) : St → Option (Ex × St) :=
  roundF (fun st f => rel_Rel_Pairs_b2.exec C L G st f) [1, 3, 8, 9] [0] [(1, [3], [])]
def rel_Rel_Pairs_k4 (C : CallF) (L : LoopF) (G : Glo) : Ex → St → Option (Ex × St) :=
  kSeq (fun st => rel_Rel_Pairs_p2.exec C L G st (kLoop [1, 3, 8, 9] [0] [(1, [3], [])])) (kLoop [1, 3, 8, 9] [0] [(1, [3], [])])
def rel_Rel_Pairs_k5 (C : CallF) (L : LoopF) (G : Glo) : Ex → St → Option (Ex × St) :=
  kBlk 1 (rel_Rel_Pairs_k4 C L G)
def rel_Rel_Pairs_k6 (C : CallF) (L : LoopF) (G : Glo) : Ex → St → Option (Ex × St) :=
  kBlk 2 (rel_Rel_Pairs_k5 C L G)
def rel_Rel_Pairs_s1 (x3 : Cell) (a4 : Int) (a8 : Int) (a9 : Int) (x16 : Cell) (a17 : Int) (a18 : Int) (s0 : List Cell) (h : AHeap) : St := ⟨[.top, .loc 0 0, .top, .v (.c x3), .v (.c (.int .i64 a4)), .top, .top, .top, .v (.c (.int .i64 a8)), .v (.c (.int .i64 a9)), .top, .top, .top, .top, .top, .top, .v (.c x16), .v (.c (.int .i64 a17)), .v (.c (.int .i64 a18)), .top, .top, .top, .top, .top, .top, .top, .top, .top, .top, .top, .top], [some s0], h⟩
def rel_Rel_Pairs_F1 (C : CallF) (L : LoopF) (G : Glo) : St → Option (Ex × St) :=
  roundF (fun st f => rel_Rel_Pairs_b1.exec C L G st f) [1, 3, 4, 8, 9, 16, 17, 18] [0] [(3, [1, 3, 8, 9], [0])]
def rel_Rel_Pairs_x1_3 (x3 : Cell) (a8 : Int) (a9 : Int) (s0 : List Cell) (h : AHeap) : St := ⟨[.top, .loc 0 0, .top, .v (.c x3), .top, .top, .top, .top, .v (.c (.int .i64 a8)), .v (.c (.int .i64 a9)), .top, .top, .top, .top, .top, .top, .top, .top, .top, .top, .top, .top, .top, .top, .top, .top, .top, .top, .top, .top, .top], [some s0], h⟩
def rel_Rel_Pairs_x2_1 (x3 : Cell) (h : AHeap) : St := ⟨[.top, .top, .top, .v (.c x3), .top, .top, .top, .top, .top, .top, .top, .top, .top, .top, .top, .top, .top, .top, .top, .top, .top, .top, .top, .top, .top, .top, .top, .top, .top, .top, .top], [none], h⟩
theorem rel_Rel_Pairs_r1 (C : CallF) (L : LoopF) (G : Glo) (x3 : Cell) (a4 : Int) (a8 : Int) (a9 : Int) (x16 : Cell) (a17 : Int) (a18 : Int) (s0 : List Cell) (h : AHeap) :
    rel_Rel_Pairs_F1 C L G (rel_Rel_Pairs_s1 x3 a4 a8 a9 x16 a17 a18 s0 h) =
    if (decide (a18 < a17)) = true then idxSK 1 x16 a18 fun k_9 N_10 o_11 => rdH h k_9 N_10 fun l_12 => atK l_12 o_11 fun q_13 => asI .i64 (.c q_13) fun n_14 => if (splice (splice [Cell.int .i64 0, Cell.int .i64 0] 0 ([(.int .i64 a4)] : List Cell)) 1 ([(.int .i64 n_14)] : List Cell)).length = 2 ∧ 0 + 2 ≤ [Cell.int .i64 0, Cell.int .i64 0].length then if (splice [Cell.int .i64 0, Cell.int .i64 0] 0 (splice (splice [Cell.int .i64 0, Cell.int .i64 0] 0 ([(.int .i64 a4)] : List Cell)) 1 ([(.int .i64 n_14)] : List Cell))).length = 1 * 2 then appK 2 16 x3 (splice [Cell.int .i64 0, Cell.int .i64 0] 0 (splice (splice [Cell.int .i64 0, Cell.int .i64 0] 0 ([(.int .i64 a4)] : List Cell)) 1 ([(.int .i64 n_14)] : List Cell))) h fun x_15 h_16 => some (.normal, (rel_Rel_Pairs_s1 x_15 a4 a8 a9 x16 a17 (G.wrap .i64 (a18 + 1)) s0 h_16)) else none else none else some ((.exit 2), (rel_Rel_Pairs_x1_3 x3 a8 a9 s0 h)) := by kernel_rfl
theorem rel_Rel_Pairs_e1_3 (C : CallF) (L : LoopF) (G : Glo) (x3 : Cell) (a8 : Int) (a9 : Int) (s0 : List Cell) (h : AHeap) :
    (rel_Rel_Pairs_k6 C L G) (.exit 2) (rel_Rel_Pairs_x1_3 x3 a8 a9 s0 h) =
    some (.normal, (rel_Rel_Pairs_s2 x3 a8 (G.wrap .i64 (a9 + 1)) s0 h)) := by kernel_rfl
theorem rel_Rel_Pairs_r2 (C : CallF) (L : LoopF) (G : Glo) (x3 : Cell) (a8 : Int) (a9 : Int) (s0 : List Cell) (h : AHeap) :
    rel_Rel_Pairs_F2 C L G (rel_Rel_Pairs_s2 x3 a8 a9 s0 h) =
    if (decide (a9 < a8)) = true then if 0 ≤ a9 ∧ a9 < ((64 : Nat) : Int) then atK s0 (1 + ((Int.toNat a9) * 1)) fun q_3 => asI .u64 (.c q_3) fun n_4 => c1 (C 32 [(.c (.int .u64 n_4))] h) fun y_6 h_5 => asC y_6 fun x_7 => lenK x_7 fun n_8 => (L (rel_Rel_Pairs_F1 C L G) (rel_Rel_Pairs_s1 x3 a9 a8 a9 x_7 n_8 0 s0 h_5)).bind fun p_17 => (rel_Rel_Pairs_k6 C L G) p_17.1 p_17.2 else none else some ((.exit 0), (rel_Rel_Pairs_x2_1 x3 h)) := by kernel_rfl
theorem rel_Rel_Pairs_e2_1 (C : CallF) (L : LoopF) (G : Glo) (h0 : AHeap) (x3 : Cell) (h : AHeap) :
    (rel_Rel_Pairs_k3 C L G h0) (.exit 0) (rel_Rel_Pairs_x2_1 x3 h) =
    some ([(.c x3)], h) := by kernel_rfl
set_option maxRecDepth 100000 in
theorem rel_Rel_Pairs_eq (C : CallF) (L : LoopF) (G : Glo) (l0 : List Cell) (h0 : AHeap) :
    rel_Rel_Pairs.body C L G [(.agg l0)] h0 =
    atK l0 0 fun q_1 => asI .i64 (.c q_1) fun n_2 => (L (rel_Rel_Pairs_F2 C L G) (rel_Rel_Pairs_s2 .nils n_2 0 l0 h0)).bind fun p_18 => (rel_Rel_Pairs_k3 C L G h0) p_18.1 p_18.2 := by kernel_rfl

/- (jacquard/rel.Rel).Acyclic: 26 -/
def rel_Rel_Acyclic_k2 (C : CallF) (L : LoopF) (G : Glo) (h0 : AHeap) : Ex → St → Option (List AV × AHeap) :=
  kSeq (fun st => rel_Rel_Acyclic_p1.exec C L G st (rel_Rel_Acyclic.fin G h0)) (rel_Rel_Acyclic.fin G h0)
def rel_Rel_Acyclic_k3 (C : CallF) (L : LoopF) (G : Glo) (h0 : AHeap) : Ex → St → Option (List AV × AHeap) :=
  kBlk 0 (rel_Rel_Acyclic_k2 C L G h0)
def rel_Rel_Acyclic_s1 (a8 : Int) (a9 : Int) (s1 : List Cell) (h : AHeap) : St := ⟨[.top, .top, .top, .loc 1 0, .top, .top, .top, .top, .v (.c (.int .i64 a8)), .v (.c (.int .i64 a9)), .top, .top, .top, .top, .top, .top, .top, .top, .top], [none, some s1], h⟩
def rel_Rel_Acyclic_F1 (C : CallF) (L : LoopF) (G : Glo) : St → Option (Ex × St) :=
  roundF (fun st f => rel_Rel_Acyclic_b1.exec C L G st f) [3, 8, 9] [1] [(0, [2], []), (1, [], [])]
def rel_Rel_Acyclic_x1_0 (b2 : Bool) (h : AHeap) : St := ⟨[.top, .top, .v (.c (.bool b2)), .top, .top, .top, .top, .top, .top, .top, .top, .top, .top, .top, .top, .top, .top, .top, .top], [none, none], h⟩
def rel_Rel_Acyclic_x1_1 (h : AHeap) : St := ⟨[.top, .top, .top, .top, .top, .top, .top, .top, .top, .top, .top, .top, .top, .top, .top, .top, .top, .top, .top], [none, none], h⟩
theorem rel_Rel_Acyclic_r1 (C : CallF) (L : LoopF) (G : Glo) (a8 : Int) (a9 : Int) (s1 : List Cell) (h : AHeap) :
    rel_Rel_Acyclic_F1 C L G (rel_Rel_Acyclic_s1 a8 a9 s1 h) =
    if (decide (a9 < a8)) = true then if 0 ≤ a9 ∧ a9 < ((64 : Nat) : Int) then atK s1 (1 + ((Int.toNat a9) * 1)) fun q_6 => asI .u64 (.c q_6) fun n_7 => c1 (C 17 [(.c (.int .u64 n_7)), (.c (.int .i64 a9))] h) fun y_9 h_8 => asB y_9 fun b_10 => if b_10 = true then some (.ret, (rel_Rel_Acyclic_x1_0 false h_8)) else some (.normal, (rel_Rel_Acyclic_s1 a8 (G.wrap .i64 (a9 + 1)) s1 h_8)) else none else some ((.exit 0), (rel_Rel_Acyclic_x1_1 h)) := by kernel_rfl
theorem rel_Rel_Acyclic_e1_0 (C : CallF) (L : LoopF) (G : Glo) (h0 : AHeap) (b2 : Bool) (h : AHeap) :
    (rel_Rel_Acyclic_k3 C L G h0) .ret (rel_Rel_Acyclic_x1_0 b2 h) =
    some ([(.c (.bool b2))], h) := by kernel_rfl
theorem rel_Rel_Acyclic_e1_1 (C : CallF) (L : LoopF) (G : Glo) (h0 : AHeap) (h : AHeap) :
    (rel_Rel_Acyclic_k3 C L G h0) (.exit 0) (rel_Rel_Acyclic_x1_1 h) =
    some ([(.c (.bool true))], h) := by kernel_rfl
set_option maxRecDepth 100000 in
theorem rel_Rel_Acyclic_eq (C : CallF) (L : LoopF) (G : Glo) (l0 : List Cell) (h0 : AHeap) :
    rel_Rel_Acyclic.body C L G [(.agg l0)] h0 =
    if 0 = 0 ∧ l0.length = 65 then c1 (C 12 [(.agg l0)] h0) fun y_2 h_1 => asA y_2 fun l_3 => if 0 = 0 ∧ ([Cell.int .i64 0] ++ List.replicate 64 (Cell.int .u64 0)).length = 65 ∧ l_3.length = 65 then atK l_3 0 fun q_4 => asI .i64 (.c q_4) fun n_5 => (L (rel_Rel_Acyclic_F1 C L G) (rel_Rel_Acyclic_s1 n_5 0 l_3 h_1)).bind fun p_11 => (rel_Rel_Acyclic_k3 C L G h0) p_11.1 p_11.2 else none else none := by kernel_rfl

/- (jacquard/rel.Rel).Inverse: 40 -/
def rel_Rel_Inverse_k2 (C : CallF) (L : LoopF) (G : Glo) (h0 : AHeap) : Ex → St → Option (List AV × AHeap) :=
  kSeq (fun st => rel_Rel_Inverse_p1.exec C L G st (rel_Rel_Inverse.fin G h0)) (rel_Rel_Inverse.fin G h0)
def rel_Rel_Inverse_k3 (C : CallF) (L : LoopF) (G : Glo) (h0 : AHeap) : Ex → St → Option (List AV × AHeap) :=
  kBlk 0 (rel_Rel_Inverse_k2 C L G h0)
def rel_Rel_Inverse_s2 (a10 : Int) (a11 : Int) (s0 : List Cell) (s1 : List Cell) (s2 : List Cell) (h : AHeap) : St := ⟨[.top, .loc 0 0, .loc 1 0, .loc 2 0, .top, .top, .top, .top, .top, .top, .v (.c (.int .i64 a10)), .v (.c (.int .i64 a11)), .top, .top, .top, .top, .top, .top, .top, .top, .top, .top, .top, .top, .top, .top, .top, .top, .top, .top, .top, .top, .top, .top, .top, .top, .top], [some s0, some s1, some s2], h⟩
def rel_Rel_Inverse_F2 (C : CallF) (L : LoopF) (G : Glo) : St → Option (Ex × St) :=
  roundF (fun st f => rel_Rel_Inverse_b2.exec C L G st f) [1, 2, 3, 10, 11] [0, 1, 2] [(1, [2, 3], [1, 2])]
def rel_Rel_Inverse_k4 (C : CallF) (L : LoopF) (G : Glo) : Ex → St → Option (Ex × St) :=
  kSeq (fun st => rel_Rel_Inverse_p2.exec C L G st (kLoop [1, 2, 3, 10, 11] [0, 1, 2] [(1, [2, 3], [1, 2])])) (kLoop [1, 2, 3, 10, 11] [0, 1, 2] [(1, [2, 3], [1, 2])])
def rel_Rel_Inverse_k5 (C : CallF) (L : LoopF) (G : Glo) : Ex → St → Option (Ex × St) :=
  kBlk 1 (rel_Rel_Inverse_k4 C L G)
def rel_Rel_Inverse_k6 (C : CallF) (L : LoopF) (G : Glo) : Ex → St → Option (Ex × St) :=
  kBlk 2 (rel_Rel_Inverse_k5 C L G)
def rel_Rel_Inverse_s1 (a4 : Int) (a5 : Int) (a10 : Int) (a11 : Int) (s0 : List Cell) (s1 : List Cell) (s2 : List Cell) (h : AHeap) : St := ⟨[.top, .loc 0 0, .loc 1 0, .loc 2 0, .v (.c (.int .i64 a4)), .v (.c (.int .u64 a5)), .top, .top, .top, .top, .v (.c (.int .i64 a10)), .v (.c (.int .i64 a11)), .top, .top, .top, .top, .top, .top, .top, .top, .top, .top, .top, .top, .top, .top, .top, .top, .top, .top, .top, .top, .top, .top, .top, .top, .top], [some s0, some s1, some s2], h⟩
def rel_Rel_Inverse_F1 (C : CallF) (L : LoopF) (G : Glo) : St → Option (Ex × St) :=
  roundF (fun st f => rel_Rel_Inverse_b1.exec C L G st f) [1, 2, 3, 4, 5, 10, 11] [0, 1, 2] [(3, [1, 2, 3, 10, 11], [0, 1, 2])]
def rel_Rel_Inverse_x1_3 (a10 : Int) (a11 : Int) (s0 : List Cell) (s1 : List Cell) (s2 : List Cell) (h : AHeap) : St := ⟨[.top, .loc 0 0, .loc 1 0, .loc 2 0, .top, .top, .top, .top, .top, .top, .v (.c (.int .i64 a10)), .v (.c (.int .i64 a11)), .top, .top, .top, .top, .top, .top, .top, .top, .top, .top, .top, .top, .top, .top, .top, .top, .top, .top, .top, .top, .top, .top, .top, .top, .top], [some s0, some s1, some s2], h⟩
def rel_Rel_Inverse_x2_1 (s1 : List Cell) (s2 : List Cell) (h : AHeap) : St := ⟨[.top, .top, .loc 1 0, .loc 2 0, .top, .top, .top, .top, .top, .top, .top, .top, .top, .top, .top, .top, .top, .top, .top, .top, .top, .top, .top, .top, .top, .top, .top, .top, .top, .top, .top, .top, .top, .top, .top, .top, .top], [none, some s1, some s2], h⟩
theorem rel_Rel_Inverse_r1 (C : CallF) (L : LoopF) (G : Glo) (a4 : Int) (a5 : Int) (a10 : Int) (a11 : Int) (s0 : List Cell) (s1 : List Cell) (s2 : List Cell) (h : AHeap) :
    rel_Rel_Inverse_F1 C L G (rel_Rel_Inverse_s1 a4 a5 a10 a11 s0 s1 s2 h) =
    if (a5 != 0) = true then c1 (C 38 [(.c (.int .u64 a5))] h) fun y_11 h_10 => asI .i64 y_11 fun n_12 => c1 (C 38 [(.c (.int .u64 a5))] h_10) fun y_14 h_13 => asI .i64 y_14 fun n_15 => if 0 ≤ n_15 ∧ n_15 < ((64 : Nat) : Int) then atK s2 (1 + ((Int.toNat n_15) * 1)) fun q_16 => asI .u64 (.c q_16) fun n_17 => c1 (C 18 [(.c (.int .u64 n_17)), (.c (.int .i64 a4))] h_13) fun y_19 h_18 => asI .u64 y_19 fun n_20 => if 0 ≤ n_12 ∧ n_12 < ((64 : Nat) : Int) then if (1 + ((Int.toNat n_12) * 1)) < s2.length then some (.normal, (rel_Rel_Inverse_s1 a4 (G.band .u64 a5 (G.wrap .u64 (a5 - 1))) a10 a11 s0 s1 (s2.set (1 + ((Int.toNat n_12) * 1)) (.int .u64 n_20)) h_18)) else none else none else none else some ((.exit 2), (rel_Rel_Inverse_x1_3 a10 a11 s0 s1 s2 h)) := by kernel_rfl
theorem rel_Rel_Inverse_e1_3 (C : CallF) (L : LoopF) (G : Glo) (a10 : Int) (a11 : Int) (s0 : List Cell) (s1 : List Cell) (s2 : List Cell) (h : AHeap) :
    (rel_Rel_Inverse_k6 C L G) (.exit 2) (rel_Rel_Inverse_x1_3 a10 a11 s0 s1 s2 h) =
    some (.normal, (rel_Rel_Inverse_s2 a10 (G.wrap .i64 (a11 + 1)) s0 s1 s2 h)) := by kernel_rfl
theorem rel_Rel_Inverse_r2 (C : CallF) (L : LoopF) (G : Glo) (a10 : Int) (a11 : Int) (s0 : List Cell) (s1 : List Cell) (s2 : List Cell) (h : AHeap) :
    rel_Rel_Inverse_F2 C L G (rel_Rel_Inverse_s2 a10 a11 s0 s1 s2 h) =
    if (decide (a11 < a10)) = true then if 0 ≤ a11 ∧ a11 < ((64 : Nat) : Int) then atK s0 (1 + ((Int.toNat a11) * 1)) fun q_8 => asI .u64 (.c q_8) fun n_9 => (L (rel_Rel_Inverse_F1 C L G) (rel_Rel_Inverse_s1 a11 n_9 a10 a11 s0 s1 s2 h)).bind fun p_21 => (rel_Rel_Inverse_k6 C L G) p_21.1 p_21.2 else none else some ((.exit 0), (rel_Rel_Inverse_x2_1 s1 s2 h)) := by kernel_rfl
theorem rel_Rel_Inverse_e2_1 (C : CallF) (L : LoopF) (G : Glo) (h0 : AHeap) (s1 : List Cell) (s2 : List Cell) (h : AHeap) :
    (rel_Rel_Inverse_k3 C L G h0) (.exit 0) (rel_Rel_Inverse_x2_1 s1 s2 h) =
    if 0 = 0 ∧ s2.length = 65 then if 0 = 0 ∧ s1.length = 65 ∧ s2.length = 65 then if 0 = 0 ∧ s2.length = 65 then some ([(.agg s2)], h) else none else none else none := by kernel_rfl
set_option maxRecDepth 100000 in
theorem rel_Rel_Inverse_eq (C : CallF) (L : LoopF) (G : Glo) (l0 : List Cell) (h0 : AHeap) :
    rel_Rel_Inverse.body C L G [(.agg l0)] h0 =
    atK l0 0 fun q_1 => asI .i64 (.c q_1) fun n_2 => c1 (C 9 [(.c (.int .i64 n_2))] h0) fun y_4 h_3 => asA y_4 fun l_5 => if 0 = 0 ∧ ([Cell.int .i64 0] ++ List.replicate 64 (Cell.int .u64 0)).length = 65 ∧ l_5.length = 65 then atK l0 0 fun q_6 => asI .i64 (.c q_6) fun n_7 => (L (rel_Rel_Inverse_F2 C L G) (rel_Rel_Inverse_s2 n_7 0 l0 ([Cell.int .i64 0] ++ List.replicate 64 (Cell.int .u64 0)) l_5 h_3)).bind fun p_22 => (rel_Rel_Inverse_k3 C L G h0) p_22.1 p_22.2 else none := by kernel_rfl

/- (jacquard/rel.Rel).Row: 41 -/
set_option maxRecDepth 100000 in
theorem rel_Rel_Row_eq (C : CallF) (L : LoopF) (G : Glo) (l0 : List Cell) (a1 : Int) (h0 : AHeap) :
    rel_Rel_Row.body C L G [(.agg l0), (.c (.int .i64 a1))] h0 =
    if 0 = 0 ∧ l0.length = 65 then c1 (C 16 [(.agg l0), (.c (.int .i64 a1))] h0) fun y_2 h_1 => asB y_2 fun b_3 => if (!b_3) = true then some ([(.c (.int .u64 0))], h_1) else if 0 ≤ a1 ∧ a1 < ((64 : Nat) : Int) then atK l0 (1 + ((Int.toNat a1) * 1)) fun q_4 => asI .u64 (.c q_4) fun n_5 => some ([(.c (.int .u64 n_5))], h_1) else none else none := by kernel_rfl

/- (jacquard/rel.Rel).Then: 58 -/
def rel_Rel_Then_k2 (C : CallF) (L : LoopF) (G : Glo) (h0 : AHeap) : Ex → St → Option (List AV × AHeap) :=
  kSeq (fun st => rel_Rel_Then_p1.exec C L G st (rel_Rel_Then.fin G h0)) (rel_Rel_Then.fin G h0)
def rel_Rel_Then_k3 (C : CallF) (L : LoopF) (G : Glo) (h0 : AHeap) : Ex → St → Option (List AV × AHeap) :=
  kBlk 0 (rel_Rel_Then_k2 C L G h0)
def rel_Rel_Then_s2 (a6 : Int) (a19 : Int) (a20 : Int) (s0 : List Cell) (s1 : List Cell) (s2 : List Cell) (s3 : List Cell) (h : AHeap) : St := ⟨[.top, .top, .loc 0 0, .loc 1 0, .loc 2 0, .loc 3 0, .v (.c (.int .u64 a6)), .top, .top, .top, .top, .top, .top, .top, .top, .top, .top, .top, .top, .v (.c (.int .i64 a19)), .v (.c (.int .i64 a20)), .top, .top, .top, .top, .top, .top, .top, .top, .top, .top, .top, .top, .top, .top, .top, .top, .top, .top, .top, .top, .top, .top, .top, .top, .top, .top, .top, .top, .top, .top], [some s0, some s1, some s2, some s3], h⟩
def rel_Rel_Then_F2 (C : CallF) (L : LoopF) (G : Glo) : St → Option (Ex × St) :=
  roundF (fun st f => rel_Rel_Then_b2.exec C L G st f) [2, 3, 4, 5, 6, 19, 20] [0, 1, 2, 3] [(1, [4, 5], [2, 3])]
def rel_Rel_Then_k4 (C : CallF) (L : LoopF) (G : Glo) : Ex → St → Option (Ex × St) :=
  kSeq (fun st => rel_Rel_Then_p2.exec C L G st (kLoop [2, 3, 4, 5, 6, 19, 20] [0, 1, 2, 3] [(1, [4, 5], [2, 3])])) (kLoop [2, 3, 4, 5, 6, 19, 20] [0, 1, 2, 3] [(1, [4, 5], [2, 3])])
def rel_Rel_Then_k5 (C : CallF) (L : LoopF) (G : Glo) : Ex → St → Option (Ex × St) :=
  kBlk 1 (rel_Rel_Then_k4 C L G)
def rel_Rel_Then_k6 (C : CallF) (L : LoopF) (G : Glo) : Ex → St → Option (Ex × St) :=
  kBlk 2 (rel_Rel_Then_k5 C L G)
def rel_Rel_Then_s1 (a6 : Int) (a7 : Int) (a8 : Int) (a19 : Int) (a20 : Int) (s0 : List Cell) (s1 : List Cell) (s2 : List Cell) (s3 : List Cell) (h : AHeap) : St := ⟨[.top, .top, .loc 0 0, .loc 1 0, .loc 2 0, .loc 3 0, .v (.c (.int .u64 a6)), .v (.c (.int .i64 a7)), .v (.c (.int .u64 a8)), .top, .top, .top, .top, .top, .top, .top, .top, .top, .top, .v (.c (.int .i64 a19)), .v (.c (.int .i64 a20)), .top, .top, .top, .top, .top, .top, .top, .top, .top, .top, .top, .top, .top, .top, .top, .top, .top, .top, .top, .top, .top, .top, .top, .top, .top, .top, .top, .top, .top, .top], [some s0, some s1, some s2, some s3], h⟩
def rel_Rel_Then_F1 (C : CallF) (L : LoopF) (G : Glo) : St → Option (Ex × St) :=
  roundF (fun st f => rel_Rel_Then_b1.exec C L G st f) [2, 3, 4, 5, 6, 7, 8, 19, 20] [0, 1, 2, 3] [(3, [2, 3, 4, 5, 6, 19, 20], [0, 1, 2, 3])]
def rel_Rel_Then_x1_3 (a6 : Int) (a19 : Int) (a20 : Int) (s0 : List Cell) (s1 : List Cell) (s2 : List Cell) (s3 : List Cell) (h : AHeap) : St := ⟨[.top, .top, .loc 0 0, .loc 1 0, .loc 2 0, .loc 3 0, .v (.c (.int .u64 a6)), .top, .top, .top, .top, .top, .top, .top, .top, .top, .top, .top, .top, .v (.c (.int .i64 a19)), .v (.c (.int .i64 a20)), .top, .top, .top, .top, .top, .top, .top, .top, .top, .top, .top, .top, .top, .top, .top, .top, .top, .top, .top, .top, .top, .top, .top, .top, .top, .top, .top, .top, .top, .top], [some s0, some s1, some s2, some s3], h⟩
def rel_Rel_Then_x2_1 (s2 : List Cell) (s3 : List Cell) (h : AHeap) : St := ⟨[.top, .top, .top, .top, .loc 2 0, .loc 3 0, .top, .top, .top, .top, .top, .top, .top, .top, .top, .top, .top, .top, .top, .top, .top, .top, .top, .top, .top, .top, .top, .top, .top, .top, .top, .top, .top, .top, .top, .top, .top, .top, .top, .top, .top, .top, .top, .top, .top, .top, .top, .top, .top, .top, .top], [none, none, some s2, some s3], h⟩
theorem rel_Rel_Then_r1 (C : CallF) (L : LoopF) (G : Glo) (a6 : Int) (a7 : Int) (a8 : Int) (a19 : Int) (a20 : Int) (s0 : List Cell) (s1 : List Cell) (s2 : List Cell) (s3 : List Cell) (h : AHeap) :
    rel_Rel_Then_F1 C L G (rel_Rel_Then_s1 a6 a7 a8 a19 a20 s0 s1 s2 s3 h) =
    if (a8 != 0) = true then if 0 ≤ a7 ∧ a7 < ((64 : Nat) : Int) then atK s3 (1 + ((Int.toNat a7) * 1)) fun q_17 => asI .u64 (.c q_17) fun n_18 => c1 (qh h (C 38 [(.c (.int .u64 a8))] h)) fun y_20 h_19 => asI .i64 y_20 fun n_21 => if 0 ≤ n_21 ∧ n_21 < ((64 : Nat) : Int) then atK s1 (1 + ((Int.toNat n_21) * 1)) fun q_22 => asI .u64 (.c q_22) fun n_23 => if 0 ≤ a7 ∧ a7 < ((64 : Nat) : Int) then if (1 + ((Int.toNat a7) * 1)) < s3.length then some (.normal, (rel_Rel_Then_s1 a6 a7 (G.band .u64 a8 (G.wrap .u64 (a8 - 1))) a19 a20 s0 s1 s2 (s3.set (1 + ((Int.toNat a7) * 1)) (.int .u64 (G.bor .u64 n_18 (G.band .u64 n_23 a6)))) h)) else none else none else none else none else some ((.exit 2), (rel_Rel_Then_x1_3 a6 a19 a20 s0 s1 s2 s3 h)) := by kernel_rfl
theorem rel_Rel_Then_e1_3 (C : CallF) (L : LoopF) (G : Glo) (a6 : Int) (a19 : Int) (a20 : Int) (s0 : List Cell) (s1 : List Cell) (s2 : List Cell) (s3 : List Cell) (h : AHeap) :
    (rel_Rel_Then_k6 C L G) (.exit 2) (rel_Rel_Then_x1_3 a6 a19 a20 s0 s1 s2 s3 h) =
    some (.normal, (rel_Rel_Then_s2 a6 a19 (G.wrap .i64 (a20 + 1)) s0 s1 s2 s3 h)) := by kernel_rfl
theorem rel_Rel_Then_r2 (C : CallF) (L : LoopF) (G : Glo) (a6 : Int) (a19 : Int) (a20 : Int) (s0 : List Cell) (s1 : List Cell) (s2 : List Cell) (s3 : List Cell) (h : AHeap) :
    rel_Rel_Then_F2 C L G (rel_Rel_Then_s2 a6 a19 a20 s0 s1 s2 s3 h) =
    if (decide (a20 < a19)) = true then if 0 ≤ a20 ∧ a20 < ((64 : Nat) : Int) then atK s0 (1 + ((Int.toNat a20) * 1)) fun q_15 => asI .u64 (.c q_15) fun n_16 => (L (rel_Rel_Then_F1 C L G) (rel_Rel_Then_s1 a6 a20 (G.band .u64 n_16 a6) a19 a20 s0 s1 s2 s3 h)).bind fun p_24 => (rel_Rel_Then_k6 C L G) p_24.1 p_24.2 else none else some ((.exit 0), (rel_Rel_Then_x2_1 s2 s3 h)) := by kernel_rfl
theorem rel_Rel_Then_e2_1 (C : CallF) (L : LoopF) (G : Glo) (h0 : AHeap) (s2 : List Cell) (s3 : List Cell) (h : AHeap) :
    (rel_Rel_Then_k3 C L G h0) (.exit 0) (rel_Rel_Then_x2_1 s2 s3 h) =
    if 0 = 0 ∧ s3.length = 65 then if 0 = 0 ∧ s2.length = 65 ∧ s3.length = 65 then if 0 = 0 ∧ s3.length = 65 then some ([(.agg s3)], h) else none else none else none := by kernel_rfl
set_option maxRecDepth 100000 in
theorem rel_Rel_Then_eq (C : CallF) (L : LoopF) (G : Glo) (l0 : List Cell) (l1 : List Cell) (h0 : AHeap) :
    rel_Rel_Then.body C L G [(.agg l0), (.agg l1)] h0 =
    atK l0 0 fun q_1 => asI .i64 (.c q_1) fun n_2 => atK l1 0 fun q_3 => asI .i64 (.c q_3) fun n_4 => c1 (C 9 [(.c (.int .i64 (if n_4 < n_2 then n_4 else n_2)))] h0) fun y_6 h_5 => asA y_6 fun l_7 => if 0 = 0 ∧ ([Cell.int .i64 0] ++ List.replicate 64 (Cell.int .u64 0)).length = 65 ∧ l_7.length = 65 then atK l_7 0 fun q_8 => asI .i64 (.c q_8) fun n_9 => c1 (C 61 [(.c (.int .i64 n_9))] h_5) fun y_11 h_10 => asI .u64 y_11 fun n_12 => atK l_7 0 fun q_13 => asI .i64 (.c q_13) fun n_14 => (L (rel_Rel_Then_F2 C L G) (rel_Rel_Then_s2 n_12 n_14 0 l0 l1 ([Cell.int .i64 0] ++ List.replicate 64 (Cell.int .u64 0)) l_7 h_10)).bind fun p_25 => (rel_Rel_Then_k3 C L G h0) p_25.1 p_25.2 else none := by kernel_rfl

/- (jacquard/rel.Rel).Union: 59 -/
set_option maxRecDepth 100000 in
theorem rel_Rel_Union_eq (C : CallF) (L : LoopF) (G : Glo) (l0 : List Cell) (l1 : List Cell) (h0 : AHeap) :
    rel_Rel_Union.body C L G [(.agg l0), (.agg l1)] h0 =
    if 0 = 0 ∧ l0.length = 65 then if 0 = 0 ∧ l1.length = 65 then c1 (C 73 [(.agg l0), (.agg l1), (.c (.fn 72 []))] h0) fun y_2 h_1 => asA y_2 fun l_3 => if 0 = 0 ∧ ([Cell.int .i64 0] ++ List.replicate 64 (Cell.int .u64 0)).length = 65 ∧ l_3.length = 65 then if 0 = 0 ∧ l_3.length = 65 then some ([(.agg l_3)], h_1) else none else none else none else none := by kernel_rfl

/- (jacquard/rel.Rel).Keep: 66 -/
def rel_Rel_Keep_k2 (C : CallF) (L : LoopF) (G : Glo) (h0 : AHeap) : Ex → St → Option (List AV × AHeap) :=
  kSeq (fun st => rel_Rel_Keep_p1.exec C L G st (rel_Rel_Keep.fin G h0)) (rel_Rel_Keep.fin G h0)
def rel_Rel_Keep_k3 (C : CallF) (L : LoopF) (G : Glo) (h0 : AHeap) : Ex → St → Option (List AV × AHeap) :=
  kBlk 0 (rel_Rel_Keep_k2 C L G h0)
def rel_Rel_Keep_s1 (a1 : Int) (a11 : Int) (a12 : Int) (s0 : List Cell) (s1 : List Cell) (s2 : List Cell) (h : AHeap) : St := ⟨[.top, .v (.c (.int .u64 a1)), .loc 0 0, .top, .loc 1 0, .loc 2 0, .top, .top, .top, .top, .top, .v (.c (.int .i64 a11)), .v (.c (.int .i64 a12)), .top, .top, .top, .top, .top, .top, .top, .top, .top, .top, .top, .top, .top, .top, .top, .top], [some s0, some s1, some s2], h⟩
def rel_Rel_Keep_F1 (C : CallF) (L : LoopF) (G : Glo) : St → Option (Ex × St) :=
  roundF (fun st f => rel_Rel_Keep_b1.exec C L G st f) [1, 2, 4, 5, 11, 12] [0, 1, 2] [(1, [4, 5], [1, 2])]
def rel_Rel_Keep_x1_1 (s1 : List Cell) (s2 : List Cell) (h : AHeap) : St := ⟨[.top, .top, .top, .top, .loc 1 0, .loc 2 0, .top, .top, .top, .top, .top, .top, .top, .top, .top, .top, .top, .top, .top, .top, .top, .top, .top, .top, .top, .top, .top, .top, .top], [none, some s1, some s2], h⟩
theorem rel_Rel_Keep_r1 (C : CallF) (L : LoopF) (G : Glo) (a1 : Int) (a11 : Int) (a12 : Int) (s0 : List Cell) (s1 : List Cell) (s2 : List Cell) (h : AHeap) :
    rel_Rel_Keep_F1 C L G (rel_Rel_Keep_s1 a1 a11 a12 s0 s1 s2 h) =
    if (decide (a12 < a11)) = true then c1 (C 17 [(.c (.int .u64 a1)), (.c (.int .i64 a12))] h) fun y_9 h_8 => asB y_9 fun b_10 => if b_10 = true then if 0 ≤ a12 ∧ a12 < ((64 : Nat) : Int) then atK s0 (1 + ((Int.toNat a12) * 1)) fun q_11 => asI .u64 (.c q_11) fun n_12 => if 0 ≤ a12 ∧ a12 < ((64 : Nat) : Int) then if (1 + ((Int.toNat a12) * 1)) < s2.length then some (.normal, (rel_Rel_Keep_s1 a1 a11 (G.wrap .i64 (a12 + 1)) s0 s1 (s2.set (1 + ((Int.toNat a12) * 1)) (.int .u64 (G.band .u64 n_12 a1))) h_8)) else none else none else none else some (.normal, (rel_Rel_Keep_s1 a1 a11 (G.wrap .i64 (a12 + 1)) s0 s1 s2 h_8)) else some ((.exit 0), (rel_Rel_Keep_x1_1 s1 s2 h)) := by kernel_rfl
theorem rel_Rel_Keep_e1_1 (C : CallF) (L : LoopF) (G : Glo) (h0 : AHeap) (s1 : List Cell) (s2 : List Cell) (h : AHeap) :
    (rel_Rel_Keep_k3 C L G h0) (.exit 0) (rel_Rel_Keep_x1_1 s1 s2 h) =
    if 0 = 0 ∧ s2.length = 65 then if 0 = 0 ∧ s1.length = 65 ∧ s2.length = 65 then if 0 = 0 ∧ s2.length = 65 then some ([(.agg s2)], h) else none else none else none := by kernel_rfl
set_option maxRecDepth 100000 in
theorem rel_Rel_Keep_eq (C : CallF) (L : LoopF) (G : Glo) (l0 : List Cell) (a1 : Int) (h0 : AHeap) :
    rel_Rel_Keep.body C L G [(.agg l0), (.c (.int .u64 a1))] h0 =
    atK l0 0 fun q_1 => asI .i64 (.c q_1) fun n_2 => c1 (C 9 [(.c (.int .i64 n_2))] h0) fun y_4 h_3 => asA y_4 fun l_5 => if 0 = 0 ∧ ([Cell.int .i64 0] ++ List.replicate 64 (Cell.int .u64 0)).length = 65 ∧ l_5.length = 65 then atK l0 0 fun q_6 => asI .i64 (.c q_6) fun n_7 => (L (rel_Rel_Keep_F1 C L G) (rel_Rel_Keep_s1 a1 n_7 0 l0 ([Cell.int .i64 0] ++ List.replicate 64 (Cell.int .u64 0)) l_5 h_3)).bind fun p_13 => (rel_Rel_Keep_k3 C L G h0) p_13.1 p_13.2 else none := by kernel_rfl

/- (jacquard/rel.Rel).Meet: 67 -/
set_option maxRecDepth 100000 in
theorem rel_Rel_Meet_eq (C : CallF) (L : LoopF) (G : Glo) (l0 : List Cell) (l1 : List Cell) (h0 : AHeap) :
    rel_Rel_Meet.body C L G [(.agg l0), (.agg l1)] h0 =
    if 0 = 0 ∧ l0.length = 65 then if 0 = 0 ∧ l1.length = 65 then c1 (C 73 [(.agg l0), (.agg l1), (.c (.fn 74 []))] h0) fun y_2 h_1 => asA y_2 fun l_3 => if 0 = 0 ∧ ([Cell.int .i64 0] ++ List.replicate 64 (Cell.int .u64 0)).length = 65 ∧ l_3.length = 65 then if 0 = 0 ∧ l_3.length = 65 then some ([(.agg l_3)], h_1) else none else none else none else none := by kernel_rfl

/- (jacquard/rel.Rel).Minus: 68 -/
set_option maxRecDepth 100000 in
theorem rel_Rel_Minus_eq (C : CallF) (L : LoopF) (G : Glo) (l0 : List Cell) (l1 : List Cell) (h0 : AHeap) :
    rel_Rel_Minus.body C L G [(.agg l0), (.agg l1)] h0 =
    if 0 = 0 ∧ l0.length = 65 then if 0 = 0 ∧ l1.length = 65 then c1 (C 73 [(.agg l0), (.agg l1), (.c (.fn 75 []))] h0) fun y_2 h_1 => asA y_2 fun l_3 => if 0 = 0 ∧ ([Cell.int .i64 0] ++ List.replicate 64 (Cell.int .u64 0)).length = 65 ∧ l_3.length = 65 then if 0 = 0 ∧ l_3.length = 65 then some ([(.agg l_3)], h_1) else none else none else none else none := by kernel_rfl

/- (jacquard/rel.Rel).Union$1: 72 -/
set_option maxRecDepth 100000 in
theorem rel_Rel_Union_1_eq (C : CallF) (L : LoopF) (G : Glo) (a0 : Int) (a1 : Int) (h0 : AHeap) :
    rel_Rel_Union_1.body C L G [(.c (.int .u64 a0)), (.c (.int .u64 a1))] h0 =
    some ([(.c (.int .u64 (G.bor .u64 a0 a1)))], h0) := by kernel_rfl

/- jacquard/rel.both: 73 -/
def rel_both_k2 (C : CallF) (L : LoopF) (G : Glo) (h0 : AHeap) : Ex → St → Option (List AV × AHeap) :=
  kSeq (fun st => rel_both_p1.exec C L G st (rel_both.fin G h0)) (rel_both.fin G h0)
def rel_both_k3 (C : CallF) (L : LoopF) (G : Glo) (h0 : AHeap) : Ex → St → Option (List AV × AHeap) :=
  kBlk 0 (rel_both_k2 C L G h0)
def rel_both_s1 (x2 : Cell) (a16 : Int) (a17 : Int) (s0 : List Cell) (s1 : List Cell) (s2 : List Cell) (s3 : List Cell) (h : AHeap) : St := ⟨[.top, .top, .v (.c x2), .loc 0 0, .loc 1 0, .top, .loc 2 0, .loc 3 0, .top, .top, .top, .top, .top, .top, .top, .top, .v (.c (.int .i64 a16)), .v (.c (.int .i64 a17)), .top, .top, .top, .top, .top, .top, .top, .top, .top, .top, .top, .top, .top, .top, .top, .top, .top, .top, .top, .top, .top], [some s0, some s1, some s2, some s3], h⟩
def rel_both_F1 (C : CallF) (L : LoopF) (G : Glo) : St → Option (Ex × St) :=
  roundF (fun st f => rel_both_b1.exec C L G st f) [2, 3, 4, 6, 7, 16, 17] [0, 1, 2, 3] [(1, [6, 7], [2, 3])]
def rel_both_x1_1 (s2 : List Cell) (s3 : List Cell) (h : AHeap) : St := ⟨[.top, .top, .top, .top, .top, .top, .loc 2 0, .loc 3 0, .top, .top, .top, .top, .top, .top, .top, .top, .top, .top, .top, .top, .top, .top, .top, .top, .top, .top, .top, .top, .top, .top, .top, .top, .top, .top, .top, .top, .top, .top, .top], [none, none, some s2, some s3], h⟩
theorem rel_both_r1 (C : CallF) (L : LoopF) (G : Glo) (x2 : Cell) (a16 : Int) (a17 : Int) (s0 : List Cell) (s1 : List Cell) (s2 : List Cell) (s3 : List Cell) (h : AHeap) :
    rel_both_F1 C L G (rel_both_s1 x2 a16 a17 s0 s1 s2 s3 h) =
    if (decide (a17 < a16)) = true then if 0 ≤ a17 ∧ a17 < ((64 : Nat) : Int) then atK s0 (1 + ((Int.toNat a17) * 1)) fun q_10 => asI .u64 (.c q_10) fun n_11 => if 0 ≤ a17 ∧ a17 < ((64 : Nat) : Int) then atK s1 (1 + ((Int.toNat a17) * 1)) fun q_12 => asI .u64 (.c q_12) fun n_13 => fnK x2 fun g_14 l_15 => c1 (qh h (C g_14 ([(.c (.int .u64 n_11)), (.c (.int .u64 n_13))] ++ l_15) h)) fun y_17 h_16 => asI .u64 y_17 fun n_18 => atK s3 0 fun q_19 => asI .i64 (.c q_19) fun n_20 => c1 (qh h (C 61 [(.c (.int .i64 n_20))] h)) fun y_22 h_21 => asI .u64 y_22 fun n_23 => if 0 ≤ a17 ∧ a17 < ((64 : Nat) : Int) then if (1 + ((Int.toNat a17) * 1)) < s3.length then some (.normal, (rel_both_s1 x2 a16 (G.wrap .i64 (a17 + 1)) s0 s1 s2 (s3.set (1 + ((Int.toNat a17) * 1)) (.int .u64 (G.band .u64 n_18 n_23))) h)) else none else none else none else none else some ((.exit 0), (rel_both_x1_1 s2 s3 h)) := by kernel_rfl
theorem rel_both_e1_1 (C : CallF) (L : LoopF) (G : Glo) (h0 : AHeap) (s2 : List Cell) (s3 : List Cell) (h : AHeap) :
    (rel_both_k3 C L G h0) (.exit 0) (rel_both_x1_1 s2 s3 h) =
    if 0 = 0 ∧ s3.length = 65 then if 0 = 0 ∧ s2.length = 65 ∧ s3.length = 65 then if 0 = 0 ∧ s3.length = 65 then some ([(.agg s3)], h) else none else none else none := by kernel_rfl
set_option maxRecDepth 100000 in
theorem rel_both_eq (C : CallF) (L : LoopF) (G : Glo) (l0 : List Cell) (l1 : List Cell) (x2 : Cell) (h0 : AHeap) :
    rel_both.body C L G [(.agg l0), (.agg l1), (.c x2)] h0 =
    atK l0 0 fun q_1 => asI .i64 (.c q_1) fun n_2 => atK l1 0 fun q_3 => asI .i64 (.c q_3) fun n_4 => c1 (C 9 [(.c (.int .i64 (if n_4 < n_2 then n_4 else n_2)))] h0) fun y_6 h_5 => asA y_6 fun l_7 => if 0 = 0 ∧ ([Cell.int .i64 0] ++ List.replicate 64 (Cell.int .u64 0)).length = 65 ∧ l_7.length = 65 then atK l_7 0 fun q_8 => asI .i64 (.c q_8) fun n_9 => (L (rel_both_F1 C L G) (rel_both_s1 x2 n_9 0 l0 l1 ([Cell.int .i64 0] ++ List.replicate 64 (Cell.int .u64 0)) l_7 h_5)).bind fun p_24 => (rel_both_k3 C L G h0) p_24.1 p_24.2 else none := by kernel_rfl

/- (jacquard/rel.Rel).Meet$1: 74 -/
set_option maxRecDepth 100000 in
theorem rel_Rel_Meet_1_eq (C : CallF) (L : LoopF) (G : Glo) (a0 : Int) (a1 : Int) (h0 : AHeap) :
    rel_Rel_Meet_1.body C L G [(.c (.int .u64 a0)), (.c (.int .u64 a1))] h0 =
    some ([(.c (.int .u64 (G.band .u64 a0 a1)))], h0) := by kernel_rfl

/- (jacquard/rel.Rel).Minus$1: 75 -/
set_option maxRecDepth 100000 in
theorem rel_Rel_Minus_1_eq (C : CallF) (L : LoopF) (G : Glo) (a0 : Int) (a1 : Int) (h0 : AHeap) :
    rel_Rel_Minus_1.body C L G [(.c (.int .u64 a0)), (.c (.int .u64 a1))] h0 =
    some ([(.c (.int .u64 (G.bandNot .u64 a0 a1)))], h0) := by kernel_rfl


end Jq

