/- YtldfafaiappibaaEventUnfoldsA: a part of the proof; no conditions of its own. -/
import Derived.Test.YtldfafaiappibaaRows
import Derived.KernelRfl
import Derived.Lib.TrailingZeros
import Derived.Test.YtldfafaiappibaaCoreC
set_option linter.unusedVariables false
set_option linter.unusedSimpArgs false

namespace Jq
open Go

/- jacquard/event.Unfold: 78 -/
def event_Unfold_b1 : IC :=
  (.blk 1 (.seq (.reg 2 false (.op (some 18) (.ldAll (.slot 0) 3) [(.t 3)]
    (.op (some 19) .mov [(.t 1)]
    (.op (some 20) (.ldAll (.slot 1) 5) [(.t 7)]
    (.op (some 21) (.call 105 [.agg, .b]) [(.t 18), (.t 19), (.t 20)]
    (.op (some 17) .mov [(.t 21)]
    (.op (some 22) (.ext 0) [(.t 17)]
    (.op (some 23) (.ext 1) [(.t 17)]
    (.al 9 2 (List.replicate 9 (Cell.int .i64 0))
    (.op none (.stAll (.slot 2) 9) [(.t 9), (.t 22)]
    (.op (some 10) .mov [(.t 23)]
    .nil)))))))))))
  (.seq (.seq (.reg 3 false (.op (some 24) .mov [(.t 10)]
    (.op (some 25) (.un .not) [(.t 24)]
    .nil)))
  (.cond (.t 25)
  (.seq (.reg 4 true (.op (some 26) .mov [(.t 6)]
    (.op (some 27) (.ldAll (.slot 1) 5) [(.t 7)]
    (.op (some 6) .mov [(.t 26)]
    (.op none (.stAll (.slot 1) 5) [(.t 7), (.t 27)]
    (.op (some 8) .mov [(.k (.c (.bool false)))]
    .nil))))))
  .ret)
  .skip))
  (.seq (.reg 5 false (.op (some 11) .mov [(.k (.c (.int .i64 0)))]
    .nil))
  (.seq (.seq (.reg 6 false (.op (some 28) .mov [(.t 2)]
    (.op (some 29) .len [(.t 28)]
    (.op (some 30) (.bin .gtr) [(.t 29), (.k (.c (.int .i64 0)))]
    .nil))))
  (.cond (.t 30)
  (.reg 7 false (.op (some 31) .mov [(.t 2)]
    (.op (some 32) (.idxS 1) [(.t 31), (.k (.c (.int .i64 0)))]
    (.op (some 33) (.ld .heap (.i .i64)) [(.t 32)]
    (.op (some 11) .mov [(.t 33)]
    .nil)))))
  .skip))
  (.seq (.reg 8 false (.op (some 35) (.ldAll (.slot 2) 9) [(.t 9)]
    (.op (some 36) (.ldAll (.slot 1) 5) [(.t 7)]
    (.op (some 37) .mov [(.t 11)]
    (.op (some 38) (.call 109 [.agg, .b]) [(.t 35), (.t 36), (.t 37)]
    (.op (some 34) .mov [(.t 38)]
    (.op (some 39) (.ext 0) [(.t 34)]
    (.op (some 40) (.ext 1) [(.t 34)]
    (.al 12 3 ([Cell.int .i64 0, Cell.int .i64 0, Cell.int .i64 0, Cell.int .i64 0, Cell.int .i64 0, Cell.int .i64 0])
    (.op none (.stAll (.slot 3) 6) [(.t 12), (.t 39)]
    (.op (some 13) .mov [(.t 40)]
    .nil)))))))))))
  (.seq (.seq (.reg 9 false (.op (some 41) .mov [(.t 13)]
    .nil))
  (.cond (.t 41)
  (.seq (.seq (.reg 10 false (.op (some 42) .mov [(.t 2)]
    (.op (some 43) .len [(.t 42)]
    (.op (some 44) (.bin .eql) [(.t 43), (.k (.c (.int .i64 0)))]
    .nil))))
  (.cond (.t 44)
  (.seq (.reg 11 true (.op (some 45) .mov [(.t 6)]
    (.op (some 46) (.ldAll (.slot 1) 5) [(.t 7)]
    (.op (some 6) .mov [(.t 45)]
    (.op none (.stAll (.slot 1) 5) [(.t 7), (.t 46)]
    (.op (some 8) .mov [(.k (.c (.bool true)))]
    .nil))))))
  .ret)
  .skip))
  (.reg 12 false (.op (some 47) .mov [(.t 2)]
    (.op (some 48) (.slc 1 true false) [(.t 47), (.k (.c (.int .i64 1)))]
    (.op (some 2) .mov [(.t 48)]
    .nil)))))
  .skip))
  (.seq (.reg 13 false (.op (some 49) .mov [(.t 1)]
    (.op (some 50) .mov [(.t 6)]
    (.op (some 51) .len [(.t 50)]
    (.op (some 52) (.addr 0) [(.t 12)]
    (.op none (.st (.slot 3)) [(.t 52), (.t 49)]
    (.op (some 53) (.addr 1) [(.t 12)]
    (.op none (.st (.slot 3)) [(.t 53), (.t 51)]
    .nil))))))))
  (.seq (.reg 14 false (.op (some 54) .mov [(.t 6)]
    (.op (some 55) (.ldAll (.slot 3) 6) [(.t 12)]
    (.op (some 56) (.lit 6 1 ([Cell.int .i64 0, Cell.int .i64 0, Cell.int .i64 0, Cell.int .i64 0, Cell.int .i64 0, Cell.int .i64 0]) [(0, 6)]) [(.t 55)]
    (.op (some 57) (.app 6 48) [(.t 54), (.t 56)]
    (.op (some 6) .mov [(.t 57)]
    .nil))))))
  (.reg 15 false (.op (some 58) (.ldAll (.slot 0) 3) [(.t 3)]
    (.op (some 59) .mov [(.t 1)]
    (.op (some 60) (.ldAll (.slot 1) 5) [(.t 7)]
    (.op (some 61) .mov [(.t 11)]
    (.op (some 62) (.call 106 [.agg]) [(.t 58), (.t 59), (.t 60), (.t 61)]
    (.op none (.stAll (.slot 1) 5) [(.t 7), (.t 62)]
    .nil))))))))))))))))
def event_Unfold : Fn := { np := 3, nt := 63, ns := 4, res := [.t 6 .any, .all (.slot 1) 7 5, .t 8 .b], gc := false, code :=
  (.seq (.reg 0 false (.box 3 0 (.t 0)
    (.op (some 6) .mov [(.k (.c .nils))]
    (.al 7 1 ([Cell.int .i64 0, Cell.int .i64 0, Cell.int .i64 0, Cell.int .i64 0, Cell.int .i64 0])
    (.op (some 8) .mov [(.k (.c (.bool false)))]
    .nil)))))
  (.seq (.reg 1 false (.op (some 14) (.ldAll (.slot 0) 3) [(.t 3)]
    (.op (some 15) .mov [(.t 1)]
    (.op (some 16) (.call 94 [.agg]) [(.t 14), (.t 15)]
    (.op none (.stAll (.slot 1) 5) [(.t 7), (.t 16)]
    .nil)))))
  (.blk 0 (.loop [1, 2, 3, 6, 7] [0, 1] [(0, [6, 7, 8], [1])] event_Unfold_b1)))) }

/- jacquard/event.Reads: 79 -/
def event_Reads : Fn := { np := 1, nt := 16, ns := 1, res := [.t 2 .b], gc := false, code :=
  (.seq (.reg 0 false (.box 1 0 (.t 0)
    (.op (some 2) .mov [(.k (.c (.bool false)))]
    .nil)))
  (.seq (.reg 1 false (.op (some 3) (.addr 2) [(.t 1)]
    (.op (some 4) (.ld (.slot 0) (.i .i64)) [(.t 3)]
    (.op (some 5) (.bin .eql) [(.t 4), (.k (.c (.int .i64 1)))]
    (.op (some 6) .mov [(.t 5)]
    (.sc 6 false (.op (some 7) (.addr 2) [(.t 1)]
    (.op (some 8) (.ld (.slot 0) (.i .i64)) [(.t 7)]
    (.op (some 9) (.bin .eql) [(.t 8), (.k (.c (.int .i64 4)))]
    .nil))) 9 10 true
    (.op (some 11) .mov [(.t 10)]
    (.sc 11 false (.op (some 12) (.addr 2) [(.t 1)]
    (.op (some 13) (.ld (.slot 0) (.i .i64)) [(.t 12)]
    (.op (some 14) (.bin .eql) [(.t 13), (.k (.c (.int .i64 5)))]
    .nil))) 14 15 true
    (.op (some 2) .mov [(.t 15)]
    .nil)))))))))
  .ret)) }

/- jacquard/event.Writes: 80 -/
def event_Writes : Fn := { np := 1, nt := 11, ns := 1, res := [.t 2 .b], gc := false, code :=
  (.seq (.reg 0 false (.box 1 0 (.t 0)
    (.op (some 2) .mov [(.k (.c (.bool false)))]
    .nil)))
  (.seq (.reg 1 false (.op (some 3) (.addr 2) [(.t 1)]
    (.op (some 4) (.ld (.slot 0) (.i .i64)) [(.t 3)]
    (.op (some 5) (.bin .eql) [(.t 4), (.k (.c (.int .i64 2)))]
    (.op (some 6) .mov [(.t 5)]
    (.sc 6 false (.op (some 7) (.addr 2) [(.t 1)]
    (.op (some 8) (.ld (.slot 0) (.i .i64)) [(.t 7)]
    (.op (some 9) (.bin .eql) [(.t 8), (.k (.c (.int .i64 4)))]
    .nil))) 9 10 true
    (.op (some 2) .mov [(.t 10)]
    .nil)))))))
  .ret)) }

/- jacquard/event.Fences: 82 -/
def event_Fences : Fn := { np := 1, nt := 16, ns := 1, res := [.t 2 .b], gc := false, code :=
  (.seq (.reg 0 false (.box 1 0 (.t 0)
    (.op (some 2) .mov [(.k (.c (.bool false)))]
    .nil)))
  (.seq (.reg 1 false (.op (some 3) (.addr 2) [(.t 1)]
    (.op (some 4) (.ld (.slot 0) (.i .i64)) [(.t 3)]
    (.op (some 5) (.bin .eql) [(.t 4), (.k (.c (.int .i64 3)))]
    (.op (some 6) .mov [(.t 5)]
    (.sc 6 false (.op (some 7) (.addr 2) [(.t 1)]
    (.op (some 8) (.ld (.slot 0) (.i .i64)) [(.t 7)]
    (.op (some 9) (.bin .eql) [(.t 8), (.k (.c (.int .i64 4)))]
    .nil))) 9 10 true
    (.op (some 11) .mov [(.t 10)]
    (.sc 11 false (.op (some 12) (.addr 2) [(.t 1)]
    (.op (some 13) (.ld (.slot 0) (.i .i64)) [(.t 12)]
    (.op (some 14) (.bin .eql) [(.t 13), (.k (.c (.int .i64 5)))]
    .nil))) 14 15 true
    (.op (some 2) .mov [(.t 15)]
    .nil)))))))))
  .ret)) }

/- jacquard/event.Same: 84 -/
def event_Same : Fn := { np := 2, nt := 8, ns := 0, res := [.t 4 .b], gc := false, code :=
  (.seq (.reg 0 false (.op (some 4) .mov [(.k (.c (.bool false)))]
    .nil))
  (.seq (.reg 1 false (.op (some 5) .mov [(.t 0)]
    (.op (some 6) .mov [(.t 1)]
    (.op (some 7) (.call 112 [.b]) [(.t 5), (.t 6)]
    (.op (some 4) .mov [(.t 7)]
    .nil)))))
  .ret)) }

/- jacquard/event.Inits: 88 -/
def event_Inits_b1 : IC :=
  (.seq (.reg 3 false (.op (some 10) (.bin .lss) [(.t 9), (.t 8)]
    .nil))
  (.seq (.cond (.t 10)
  .skip
  (.exit 0))
  (.seq (.blk 1 (.seq (.reg 4 false (.op (some 11) .mov [(.t 9)]
    (.op (some 12) (.idxS 1) [(.t 7), (.t 9)]
    (.op (some 13) (.ld .heap (.i .i64)) [(.t 12)]
    (.op (some 4) .mov [(.t 11)]
    (.op (some 5) .mov [(.t 13)]
    .nil))))))
  (.reg 5 false (.op (some 14) .mov [(.t 3)]
    (.op (some 15) .mov [(.t 4)]
    (.op (some 16) .mov [(.t 4)]
    (.op (some 17) .mov [(.t 5)]
    (.op (some 18) (.build ([Cell.int .i64 0, Cell.int .i64 0, Cell.int .i64 0, Cell.int .i64 0, Cell.int .i64 0, Cell.int .i64 0]) [(0, 1), (1, 1), (2, 1), (3, 1), (5, 1)]) [(.k (.c (.int .i64 (-1)))), (.t 15), (.k (.c (.int .i64 2))), (.t 16), (.t 17)]
    (.op (some 19) (.lit 6 1 ([Cell.int .i64 0, Cell.int .i64 0, Cell.int .i64 0, Cell.int .i64 0, Cell.int .i64 0, Cell.int .i64 0]) [(0, 6)]) [(.t 18)]
    (.op (some 20) (.app 6 48) [(.t 14), (.t 19)]
    (.op (some 3) .mov [(.t 20)]
    .nil)))))))))))
  (.reg 6 false (.op (some 21) (.bin .add) [(.t 9), (.k (.c (.int .i64 1)))]
    (.op (some 9) .mov [(.t 21)]
    .nil))))))
def event_Inits_p1 : IC :=
  (.seq (.reg 7 false (.op (some 22) .mov [(.t 3)]
    (.op (some 2) .mov [(.t 22)]
    .nil)))
  .ret)
def event_Inits : Fn := { np := 1, nt := 23, ns := 1, res := [.t 2 .any], gc := false, code :=
  (.seq (.reg 0 false (.box 1 0 (.t 0)
    (.op (some 2) .mov [(.k (.c .nils))]
    .nil)))
  (.seq (.reg 1 false (.op (some 3) .mov [(.k (.c .nils))]
    .nil))
  (.seq (.seq (.reg 2 false (.op (some 6) (.addr 1) [(.t 1)]
    (.op (some 7) (.ld (.slot 0) .any) [(.t 6)]
    (.op (some 8) .len [(.t 7)]
    (.op (some 9) .mov [(.k (.c (.int .i64 0)))]
    .nil)))))
  (.blk 0 (.loop [3, 7, 8, 9] [] [(1, [3], [])] event_Inits_b1)))
  event_Inits_p1))) }

/- jacquard/event.Of: 109 -/
def event_Of : Fn := { np := 3, nt := 46, ns := 3, res := [.all (.slot 2) 6 6, .t 7 .b], gc := false, code :=
  (.seq (.reg 0 false (.box 3 0 (.t 0)
    (.box 4 1 (.t 1)
    (.al 6 2 ([Cell.int .i64 0, Cell.int .i64 0, Cell.int .i64 0, Cell.int .i64 0, Cell.int .i64 0, Cell.int .i64 0])
    (.op (some 7) .mov [(.k (.c (.bool false)))]
    .nil)))))
  (.seq (.seq (.reg 1 false (.op (some 8) (.addr 0) [(.t 3)]
    (.op (some 9) (.ld (.slot 0) (.i .i64)) [(.t 8)]
    .nil)))
  (.blk 0 (.seq (.reg 2 false (.op (some 11) (.bin .eql) [(.t 9), (.k (.c (.int .i64 1)))]
    (.op (some 10) .mov [(.t 11)]
    .nil)))
  (.cond (.t 10)
  (.seq (.reg 3 true (.op (some 12) (.addr 2) [(.t 3)]
    (.op (some 13) (.ld (.slot 0) (.i .i64)) [(.t 12)]
    (.op (some 14) (.addr 3) [(.t 3)]
    (.op (some 15) (.ldN (.slot 0) 2) [(.t 14)]
    (.op (some 16) (.ldAll (.slot 1) 5) [(.t 4)]
    (.op (some 17) (.qcall 108 [(.i .i64)]) [(.t 15), (.t 16)]
    (.op (some 18) (.build ([Cell.int .i64 0, Cell.int .i64 0, Cell.int .i64 0, Cell.int .i64 0, Cell.int .i64 0, Cell.int .i64 0]) [(2, 1), (3, 1), (5, 1)]) [(.k (.c (.int .i64 2))), (.t 13), (.t 17)]
    (.op none (.stAll (.slot 2) 6) [(.t 6), (.t 18)]
    (.op (some 7) .mov [(.k (.c (.bool false)))]
    .nil))))))))))
  .ret)
  (.seq (.reg 4 false (.op (some 20) (.bin .eql) [(.t 9), (.k (.c (.int .i64 2)))]
    (.op (some 19) .mov [(.t 20)]
    .nil)))
  (.cond (.t 19)
  (.seq (.reg 5 false (.op (some 21) (.addr 2) [(.t 3)]
    (.op (some 22) (.ld (.slot 0) (.i .i64)) [(.t 21)]
    (.op (some 23) .mov [(.t 2)]
    (.op (some 24) (.build ([Cell.int .i64 0, Cell.int .i64 0, Cell.int .i64 0, Cell.int .i64 0, Cell.int .i64 0, Cell.int .i64 0]) [(2, 1), (3, 1), (4, 1)]) [(.k (.c (.int .i64 1))), (.t 22), (.t 23)]
    (.op none (.stAll (.slot 2) 6) [(.t 6), (.t 24)]
    (.op (some 7) .mov [(.k (.c (.bool true)))]
    .nil)))))))
  .ret)
  (.seq (.reg 6 false (.op (some 26) (.bin .eql) [(.t 9), (.k (.c (.int .i64 4)))]
    (.op (some 25) .mov [(.t 26)]
    .nil)))
  (.cond (.t 25)
  (.seq (.seq (.reg 7 false (.op (some 27) (.addr 3) [(.t 3)]
    (.op (some 28) (.ldN (.slot 0) 2) [(.t 27)]
    (.op (some 29) (.ldAll (.slot 1) 5) [(.t 4)]
    (.op (some 30) (.call 108 [(.i .i64)]) [(.t 28), (.t 29)]
    (.op (some 31) .mov [(.t 2)]
    (.op (some 32) (.bin .eql) [(.t 30), (.t 31)]
    .nil)))))))
  (.cond (.t 32)
  (.seq (.reg 8 true (.op (some 33) (.addr 2) [(.t 3)]
    (.op (some 34) (.ld (.slot 0) (.i .i64)) [(.t 33)]
    (.op (some 35) .mov [(.t 2)]
    (.op (some 36) (.addr 6) [(.t 3)]
    (.op (some 37) (.ldN (.slot 0) 2) [(.t 36)]
    (.op (some 38) (.ldAll (.slot 1) 5) [(.t 4)]
    (.op (some 39) (.qcall 108 [(.i .i64)]) [(.t 37), (.t 38)]
    (.op (some 40) (.build ([Cell.int .i64 0, Cell.int .i64 0, Cell.int .i64 0, Cell.int .i64 0, Cell.int .i64 0, Cell.int .i64 0]) [(2, 1), (3, 1), (4, 1), (5, 1)]) [(.k (.c (.int .i64 4))), (.t 34), (.t 35), (.t 39)]
    (.op none (.stAll (.slot 2) 6) [(.t 6), (.t 40)]
    (.op (some 7) .mov [(.k (.c (.bool true)))]
    .nil)))))))))))
  .ret)
  .skip))
  (.seq (.reg 9 false (.op (some 41) (.addr 2) [(.t 3)]
    (.op (some 42) (.ld (.slot 0) (.i .i64)) [(.t 41)]
    (.op (some 43) .mov [(.t 2)]
    (.op (some 44) (.build ([Cell.int .i64 0, Cell.int .i64 0, Cell.int .i64 0, Cell.int .i64 0, Cell.int .i64 0, Cell.int .i64 0]) [(2, 1), (3, 1), (4, 1)]) [(.k (.c (.int .i64 5))), (.t 42), (.t 43)]
    (.op none (.stAll (.slot 2) 6) [(.t 6), (.t 44)]
    (.op (some 7) .mov [(.k (.c (.bool true)))]
    .nil)))))))
  .ret))
  .skip))))))))
  (.seq (.reg 10 false (.op (some 45) (.build ([Cell.int .i64 0, Cell.int .i64 0, Cell.int .i64 0, Cell.int .i64 0, Cell.int .i64 0, Cell.int .i64 0]) [(2, 1)]) [(.k (.c (.int .i64 3)))]
    (.op none (.stAll (.slot 2) 6) [(.t 6), (.t 45)]
    (.op (some 7) .mov [(.k (.c (.bool false)))]
    .nil))))
  .ret))) }


end Jq

namespace Jq
open Go

/- jacquard/prog.Start: 94 -/
def prog_Start : Fn := { np := 2, nt := 10, ns := 2, res := [.all (.slot 1) 4 5], gc := false, code :=
  (.seq (.reg 0 false (.box 2 0 (.t 0)
    (.al 4 1 ([Cell.int .i64 0, Cell.int .i64 0, Cell.int .i64 0, Cell.int .i64 0, Cell.int .i64 0])
    .nil)))
  (.seq (.reg 1 false (.op (some 5) (.ldAll (.slot 0) 3) [(.t 2)]
    (.op (some 6) .mov [(.t 1)]
    (.op (some 7) (.call 113 [.any]) [(.t 5), (.t 6)]
    (.op (some 8) (.build ([Cell.int .i64 0, Cell.int .i64 0, Cell.int .i64 0, Cell.int .i64 0, Cell.int .i64 0]) []) []
    (.op (some 9) (.call 114 [.agg]) [(.t 7), (.t 8)]
    (.op none (.stAll (.slot 1) 5) [(.t 4), (.t 9)]
    .nil)))))))
  .ret)) }

/- jacquard/prog.Next: 105 -/
def prog_Next : Fn := { np := 3, nt := 39, ns := 4, res := [.all (.slot 2) 6 9, .t 7 .b], gc := false, code :=
  (.seq (.reg 0 false (.box 3 0 (.t 0)
    (.box 5 1 (.t 2)
    (.al 6 2 (List.replicate 9 (Cell.int .i64 0))
    (.op (some 7) .mov [(.k (.c (.bool false)))]
    .nil)))))
  (.seq (.reg 1 false (.op (some 10) (.ldAll (.slot 0) 3) [(.t 3)]
    (.op (some 11) .mov [(.t 1)]
    (.op (some 12) (.call 113 [.any]) [(.t 10), (.t 11)]
    (.op (some 8) .mov [(.t 12)]
    .nil)))))
  (.seq (.seq (.reg 2 false (.op (some 13) (.addr 0) [(.t 5)]
    (.op (some 14) (.ld (.slot 1) (.i .i64)) [(.t 13)]
    (.op (some 15) (.bin .lss) [(.t 14), (.k (.c (.int .i64 0)))]
    (.op (some 16) .mov [(.t 15)]
    (.sc 16 false (.op (some 17) (.addr 0) [(.t 5)]
    (.op (some 18) (.ld (.slot 1) (.i .i64)) [(.t 17)]
    (.op (some 19) .mov [(.t 8)]
    (.op (some 20) .len [(.t 19)]
    (.op (some 21) (.bin .geq) [(.t 18), (.t 20)]
    .nil))))) 21 22 true
    .nil))))))
  (.cond (.t 22)
  (.seq (.reg 3 false (.op (some 23) (.build (List.replicate 9 (Cell.int .i64 0)) []) []
    (.op none (.stAll (.slot 2) 9) [(.t 6), (.t 23)]
    (.op (some 7) .mov [(.k (.c (.bool false)))]
    .nil))))
  .ret)
  .skip))
  (.seq (.reg 4 false (.op (some 24) .mov [(.t 8)]
    (.op (some 25) (.addr 0) [(.t 5)]
    (.op (some 26) (.ld (.slot 1) (.i .i64)) [(.t 25)]
    (.op (some 27) (.idxS 9) [(.t 24), (.t 26)]
    (.op (some 28) (.ldN .heap 9) [(.t 27)]
    (.al 9 3 (List.replicate 9 (Cell.int .i64 0))
    (.op none (.stAll (.slot 3) 9) [(.t 9), (.t 28)]
    .nil))))))))
  (.seq (.seq (.reg 5 false (.op (some 29) (.addr 0) [(.t 9)]
    (.op (some 30) (.ld (.slot 3) (.i .i64)) [(.t 29)]
    (.op (some 31) (.bin .lss) [(.t 30), (.k (.c (.int .i64 1)))]
    (.op (some 32) .mov [(.t 31)]
    (.sc 32 false (.op (some 33) (.addr 0) [(.t 9)]
    (.op (some 34) (.ld (.slot 3) (.i .i64)) [(.t 33)]
    (.op (some 35) (.bin .gtr) [(.t 34), (.k (.c (.int .i64 4)))]
    .nil))) 35 36 true
    .nil))))))
  (.cond (.t 36)
  (.seq (.reg 6 false (.op (some 37) (.build (List.replicate 9 (Cell.int .i64 0)) []) []
    (.op none (.stAll (.slot 2) 9) [(.t 6), (.t 37)]
    (.op (some 7) .mov [(.k (.c (.bool false)))]
    .nil))))
  .ret)
  .skip))
  (.seq (.reg 7 false (.op (some 38) (.ldAll (.slot 3) 9) [(.t 9)]
    (.op none (.stAll (.slot 2) 9) [(.t 6), (.t 38)]
    (.op (some 7) .mov [(.k (.c (.bool true)))]
    .nil))))
  .ret)))))) }

/- jacquard/prog.After: 106 -/
def prog_After : Fn := { np := 4, nt := 42, ns := 3, res := [.all (.slot 1) 8 5], gc := true, code :=
  (.seq (.reg 0 false (.box 4 0 (.t 0)
    (.op (some 6) .boxH [(.t 2)]
    (.al 8 1 ([Cell.int .i64 0, Cell.int .i64 0, Cell.int .i64 0, Cell.int .i64 0, Cell.int .i64 0])
    .nil))))
  (.seq (.reg 1 false (.op (some 12) (.ldAll (.slot 0) 3) [(.t 4)]
    (.op (some 13) .mov [(.t 1)]
    (.op (some 14) (.ldAll .heap 5) [(.t 6)]
    (.op (some 15) (.call 105 [.agg, .b]) [(.t 12), (.t 13), (.t 14)]
    (.op (some 11) .mov [(.t 15)]
    (.op (some 16) (.ext 0) [(.t 11)]
    (.op (some 17) (.ext 1) [(.t 11)]
    (.al 9 2 (List.replicate 9 (Cell.int .i64 0))
    (.op none (.stAll (.slot 2) 9) [(.t 9), (.t 16)]
    (.op (some 10) .mov [(.t 17)]
    .nil)))))))))))
  (.seq (.seq (.reg 2 false (.op (some 18) .mov [(.t 10)]
    (.op (some 19) (.un .not) [(.t 18)]
    .nil)))
  (.cond (.t 19)
  (.seq (.reg 3 false (.op (some 20) (.ldAll .heap 5) [(.t 6)]
    (.op none (.stAll (.slot 1) 5) [(.t 8), (.t 20)]
    .nil)))
  .ret)
  .skip))
  (.seq (.seq (.reg 4 false (.op (some 21) (.addr 0) [(.t 9)]
    (.op (some 22) (.ld (.slot 2) (.i .i64)) [(.t 21)]
    (.op (some 23) (.bin .eql) [(.t 22), (.k (.c (.int .i64 2)))]
    (.op (some 24) .mov [(.t 23)]
    (.sc 24 false (.op (some 25) (.addr 0) [(.t 9)]
    (.op (some 26) (.ld (.slot 2) (.i .i64)) [(.t 25)]
    (.op (some 27) (.bin .eql) [(.t 26), (.k (.c (.int .i64 4)))]
    .nil))) 27 28 true
    .nil))))))
  (.cond (.t 28)
  (.reg 5 false (.op (some 29) (.addr 1) [(.t 9)]
    (.op (some 30) (.ld (.slot 2) (.i .i64)) [(.t 29)]
    (.op (some 31) .mov [(.t 3)]
    (.op (some 32) (.call 124 []) [(.t 6), (.t 30), (.t 31)]
    .nil)))))
  .skip))
  (.seq (.reg 6 false (.op (some 33) (.addr 0) [(.t 6)]
    (.op (some 34) (.ld .heap (.i .i64)) [(.t 33)]
    (.op (some 35) (.bin .add) [(.t 34), (.k (.c (.int .i64 1)))]
    (.op (some 36) (.addr 0) [(.t 6)]
    (.op none (.st .heap) [(.t 36), (.t 35)]
    .nil))))))
  (.seq (.reg 7 true (.op (some 37) (.ldAll (.slot 0) 3) [(.t 4)]
    (.op (some 38) .mov [(.t 1)]
    (.op (some 39) (.qcall 113 [.any]) [(.t 37), (.t 38)]
    (.op (some 40) (.ldAll .heap 5) [(.t 6)]
    (.op (some 41) (.qcall 114 [.agg]) [(.t 39), (.t 40)]
    (.op none (.stAll (.slot 1) 5) [(.t 8), (.t 41)]
    .nil)))))))
  .ret)))))) }

/- jacquard/prog.Value: 108 -/
def prog_Value : Fn := { np := 2, nt := 20, ns := 2, res := [.t 4 (.i .i64)], gc := false, code :=
  (.seq (.reg 0 false (.box 2 0 (.t 0)
    (.box 3 1 (.t 1)
    (.op (some 4) .mov [(.k (.c (.int .i64 0)))]
    .nil))))
  (.seq (.seq (.reg 1 false (.op (some 5) (.addr 0) [(.t 2)]
    (.op (some 6) (.ld (.slot 0) (.i .i64)) [(.t 5)]
    (.op (some 7) (.bin .geq) [(.t 6), (.k (.c (.int .i64 0)))]
    (.op (some 8) .mov [(.t 7)]
    (.sc 8 true (.op (some 9) (.addr 0) [(.t 2)]
    (.op (some 10) (.ld (.slot 0) (.i .i64)) [(.t 9)]
    (.op (some 11) (.bin .lss) [(.t 10), (.k (.c (.int .i64 4)))]
    .nil))) 11 12 false
    .nil))))))
  (.cond (.t 12)
  (.seq (.reg 2 false (.op (some 13) (.addr 0) [(.t 2)]
    (.op (some 14) (.ld (.slot 0) (.i .i64)) [(.t 13)]
    (.op (some 15) (.addr 1) [(.t 3)]
    (.op (some 16) (.idxA 4 1) [(.t 15), (.t 14)]
    (.op (some 17) (.ld (.slot 1) (.i .i64)) [(.t 16)]
    (.op (some 4) .mov [(.t 17)]
    .nil)))))))
  .ret)
  .skip))
  (.seq (.reg 3 false (.op (some 18) (.addr 1) [(.t 2)]
    (.op (some 19) (.ld (.slot 0) (.i .i64)) [(.t 18)]
    (.op (some 4) .mov [(.t 19)]
    .nil))))
  .ret))) }

/- jacquard/prog.thread: 113 -/
def prog_thread : Fn := { np := 2, nt := 19, ns := 1, res := [.t 4 .any], gc := false, code :=
  (.seq (.reg 0 false (.box 2 0 (.t 0)
    (.op (some 4) .mov [(.k (.c .nils))]
    .nil)))
  (.seq (.seq (.reg 1 false (.op (some 5) .mov [(.t 1)]
    (.op (some 6) (.bin .lss) [(.t 5), (.k (.c (.int .i64 0)))]
    (.op (some 7) .mov [(.t 6)]
    (.sc 7 false (.op (some 8) .mov [(.t 1)]
    (.op (some 9) (.addr 2) [(.t 2)]
    (.op (some 10) (.ld (.slot 0) .any) [(.t 9)]
    (.op (some 11) .len [(.t 10)]
    (.op (some 12) (.bin .geq) [(.t 8), (.t 11)]
    .nil))))) 12 13 true
    .nil)))))
  (.cond (.t 13)
  (.seq (.reg 2 false (.op (some 4) .mov [(.k (.c .nils))]
    .nil))
  .ret)
  .skip))
  (.seq (.reg 3 false (.op (some 14) (.addr 2) [(.t 2)]
    (.op (some 15) (.ld (.slot 0) .any) [(.t 14)]
    (.op (some 16) .mov [(.t 1)]
    (.op (some 17) (.idxS 1) [(.t 15), (.t 16)]
    (.op (some 18) (.ld .heap .any) [(.t 17)]
    (.op (some 4) .mov [(.t 18)]
    .nil)))))))
  .ret))) }

/- jacquard/prog.normal: 114 -/
def prog_normal_b1 : IC :=
  (.seq (.seq (.reg 1 false (.op (some 10) (.addr 0) [(.t 3)]
    (.op (some 11) (.ld .heap (.i .i64)) [(.t 10)]
    (.op (some 12) (.bin .geq) [(.t 11), (.k (.c (.int .i64 0)))]
    (.op (some 13) .mov [(.t 12)]
    (.sc 13 true (.op (some 14) (.addr 0) [(.t 3)]
    (.op (some 15) (.ld .heap (.i .i64)) [(.t 14)]
    (.op (some 16) .mov [(.t 0)]
    (.op (some 17) .len [(.t 16)]
    (.op (some 18) (.bin .lss) [(.t 15), (.t 17)]
    .nil))))) 18 19 false
    .nil))))))
  (.cond (.t 19)
  .skip
  (.exit 0)))
  (.blk 1 (.seq (.reg 2 false (.op (some 20) .mov [(.t 0)]
    (.op (some 21) (.addr 0) [(.t 3)]
    (.op (some 22) (.ld .heap (.i .i64)) [(.t 21)]
    (.op (some 23) (.idxS 9) [(.t 20), (.t 22)]
    (.op (some 24) (.ldN .heap 9) [(.t 23)]
    (.al 5 1 (List.replicate 9 (Cell.int .i64 0))
    (.op none (.stAll (.slot 1) 9) [(.t 5), (.t 24)]
    .nil))))))))
  (.seq (.reg 3 true (.op (some 25) (.addr 3) [(.t 5)]
    (.op (some 26) (.ldN (.slot 1) 2) [(.t 25)]
    (.op (some 27) (.ldAll .heap 5) [(.t 3)]
    (.op (some 28) (.qcall 108 [(.i .i64)]) [(.t 26), (.t 27)]
    (.op (some 29) (.addr 6) [(.t 5)]
    (.op (some 30) (.ldN (.slot 1) 2) [(.t 29)]
    (.op (some 31) (.ldAll .heap 5) [(.t 3)]
    (.op (some 32) (.qcall 108 [(.i .i64)]) [(.t 30), (.t 31)]
    (.op (some 6) .mov [(.t 28)]
    (.op (some 7) .mov [(.t 32)]
    .nil)))))))))))
  (.seq (.seq (.reg 4 false (.op (some 33) (.addr 0) [(.t 5)]
    (.op (some 34) (.ld (.slot 1) (.i .i64)) [(.t 33)]
    .nil)))
  (.blk 2 (.seq (.reg 6 false (.op (some 37) (.bin .eql) [(.t 34), (.k (.c (.int .i64 5)))]
    (.op (some 36) .mov [(.t 37)]
    .nil)))
  (.cond (.t 36)
  (.seq (.seq (.reg 7 false (.op (some 39) (.addr 5) [(.t 5)]
    (.op (some 40) (.ld (.slot 1) (.i .i64)) [(.t 39)]
    (.op (some 41) .mov [(.t 6)]
    (.op (some 42) .mov [(.t 7)]
    (.op (some 43) (.call 125 [(.i .i64), .b]) [(.t 40), (.t 41), (.t 42)]
    (.op (some 38) .mov [(.t 43)]
    (.op (some 44) (.ext 0) [(.t 38)]
    (.op (some 45) (.ext 1) [(.t 38)]
    (.op (some 8) .mov [(.t 44)]
    (.op (some 9) .mov [(.t 45)]
    .nil)))))))))))
  (.seq (.reg 8 false (.op (some 46) .mov [(.t 9)]
    .nil))
  (.cond (.t 46)
  (.reg 9 false (.op (some 47) .mov [(.t 8)]
    (.op (some 6) .mov [(.t 47)]
    .nil)))
  .skip)))
  (.reg 10 false (.op (some 48) (.addr 1) [(.t 5)]
    (.op (some 49) (.ld (.slot 1) (.i .i64)) [(.t 48)]
    (.op (some 50) .mov [(.t 6)]
    (.op (some 51) (.call 124 []) [(.t 3), (.t 49), (.t 50)]
    .nil))))))
  (.seq (.reg 11 false (.op (some 53) (.bin .eql) [(.t 34), (.k (.c (.int .i64 6)))]
    (.op (some 52) .mov [(.t 53)]
    .nil)))
  (.cond (.t 52)
  (.seq (.reg 12 false (.op (some 54) .mov [(.t 6)]
    (.op (some 55) .mov [(.t 7)]
    (.op (some 56) (.bin .eql) [(.t 54), (.t 55)]
    .nil))))
  (.cond (.t 56)
  (.reg 13 false (.op (some 57) (.addr 0) [(.t 3)]
    (.op (some 58) (.ld .heap (.i .i64)) [(.t 57)]
    (.op (some 59) (.addr 8) [(.t 5)]
    (.op (some 60) (.ld (.slot 1) (.i .i64)) [(.t 59)]
    (.op (some 61) .mx [(.t 60), (.k (.c (.int .i64 0)))]
    (.op (some 62) .mov [(.t 0)]
    (.op (some 63) .len [(.t 62)]
    (.op (some 64) .mn [(.t 61), (.t 63)]
    (.op (some 65) (.bin .add) [(.t 58), (.t 64)]
    (.op (some 66) (.addr 0) [(.t 3)]
    (.op none (.st .heap) [(.t 66), (.t 65)]
    .nil))))))))))))
  .skip))
  (.seq (.reg 5 false (.op (some 35) (.ldAll .heap 5) [(.t 3)]
    (.op none (.stAll (.slot 0) 5) [(.t 4), (.t 35)]
    .nil)))
  .ret)))))))
  (.reg 14 false (.op (some 67) (.addr 0) [(.t 3)]
    (.op (some 68) (.ld .heap (.i .i64)) [(.t 67)]
    (.op (some 69) (.bin .add) [(.t 68), (.k (.c (.int .i64 1)))]
    (.op (some 70) (.addr 0) [(.t 3)]
    (.op none (.st .heap) [(.t 70), (.t 69)]
    .nil)))))))))))
def prog_normal_p1 : IC :=
  (.seq (.reg 15 false (.op (some 71) (.ldAll .heap 5) [(.t 3)]
    (.op none (.stAll (.slot 0) 5) [(.t 4), (.t 71)]
    .nil)))
  .ret)
def prog_normal : Fn := { np := 2, nt := 72, ns := 2, res := [.all (.slot 0) 4 5], gc := true, code :=
  (.seq (.reg 0 false (.op (some 3) .boxH [(.t 1)]
    (.al 4 0 ([Cell.int .i64 0, Cell.int .i64 0, Cell.int .i64 0, Cell.int .i64 0, Cell.int .i64 0])
    .nil)))
  (.seq (.blk 0 (.loop [0, 3, 4] [0] [(0, [4], [0]), (1, [3, 4], [0])] prog_normal_b1))
  prog_normal_p1)) }

/- jacquard/prog.set: 124 -/
def prog_set : Fn := { np := 3, nt := 18, ns := 0, res := [], gc := false, code :=
  (.seq (.reg 0 false (.op (some 6) .mov [(.t 1)]
    (.op (some 7) (.bin .geq) [(.t 6), (.k (.c (.int .i64 0)))]
    (.op (some 8) .mov [(.t 7)]
    (.sc 8 true (.op (some 9) .mov [(.t 1)]
    (.op (some 10) (.bin .lss) [(.t 9), (.k (.c (.int .i64 4)))]
    .nil)) 10 11 false
    .nil)))))
  (.cond (.t 11)
  (.reg 1 false (.op (some 12) .mov [(.t 0)]
    (.op (some 13) .mov [(.t 1)]
    (.op (some 14) .mov [(.t 2)]
    (.op (some 15) .nilchk [(.t 12)]
    (.op (some 16) (.addr 1) [(.t 15)]
    (.op (some 17) (.idxA 4 1) [(.t 16), (.t 13)]
    (.op none (.st .heap) [(.t 17), (.t 14)]
    .nil))))))))
  .skip)) }


end Jq

namespace Jq
open Go

/- jacquard/num.Do: 125 -/
def num_Do : Fn := { np := 3, nt := 71, ns := 0, res := [.t 6 (.i .i64), .t 7 .b], gc := false, code :=
  (.seq (.reg 0 false (.op (some 6) .mov [(.k (.c (.int .i64 0)))]
    (.op (some 7) .mov [(.k (.c (.bool false)))]
    .nil)))
  (.seq (.reg 1 false (.op (some 9) .mov [(.t 2)]
    (.op (some 10) (.conv .u64) [(.t 9)]
    (.op (some 11) (.bin .rem) [(.t 10), (.k (.c (.int .u64 64)))]
    (.op (some 8) .mov [(.t 11)]
    .nil)))))
  (.seq (.seq (.reg 2 false (.op (some 12) .mov [(.t 0)]
    .nil))
  (.blk 0 (.seq (.reg 3 false (.op (some 14) (.bin .eql) [(.t 12), (.k (.c (.int .i64 1)))]
    (.op (some 13) .mov [(.t 14)]
    .nil)))
  (.cond (.t 13)
  (.seq (.reg 4 false (.op (some 15) .mov [(.t 1)]
    (.op (some 16) .mov [(.t 2)]
    (.op (some 17) (.bin .add) [(.t 15), (.t 16)]
    (.op (some 6) .mov [(.t 17)]
    (.op (some 7) .mov [(.k (.c (.bool true)))]
    .nil))))))
  .ret)
  (.seq (.reg 5 false (.op (some 19) (.bin .eql) [(.t 12), (.k (.c (.int .i64 2)))]
    (.op (some 18) .mov [(.t 19)]
    .nil)))
  (.cond (.t 18)
  (.seq (.reg 6 false (.op (some 20) .mov [(.t 1)]
    (.op (some 21) .mov [(.t 2)]
    (.op (some 22) (.bin .sub) [(.t 20), (.t 21)]
    (.op (some 6) .mov [(.t 22)]
    (.op (some 7) .mov [(.k (.c (.bool true)))]
    .nil))))))
  .ret)
  (.seq (.reg 7 false (.op (some 24) (.bin .eql) [(.t 12), (.k (.c (.int .i64 3)))]
    (.op (some 23) .mov [(.t 24)]
    .nil)))
  (.cond (.t 23)
  (.seq (.reg 8 false (.op (some 25) .mov [(.t 1)]
    (.op (some 26) .mov [(.t 2)]
    (.op (some 27) (.bin .mul) [(.t 25), (.t 26)]
    (.op (some 6) .mov [(.t 27)]
    (.op (some 7) .mov [(.k (.c (.bool true)))]
    .nil))))))
  .ret)
  (.seq (.reg 9 false (.op (some 29) (.bin .eql) [(.t 12), (.k (.c (.int .i64 4)))]
    (.op (some 28) .mov [(.t 29)]
    .nil)))
  (.cond (.t 28)
  (.seq (.reg 10 false (.op (some 30) .mov [(.t 1)]
    (.op (some 31) .mov [(.t 2)]
    (.op (some 32) (.bin .and) [(.t 30), (.t 31)]
    (.op (some 6) .mov [(.t 32)]
    (.op (some 7) .mov [(.k (.c (.bool true)))]
    .nil))))))
  .ret)
  (.seq (.reg 11 false (.op (some 34) (.bin .eql) [(.t 12), (.k (.c (.int .i64 5)))]
    (.op (some 33) .mov [(.t 34)]
    .nil)))
  (.cond (.t 33)
  (.seq (.reg 12 false (.op (some 35) .mov [(.t 1)]
    (.op (some 36) .mov [(.t 2)]
    (.op (some 37) (.bin .or) [(.t 35), (.t 36)]
    (.op (some 6) .mov [(.t 37)]
    (.op (some 7) .mov [(.k (.c (.bool true)))]
    .nil))))))
  .ret)
  (.seq (.reg 13 false (.op (some 39) (.bin .eql) [(.t 12), (.k (.c (.int .i64 6)))]
    (.op (some 38) .mov [(.t 39)]
    .nil)))
  (.cond (.t 38)
  (.seq (.reg 14 false (.op (some 40) .mov [(.t 1)]
    (.op (some 41) .mov [(.t 2)]
    (.op (some 42) (.bin .xor) [(.t 40), (.t 41)]
    (.op (some 6) .mov [(.t 42)]
    (.op (some 7) .mov [(.k (.c (.bool true)))]
    .nil))))))
  .ret)
  (.seq (.reg 15 false (.op (some 44) (.bin .eql) [(.t 12), (.k (.c (.int .i64 7)))]
    (.op (some 43) .mov [(.t 44)]
    .nil)))
  (.cond (.t 43)
  (.seq (.reg 16 false (.op (some 45) .mov [(.t 1)]
    (.op (some 46) .mov [(.t 8)]
    (.op (some 47) (.bin .shl) [(.t 45), (.t 46)]
    (.op (some 6) .mov [(.t 47)]
    (.op (some 7) .mov [(.k (.c (.bool true)))]
    .nil))))))
  .ret)
  (.seq (.reg 17 false (.op (some 49) (.bin .eql) [(.t 12), (.k (.c (.int .i64 8)))]
    (.op (some 48) .mov [(.t 49)]
    .nil)))
  (.cond (.t 48)
  (.seq (.reg 18 false (.op (some 50) .mov [(.t 1)]
    (.op (some 51) .mov [(.t 8)]
    (.op (some 52) (.bin .shr) [(.t 50), (.t 51)]
    (.op (some 6) .mov [(.t 52)]
    (.op (some 7) .mov [(.k (.c (.bool true)))]
    .nil))))))
  .ret)
  (.seq (.reg 19 false (.op (some 54) (.bin .eql) [(.t 12), (.k (.c (.int .i64 9)))]
    (.op (some 53) .mov [(.t 54)]
    .nil)))
  (.cond (.t 53)
  (.seq (.reg 20 false (.op (some 55) .mov [(.t 1)]
    (.op (some 56) .mov [(.t 2)]
    (.op (some 57) (.bin .eql) [(.t 55), (.t 56)]
    (.op (some 58) (.call 139 [(.i .i64)]) [(.t 57)]
    (.op (some 6) .mov [(.t 58)]
    (.op (some 7) .mov [(.k (.c (.bool true)))]
    .nil)))))))
  .ret)
  (.seq (.reg 21 false (.op (some 60) (.bin .eql) [(.t 12), (.k (.c (.int .i64 10)))]
    (.op (some 59) .mov [(.t 60)]
    .nil)))
  (.cond (.t 59)
  (.seq (.reg 22 false (.op (some 61) .mov [(.t 1)]
    (.op (some 62) .mov [(.t 2)]
    (.op (some 63) (.bin .neq) [(.t 61), (.t 62)]
    (.op (some 64) (.call 139 [(.i .i64)]) [(.t 63)]
    (.op (some 6) .mov [(.t 64)]
    (.op (some 7) .mov [(.k (.c (.bool true)))]
    .nil)))))))
  .ret)
  (.seq (.reg 23 false (.op (some 66) (.bin .eql) [(.t 12), (.k (.c (.int .i64 11)))]
    (.op (some 65) .mov [(.t 66)]
    .nil)))
  (.cond (.t 65)
  (.seq (.reg 24 false (.op (some 67) .mov [(.t 1)]
    (.op (some 68) .mov [(.t 2)]
    (.op (some 69) (.bin .lss) [(.t 67), (.t 68)]
    (.op (some 70) (.call 139 [(.i .i64)]) [(.t 69)]
    (.op (some 6) .mov [(.t 70)]
    (.op (some 7) .mov [(.k (.c (.bool true)))]
    .nil)))))))
  .ret)
  .skip))))))))))))))))))))))))
  (.seq (.reg 25 false (.op (some 6) .mov [(.k (.c (.int .i64 0)))]
    (.op (some 7) .mov [(.k (.c (.bool false)))]
    .nil)))
  .ret)))) }

/- jacquard/num.one: 139 -/
def num_one : Fn := { np := 1, nt := 4, ns := 0, res := [.t 2 (.i .i64)], gc := false, code :=
  (.seq (.reg 0 false (.op (some 2) .mov [(.k (.c (.int .i64 0)))]
    .nil))
  (.seq (.seq (.reg 1 false (.op (some 3) .mov [(.t 0)]
    .nil))
  (.cond (.t 3)
  (.seq (.reg 2 false (.op (some 2) .mov [(.k (.c (.int .i64 1)))]
    .nil))
  .ret)
  .skip))
  (.seq (.reg 3 false (.op (some 2) .mov [(.k (.c (.int .i64 0)))]
    .nil))
  .ret))) }


end Jq

/- What a function needs of an environment. -/
namespace Jq
open Go

structure num_one_In (E : Env) : Prop where
  fn : E.fn 139 = some num_one

structure num_Do_In (E : Env) : Prop where
  fn : E.fn 125 = some num_Do
  c139 : num_one_In E

end Jq

namespace Jq
open Go


end Jq

namespace Jq
open Go

/- slices.Equal(()jacquard/api.Ev,jacquard/api.Ev): 112 -/
def slices_Equal_sEv_Ev_b1 : IC :=
  (.seq (.reg 4 false (.op (some 14) (.bin .lss) [(.t 13), (.t 12)]
    .nil))
  (.seq (.cond (.t 14)
  .skip
  (.exit 0))
  (.seq (.blk 1 (.seq (.reg 5 false (.op (some 15) .mov [(.t 13)]
    (.op (some 5) .mov [(.t 15)]
    .nil)))
  (.seq (.reg 6 true (.op (some 16) .mov [(.t 0)]
    (.op (some 17) .mov [(.t 5)]
    (.op (some 18) (.idxS 6) [(.t 16), (.t 17)]
    (.op (some 19) (.ldN .heap 6) [(.t 18)]
    (.op (some 20) .mov [(.t 1)]
    (.op (some 21) .mov [(.t 5)]
    (.op (some 22) (.idxS 6) [(.t 20), (.t 21)]
    (.op (some 23) (.ldN .heap 6) [(.t 22)]
    (.op (some 24) (.eqA true ([Cell.int .i64 0, Cell.int .i64 0, Cell.int .i64 0, Cell.int .i64 0, Cell.int .i64 0, Cell.int .i64 0])) [(.t 19), (.t 23)]
    .nil))))))))))
  (.cond (.t 24)
  (.seq (.reg 7 false (.op (some 4) .mov [(.k (.c (.bool false)))]
    .nil))
  .ret)
  .skip))))
  (.reg 8 false (.op (some 25) (.bin .add) [(.t 13), (.k (.c (.int .i64 1)))]
    (.op (some 13) .mov [(.t 25)]
    .nil))))))
def slices_Equal_sEv_Ev_p1 : IC :=
  (.seq (.reg 9 false (.op (some 4) .mov [(.k (.c (.bool true)))]
    .nil))
  .ret)
def slices_Equal_sEv_Ev : Fn := { np := 2, nt := 26, ns := 0, res := [.t 4 .b], gc := false, code :=
  (.seq (.reg 0 false (.op (some 4) .mov [(.k (.c (.bool false)))]
    .nil))
  (.seq (.seq (.reg 1 false (.op (some 6) .mov [(.t 0)]
    (.op (some 7) .len [(.t 6)]
    (.op (some 8) .mov [(.t 1)]
    (.op (some 9) .len [(.t 8)]
    (.op (some 10) (.bin .neq) [(.t 7), (.t 9)]
    .nil))))))
  (.cond (.t 10)
  (.seq (.reg 2 false (.op (some 4) .mov [(.k (.c (.bool false)))]
    .nil))
  .ret)
  .skip))
  (.seq (.seq (.reg 3 false (.op (some 11) .mov [(.t 0)]
    (.op (some 12) .len [(.t 11)]
    (.op (some 13) .mov [(.k (.c (.int .i64 0)))]
    .nil))))
  (.blk 0 (.loop [0, 1, 12, 13] [] [(0, [4], []), (1, [], [])] slices_Equal_sEv_Ev_b1)))
  slices_Equal_sEv_Ev_p1))) }


end Jq

namespace Jq
open Go


end Jq

/- What a function needs of an environment. -/
namespace Jq
open Go


end Jq

namespace Jq
open Go


end Jq

/- What a function needs of an environment. -/
namespace Jq
open Go


end Jq

/- What a function needs of an environment. -/
namespace Jq
open Go

structure slices_Equal_sEv_Ev_In (E : Env) : Prop where
  fn : E.fn 112 = some slices_Equal_sEv_Ev

end Jq

/- What a function needs of an environment. -/
namespace Jq
open Go


end Jq

namespace Jq
open Go


end Jq

/- What a function needs of an environment. -/
namespace Jq
open Go


end Jq

/- What a function needs of an environment. -/
namespace Jq
open Go

structure prog_thread_In (E : Env) : Prop where
  fn : E.fn 113 = some prog_thread

structure prog_Value_In (E : Env) : Prop where
  fn : E.fn 108 = some prog_Value

structure prog_set_In (E : Env) : Prop where
  fn : E.fn 124 = some prog_set

structure prog_normal_In (E : Env) : Prop where
  fn : E.fn 114 = some prog_normal
  c108 : prog_Value_In E
  c124 : prog_set_In E
  c125 : num_Do_In E

structure prog_Start_In (E : Env) : Prop where
  fn : E.fn 94 = some prog_Start
  c113 : prog_thread_In E
  c114 : prog_normal_In E

structure prog_Next_In (E : Env) : Prop where
  fn : E.fn 105 = some prog_Next
  c113 : prog_thread_In E

structure prog_After_In (E : Env) : Prop where
  fn : E.fn 106 = some prog_After
  c105 : prog_Next_In E
  c113 : prog_thread_In E
  c114 : prog_normal_In E
  c124 : prog_set_In E

end Jq

namespace Jq
open Go


end Jq

namespace Jq
open Go


end Jq

/- What a function needs of an environment. -/
namespace Jq
open Go


end Jq

/- What a function needs of an environment. -/
namespace Jq
open Go


end Jq

/- What a function needs of an environment. -/
namespace Jq
open Go

structure event_Of_In (E : Env) : Prop where
  fn : E.fn 109 = some event_Of
  c108 : prog_Value_In E

structure event_Unfold_In (E : Env) : Prop where
  fn : E.fn 78 = some event_Unfold
  c94 : prog_Start_In E
  c105 : prog_Next_In E
  c106 : prog_After_In E
  c109 : event_Of_In E

structure event_Inits_In (E : Env) : Prop where
  fn : E.fn 88 = some event_Inits

structure event_Reads_In (E : Env) : Prop where
  fn : E.fn 79 = some event_Reads

structure event_Writes_In (E : Env) : Prop where
  fn : E.fn 80 = some event_Writes

structure event_Fences_In (E : Env) : Prop where
  fn : E.fn 82 = some event_Fences

structure event_Same_In (E : Env) : Prop where
  fn : E.fn 84 = some event_Same
  c112 : slices_Equal_sEv_Ev_In E

end Jq

namespace Jq
open Go

/- jacquard/jacquardlaw10.awake: 77 -/
def jacquardlaw10_awake : Fn := { np := 0, nt := 54, ns := 2, res := [.t 0 .b], gc := true, code :=
  (.seq (.reg 0 false (.op (some 0) .mov [(.k (.c (.bool false)))]
    .nil))
  (.seq (.reg 1 false (.op (some 6) (.bslice 1 1 ([Cell.int .u8 0]) [(0, 1)]) [(.k (.c (.int .u8 120)))]
    (.op (some 7) .mark [(.t 6)]
    (.op (some 8) (.bslice 1 1 ([Cell.int .i64 0]) [(0, 1)]) [(.k (.c (.int .i64 4)))]
    (.op (some 9) (.build (List.replicate 9 (Cell.int .i64 0)) [(0, 1), (1, 1)]) [(.k (.c (.int .i64 2))), (.k (.c (.int .i64 1)))]
    (.op (some 10) (.bslice 9 1 (List.replicate 9 (Cell.int .i64 0)) [(0, 9)]) [(.t 9)]
    (.op (some 11) (.bslice 1 1 ([Cell.nils]) [(0, 1)]) [(.t 10)]
    (.op (some 12) (.build ([Cell.nils, Cell.nils, Cell.nils]) [(0, 1), (1, 1), (2, 1)]) [(.t 7), (.t 8), (.t 11)]
    (.al 1 0 ([Cell.nils, Cell.nils, Cell.nils])
    (.op none (.stAll (.slot 0) 3) [(.t 1), (.t 12)]
    .nil))))))))))
  (.seq (.reg 2 false (.op (some 14) (.ldAll (.slot 0) 3) [(.t 1)]
    (.op (some 15) (.bslice 1 1 ([Cell.int .i64 0]) [(0, 1)]) [(.k (.c (.int .i64 5)))]
    (.op (some 16) (.call 78 [.any, .agg, .b]) [(.t 14), (.k (.c (.int .i64 0))), (.t 15)]
    (.op (some 13) .mov [(.t 16)]
    (.op (some 17) (.ext 0) [(.t 13)]
    (.op (some 18) (.ext 1) [(.t 13)]
    (.op (some 19) (.ext 2) [(.t 13)]
    (.al 3 1 ([Cell.int .i64 0, Cell.int .i64 0, Cell.int .i64 0, Cell.int .i64 0, Cell.int .i64 0])
    (.op (some 2) .mov [(.t 17)]
    (.op none (.stAll (.slot 1) 5) [(.t 3), (.t 18)]
    (.op (some 4) .mov [(.t 19)]
    .nil))))))))))))
  (.seq (.reg 3 false (.op (some 20) (.ldAll (.slot 0) 3) [(.t 1)]
    (.op (some 21) (.call 88 [.any]) [(.t 20)]
    (.op (some 5) .mov [(.t 21)]
    .nil))))
  (.seq (.reg 4 false (.op (some 22) .mov [(.t 2)]
    (.op (some 23) .len [(.t 22)]
    (.op (some 24) (.bin .eql) [(.t 23), (.k (.c (.int .i64 1)))]
    (.op (some 25) .mov [(.t 24)]
    (.sc 25 true (.op (some 26) .mov [(.t 2)]
    (.op (some 27) (.idxS 6) [(.t 26), (.k (.c (.int .i64 0)))]
    (.op (some 28) (.ldN .heap 6) [(.t 27)]
    (.op (some 29) (.build ([Cell.int .i64 0, Cell.int .i64 0, Cell.int .i64 0, Cell.int .i64 0, Cell.int .i64 0, Cell.int .i64 0]) [(2, 1), (4, 1)]) [(.k (.c (.int .i64 1))), (.k (.c (.int .i64 5)))]
    (.op (some 30) (.eqA false ([Cell.int .i64 0, Cell.int .i64 0, Cell.int .i64 0, Cell.int .i64 0, Cell.int .i64 0, Cell.int .i64 0])) [(.t 28), (.t 29)]
    .nil))))) 30 31 false
    (.op (some 32) .mov [(.t 31)]
    (.sc 32 true (.op (some 33) (.addr 1) [(.t 3)]
    (.op (some 34) (.idxA 4 1) [(.t 33), (.k (.c (.int .i64 1)))]
    (.op (some 35) (.ld (.slot 1) (.i .i64)) [(.t 34)]
    (.op (some 36) (.bin .eql) [(.t 35), (.k (.c (.int .i64 5)))]
    .nil)))) 36 37 false
    (.op (some 38) .mov [(.t 37)]
    (.sc 38 true (.op (some 39) .mov [(.t 4)]
    (.op (some 40) (.un .not) [(.t 39)]
    .nil)) 40 41 false
    (.op (some 42) .mov [(.t 41)]
    (.sc 42 true (.op (some 43) .mov [(.t 5)]
    (.op (some 44) .len [(.t 43)]
    (.op (some 45) (.bin .eql) [(.t 44), (.k (.c (.int .i64 1)))]
    .nil))) 45 46 false
    (.op (some 47) .mov [(.t 46)]
    (.sc 47 true (.op (some 48) .mov [(.t 5)]
    (.op (some 49) (.idxS 6) [(.t 48), (.k (.c (.int .i64 0)))]
    (.op (some 50) (.ldN .heap 6) [(.t 49)]
    (.op (some 51) (.build ([Cell.int .i64 0, Cell.int .i64 0, Cell.int .i64 0, Cell.int .i64 0, Cell.int .i64 0, Cell.int .i64 0]) [(0, 1), (2, 1), (5, 1)]) [(.k (.c (.int .i64 (-1)))), (.k (.c (.int .i64 2))), (.k (.c (.int .i64 4)))]
    (.op (some 52) (.eqA false ([Cell.int .i64 0, Cell.int .i64 0, Cell.int .i64 0, Cell.int .i64 0, Cell.int .i64 0, Cell.int .i64 0])) [(.t 50), (.t 51)]
    .nil))))) 52 53 false
    (.op (some 0) .mov [(.t 53)]
    .nil)))))))))))))))
  .ret))))) }

/- jacquard/jacquardlaw10.EventUnfolds: 213 -/
def jacquardlaw10_EventUnfolds_b1 : IC :=
  (.seq (.seq (.reg 9 false (.op (some 61) .mov [(.t 14)]
    (.op (some 62) .mov [(.t 11)]
    (.op (some 63) .len [(.t 62)]
    (.op (some 64) (.bin .lss) [(.t 61), (.t 63)]
    .nil)))))
  (.cond (.t 64)
  .skip
  (.exit 0)))
  (.seq (.blk 1 (.seq (.reg 11 true (.op (some 67) .mov [(.t 8)]
    (.op (some 68) .mov [(.t 14)]
    (.op (some 69) (.idxS 6) [(.t 67), (.t 68)]
    (.op (some 70) (.ldN .heap 6) [(.t 69)]
    (.op (some 71) .mov [(.t 11)]
    (.op (some 72) .mov [(.t 14)]
    (.op (some 73) (.idxS 6) [(.t 71), (.t 72)]
    (.op (some 74) (.ldN .heap 6) [(.t 73)]
    (.op (some 75) (.eqA true ([Cell.int .i64 0, Cell.int .i64 0, Cell.int .i64 0, Cell.int .i64 0, Cell.int .i64 0, Cell.int .i64 0])) [(.t 70), (.t 74)]
    (.op (some 76) .mov [(.t 75)]
    (.sc 76 false (.op (some 77) .mov [(.t 11)]
    (.op (some 78) .mov [(.t 14)]
    (.op (some 79) (.idxS 6) [(.t 77), (.t 78)]
    (.op (some 80) (.ldN .heap 6) [(.t 79)]
    (.op (some 81) (.qcall 79 [.b]) [(.t 80)]
    (.op (some 82) .mov [(.t 11)]
    (.op (some 83) .mov [(.t 14)]
    (.op (some 84) (.idxS 6) [(.t 82), (.t 83)]
    (.op (some 85) (.ldN .heap 6) [(.t 84)]
    (.op (some 86) (.qcall 85 [.b]) [(.t 85)]
    (.op (some 87) (.eqB true) [(.t 81), (.t 86)]
    .nil))))))))))) 87 88 true
    (.op (some 89) .mov [(.t 88)]
    (.sc 89 false (.op (some 90) .mov [(.t 11)]
    (.op (some 91) .mov [(.t 14)]
    (.op (some 92) (.idxS 6) [(.t 90), (.t 91)]
    (.op (some 93) (.ldN .heap 6) [(.t 92)]
    (.op (some 94) (.qcall 80 [.b]) [(.t 93)]
    (.op (some 95) .mov [(.t 11)]
    (.op (some 96) .mov [(.t 14)]
    (.op (some 97) (.idxS 6) [(.t 95), (.t 96)]
    (.op (some 98) (.ldN .heap 6) [(.t 97)]
    (.op (some 99) (.qcall 86 [.b]) [(.t 98)]
    (.op (some 100) (.eqB true) [(.t 94), (.t 99)]
    .nil))))))))))) 100 101 true
    (.op (some 102) .mov [(.t 101)]
    (.sc 102 false (.op (some 103) .mov [(.t 11)]
    (.op (some 104) .mov [(.t 14)]
    (.op (some 105) (.idxS 6) [(.t 103), (.t 104)]
    (.op (some 106) (.ldN .heap 6) [(.t 105)]
    (.op (some 107) (.qcall 82 [.b]) [(.t 106)]
    (.op (some 108) .mov [(.t 11)]
    (.op (some 109) .mov [(.t 14)]
    (.op (some 110) (.idxS 6) [(.t 108), (.t 109)]
    (.op (some 111) (.ldN .heap 6) [(.t 110)]
    (.op (some 112) (.qcall 87 [.b]) [(.t 111)]
    (.op (some 113) (.eqB true) [(.t 107), (.t 112)]
    .nil))))))))))) 113 114 true
    .nil))))))))))))))))
  (.cond (.t 114)
  (.seq (.reg 12 false (.op (some 6) .mov [(.k (.c (.bool false)))]
    .nil))
  .ret)
  .skip)))
  (.reg 10 false (.op (some 65) .mov [(.t 14)]
    (.op (some 66) (.bin .add) [(.t 65), (.k (.c (.int .i64 1)))]
    (.op (some 14) .mov [(.t 66)]
    .nil))))))
def jacquardlaw10_EventUnfolds_b2 : IC :=
  (.seq (.seq (.reg 17 false (.op (some 124) .mov [(.t 17)]
    (.op (some 125) .mov [(.t 16)]
    (.op (some 126) .len [(.t 125)]
    (.op (some 127) (.bin .lss) [(.t 124), (.t 126)]
    .nil)))))
  (.cond (.t 127)
  .skip
  (.exit 2)))
  (.seq (.blk 3 (.seq (.reg 19 true (.op (some 130) .mov [(.t 15)]
    (.op (some 131) .mov [(.t 17)]
    (.op (some 132) (.idxS 6) [(.t 130), (.t 131)]
    (.op (some 133) (.ldN .heap 6) [(.t 132)]
    (.op (some 134) .mov [(.t 16)]
    (.op (some 135) .mov [(.t 17)]
    (.op (some 136) (.idxS 6) [(.t 134), (.t 135)]
    (.op (some 137) (.ldN .heap 6) [(.t 136)]
    (.op (some 138) (.eqA true ([Cell.int .i64 0, Cell.int .i64 0, Cell.int .i64 0, Cell.int .i64 0, Cell.int .i64 0, Cell.int .i64 0])) [(.t 133), (.t 137)]
    .nil))))))))))
  (.cond (.t 138)
  (.seq (.reg 20 false (.op (some 6) .mov [(.k (.c (.bool false)))]
    .nil))
  .ret)
  .skip)))
  (.reg 18 false (.op (some 128) .mov [(.t 17)]
    (.op (some 129) (.bin .add) [(.t 128), (.k (.c (.int .i64 1)))]
    (.op (some 17) .mov [(.t 129)]
    .nil))))))
def jacquardlaw10_EventUnfolds_p2 : IC :=
  (.seq (.reg 21 false (.op (some 139) (.call 77 [.b]) []
    (.op (some 6) .mov [(.t 139)]
    .nil)))
  .ret)
def jacquardlaw10_EventUnfolds_p1 : IC :=
  (.seq (.reg 13 true (.op (some 115) (.ldAll (.slot 0) 3) [(.t 7)]
    (.op (some 116) (.call 88 [.any]) [(.t 115)]
    (.op (some 117) (.ldAll (.slot 0) 3) [(.t 7)]
    (.op (some 118) (.call 89 [.any]) [(.t 117)]
    (.op (some 15) .mov [(.t 116)]
    (.op (some 16) .mov [(.t 118)]
    .nil)))))))
  (.seq (.seq (.reg 14 false (.op (some 119) .mov [(.t 15)]
    (.op (some 120) .len [(.t 119)]
    (.op (some 121) .mov [(.t 16)]
    (.op (some 122) .len [(.t 121)]
    (.op (some 123) (.bin .neq) [(.t 120), (.t 122)]
    .nil))))))
  (.cond (.t 123)
  (.seq (.reg 15 false (.op (some 6) .mov [(.k (.c (.bool false)))]
    .nil))
  .ret)
  .skip))
  (.seq (.seq (.reg 16 false (.op (some 17) .mov [(.k (.c (.int .i64 0)))]
    .nil))
  (.blk 2 (.loop [15, 16, 17] [] [(0, [6], []), (3, [], [])] jacquardlaw10_EventUnfolds_b2)))
  jacquardlaw10_EventUnfolds_p2)))
def jacquardlaw10_EventUnfolds : Fn := { np := 3, nt := 140, ns := 3, res := [.t 6 .b], gc := false, code :=
  (.seq (.reg 0 false (.op (some 6) .mov [(.k (.c (.bool false)))]
    .nil))
  (.seq (.seq (.reg 1 false (.op (some 18) .mov [(.t 2)]
    (.op (some 19) .len [(.t 18)]
    (.op (some 20) (.bin .gtr) [(.t 19), (.k (.c (.int .i64 50)))]
    .nil))))
  (.cond (.t 20)
  (.seq (.reg 2 false (.op (some 21) (.call 77 [.b]) []
    (.op (some 6) .mov [(.t 21)]
    .nil)))
  .ret)
  .skip))
  (.seq (.reg 3 false (.op (some 22) .mov [(.t 0)]
    (.op (some 23) (.call 76 [.agg]) [(.t 22), (.k (.c (.int .i64 12)))]
    (.al 7 0 ([Cell.nils, Cell.nils, Cell.nils])
    (.op none (.stAll (.slot 0) 3) [(.t 7), (.t 23)]
    .nil)))))
  (.seq (.reg 4 false (.op (some 25) (.ldAll (.slot 0) 3) [(.t 7)]
    (.op (some 26) .mov [(.t 1)]
    (.op (some 27) .mov [(.t 2)]
    (.op (some 28) (.call 78 [.any, .agg, .b]) [(.t 25), (.t 26), (.t 27)]
    (.op (some 24) .mov [(.t 28)]
    (.op (some 29) (.ext 0) [(.t 24)]
    (.op (some 30) (.ext 1) [(.t 24)]
    (.op (some 31) (.ext 2) [(.t 24)]
    (.al 9 1 ([Cell.int .i64 0, Cell.int .i64 0, Cell.int .i64 0, Cell.int .i64 0, Cell.int .i64 0])
    (.op (some 8) .mov [(.t 29)]
    (.op none (.stAll (.slot 1) 5) [(.t 9), (.t 30)]
    (.op (some 10) .mov [(.t 31)]
    .nil)))))))))))))
  (.seq (.reg 5 false (.op (some 33) (.ldAll (.slot 0) 3) [(.t 7)]
    (.op (some 34) .mov [(.t 1)]
    (.op (some 35) .mov [(.t 2)]
    (.op (some 36) (.call 83 [.any, .agg, .b]) [(.t 33), (.t 34), (.t 35)]
    (.op (some 32) .mov [(.t 36)]
    (.op (some 37) (.ext 0) [(.t 32)]
    (.op (some 38) (.ext 1) [(.t 32)]
    (.op (some 39) (.ext 2) [(.t 32)]
    (.al 12 2 ([Cell.int .i64 0, Cell.int .i64 0, Cell.int .i64 0, Cell.int .i64 0, Cell.int .i64 0])
    (.op (some 11) .mov [(.t 37)]
    (.op none (.stAll (.slot 2) 5) [(.t 12), (.t 38)]
    (.op (some 13) .mov [(.t 39)]
    .nil)))))))))))))
  (.seq (.seq (.reg 6 false (.op (some 40) .mov [(.t 8)]
    (.op (some 41) .mov [(.t 11)]
    (.op (some 42) (.call 84 [.b]) [(.t 40), (.t 41)]
    (.op (some 43) (.un .not) [(.t 42)]
    (.op (some 44) .mov [(.t 43)]
    (.sc 44 false (.op (some 45) .mov [(.t 8)]
    (.op (some 46) .len [(.t 45)]
    (.op (some 47) .mov [(.t 11)]
    (.op (some 48) .len [(.t 47)]
    (.op (some 49) (.bin .neq) [(.t 46), (.t 48)]
    .nil))))) 49 50 true
    (.op (some 51) .mov [(.t 50)]
    (.sc 51 false (.op (some 52) (.ldAll (.slot 1) 5) [(.t 9)]
    (.op (some 53) (.ldAll (.slot 2) 5) [(.t 12)]
    (.op (some 54) (.eqA true ([Cell.int .i64 0, Cell.int .i64 0, Cell.int .i64 0, Cell.int .i64 0, Cell.int .i64 0])) [(.t 52), (.t 53)]
    .nil))) 54 55 true
    (.op (some 56) .mov [(.t 55)]
    (.sc 56 false (.op (some 57) .mov [(.t 10)]
    (.op (some 58) .mov [(.t 13)]
    (.op (some 59) (.eqB true) [(.t 57), (.t 58)]
    .nil))) 59 60 true
    .nil)))))))))))
  (.cond (.t 60)
  (.seq (.reg 7 false (.op (some 6) .mov [(.k (.c (.bool false)))]
    .nil))
  .ret)
  .skip))
  (.seq (.seq (.reg 8 false (.op (some 14) .mov [(.k (.c (.int .i64 0)))]
    .nil))
  (.blk 0 (.loop [7, 8, 11, 14] [0] [(0, [6], []), (1, [7], [0])] jacquardlaw10_EventUnfolds_b1)))
  jacquardlaw10_EventUnfolds_p1))))))) }


end Jq

namespace Jq
open Go

/- jacquard/jacquardlaw6.Of: 76 -/
def jacquardlaw6_Of : Fn := { np := 2, nt := 9, ns := 1, res := [.all (.slot 0) 4 3], gc := false, code :=
  (.seq (.reg 0 false (.al 4 0 ([Cell.nils, Cell.nils, Cell.nils])
    .nil))
  (.seq (.reg 1 false (.op (some 5) .mov [(.t 0)]
    (.op (some 6) .mov [(.t 1)]
    (.op (some 7) (.call 97 [.agg]) [(.t 5), (.t 6)]
    (.op (some 8) (.call 101 [.agg]) [(.t 7)]
    (.op none (.stAll (.slot 0) 3) [(.t 4), (.t 8)]
    .nil))))))
  .ret)) }


end Jq

namespace Jq
open Go

/- jacquard/jacquardlaw3.Small: 97 -/
def jacquardlaw3_Small_p8 : IC :=
  (.cond (.t 108)
  (.seq (.reg 35 false (.op (some 113) .mov [(.t 12)]
    (.op (some 114) .mov [(.t 17)]
    (.op (some 115) .mov [(.t 15)]
    (.op (some 116) (.build (List.replicate 9 (Cell.int .i64 0)) [(0, 1), (1, 1), (2, 1)]) [(.k (.c (.int .i64 2))), (.t 114), (.t 115)]
    (.op (some 117) (.lit 9 1 (List.replicate 9 (Cell.int .i64 0)) [(0, 9)]) [(.t 116)]
    (.op (some 118) (.app 9 72) [(.t 113), (.t 117)]
    (.op (some 12) .mov [(.t 118)]
    .nil))))))))
  (.reg 36 false (.op (some 119) .mov [(.t 10)]
    (.op (some 120) (.bin .add) [(.t 119), (.k (.c (.int .i64 1)))]
    (.op (some 10) .mov [(.t 120)]
    .nil)))))
  (.seq (.reg 37 false (.op (some 122) (.bin .eql) [(.t 83), (.k (.c (.int .i64 8)))]
    (.op (some 121) .mov [(.t 122)]
    .nil)))
  (.cond (.t 121)
  (.reg 38 false (.op (some 123) .mov [(.t 12)]
    (.op (some 124) (.build (List.replicate 9 (Cell.int .i64 0)) [(0, 1)]) [(.k (.c (.int .i64 3)))]
    (.op (some 125) (.lit 9 1 (List.replicate 9 (Cell.int .i64 0)) [(0, 9)]) [(.t 124)]
    (.op (some 126) (.app 9 72) [(.t 123), (.t 125)]
    (.op (some 12) .mov [(.t 126)]
    .nil))))))
  (.seq (.reg 39 false (.op (some 128) (.bin .eql) [(.t 83), (.k (.c (.int .i64 9)))]
    (.op (some 127) .mov [(.t 128)]
    .nil)))
  (.cond (.t 127)
  (.seq (.reg 40 false (.op (some 129) .mov [(.t 12)]
    (.op (some 130) .mov [(.t 17)]
    (.op (some 131) .mov [(.t 15)]
    (.op (some 132) (.ldAll (.slot 2) 2) [(.t 16)]
    (.op (some 133) (.build ([Cell.int .i64 0, Cell.int .i64 0]) [(0, 1), (1, 1)]) [(.k (.c (.int .i64 (-1)))), (.k (.c (.int .i64 1)))]
    (.op (some 134) (.build (List.replicate 9 (Cell.int .i64 0)) [(0, 1), (1, 1), (2, 1), (3, 2), (6, 2)]) [(.k (.c (.int .i64 4))), (.t 130), (.t 131), (.t 132), (.t 133)]
    (.op (some 135) (.lit 9 1 (List.replicate 9 (Cell.int .i64 0)) [(0, 9)]) [(.t 134)]
    (.op (some 136) (.app 9 72) [(.t 129), (.t 135)]
    (.op (some 12) .mov [(.t 136)]
    .nil))))))))))
  (.reg 41 false (.op (some 137) .mov [(.t 10)]
    (.op (some 138) (.bin .add) [(.t 137), (.k (.c (.int .i64 1)))]
    (.op (some 10) .mov [(.t 138)]
    .nil)))))
  (.seq (.reg 42 false (.op (some 140) (.bin .eql) [(.t 83), (.k (.c (.int .i64 10)))]
    (.op (some 139) .mov [(.t 140)]
    .nil)))
  (.cond (.t 139)
  (.reg 43 false (.op (some 141) .mov [(.t 12)]
    (.op (some 142) .mov [(.t 17)]
    (.op (some 143) (.ldAll (.slot 2) 2) [(.t 16)]
    (.op (some 144) (.build ([Cell.int .i64 0, Cell.int .i64 0]) [(0, 1), (1, 1)]) [(.k (.c (.int .i64 (-1)))), (.k (.c (.int .i64 1)))]
    (.op (some 145) (.build (List.replicate 9 (Cell.int .i64 0)) [(0, 1), (1, 1), (3, 2), (5, 1), (6, 2)]) [(.k (.c (.int .i64 5))), (.t 142), (.t 143), (.k (.c (.int .i64 6))), (.t 144)]
    (.op (some 146) (.lit 9 1 (List.replicate 9 (Cell.int .i64 0)) [(0, 9)]) [(.t 145)]
    (.op (some 147) (.app 9 72) [(.t 141), (.t 146)]
    (.op (some 12) .mov [(.t 147)]
    .nil)))))))))
  (.seq (.reg 23 false (.op (some 84) .mov [(.t 12)]
    (.op (some 85) (.ldAll (.slot 2) 2) [(.t 16)]
    (.op (some 86) (.build ([Cell.int .i64 0, Cell.int .i64 0]) [(0, 1)]) [(.k (.c (.int .i64 (-1))))]
    (.op (some 87) (.build (List.replicate 9 (Cell.int .i64 0)) [(0, 1), (3, 2), (6, 2), (8, 1)]) [(.k (.c (.int .i64 6))), (.t 85), (.t 86), (.k (.c (.int .i64 1)))]
    (.op (some 88) .mov [(.t 15)]
    (.op (some 89) (.build ([Cell.int .i64 0, Cell.int .i64 0]) [(0, 1), (1, 1)]) [(.k (.c (.int .i64 (-1)))), (.k (.c (.int .i64 2)))]
    (.op (some 90) (.build (List.replicate 9 (Cell.int .i64 0)) [(0, 1), (2, 1), (3, 2)]) [(.k (.c (.int .i64 1))), (.t 88), (.t 89)]
    (.op (some 91) (.lit 9 2 (List.replicate 18 (Cell.int .i64 0)) [(0, 9), (9, 9)]) [(.t 87), (.t 90)]
    (.op (some 92) (.app 9 72) [(.t 84), (.t 91)]
    (.op (some 12) .mov [(.t 92)]
    .nil)))))))))))
  (.reg 24 false (.op (some 93) .mov [(.t 10)]
    (.op (some 94) (.bin .add) [(.t 93), (.k (.c (.int .i64 1)))]
    (.op (some 10) .mov [(.t 94)]
    .nil))))))))))))
def jacquardlaw3_Small_p7 : IC :=
  (.cond (.t 95)
  (.seq (.reg 29 false (.op (some 100) .mov [(.t 12)]
    (.op (some 101) .mov [(.t 15)]
    (.op (some 102) (.ldAll (.slot 2) 2) [(.t 16)]
    (.op (some 103) (.build (List.replicate 9 (Cell.int .i64 0)) [(0, 1), (2, 1), (3, 2)]) [(.k (.c (.int .i64 1))), (.t 101), (.t 102)]
    (.op (some 104) (.lit 9 1 (List.replicate 9 (Cell.int .i64 0)) [(0, 9)]) [(.t 103)]
    (.op (some 105) (.app 9 72) [(.t 100), (.t 104)]
    (.op (some 12) .mov [(.t 105)]
    .nil))))))))
  (.reg 30 false (.op (some 106) .mov [(.t 10)]
    (.op (some 107) (.bin .add) [(.t 106), (.k (.c (.int .i64 1)))]
    (.op (some 10) .mov [(.t 107)]
    .nil)))))
  (.cut [1, 4, 5, 7, 8, 9, 10, 11, 12, 13, 15, 16, 17, 83, 108] [0, 1, 2] [] (.seq (.reg 31 false (.op (some 109) (.bin .eql) [(.t 83), (.k (.c (.int .i64 4)))]
    (.op (some 108) .mov [(.t 109)]
    .nil)))
  (.cond (.t 108)
  .skip
  (.seq (.reg 32 false (.op (some 110) (.bin .eql) [(.t 83), (.k (.c (.int .i64 5)))]
    (.op (some 108) .mov [(.t 110)]
    .nil)))
  (.cond (.t 108)
  .skip
  (.seq (.reg 33 false (.op (some 111) (.bin .eql) [(.t 83), (.k (.c (.int .i64 6)))]
    (.op (some 108) .mov [(.t 111)]
    .nil)))
  (.cond (.t 108)
  .skip
  (.reg 34 false (.op (some 112) (.bin .eql) [(.t 83), (.k (.c (.int .i64 7)))]
    (.op (some 108) .mov [(.t 112)]
    .nil)))))))))
  jacquardlaw3_Small_p8))
def jacquardlaw3_Small_p6 : IC :=
  (.seq (.reg 21 false (.op (some 79) .mov [(.t 14)]
    (.op (some 80) (.bin .shr) [(.t 79), (.k (.c (.int .u64 11)))]
    (.op (some 81) (.bin .and) [(.t 80), (.k (.c (.int .i64 1)))]
    (.op (some 17) .mov [(.t 81)]
    .nil)))))
  (.seq (.reg 22 false (.op (some 82) .mov [(.t 14)]
    (.op (some 83) (.bin .rem) [(.t 82), (.k (.c (.int .i64 12)))]
    .nil)))
  (.blk 4 (.cut [1, 4, 5, 7, 8, 9, 10, 11, 12, 13, 15, 16, 17, 83, 95] [0, 1, 2] [] (.seq (.reg 25 false (.op (some 96) (.bin .eql) [(.t 83), (.k (.c (.int .i64 0)))]
    (.op (some 95) .mov [(.t 96)]
    .nil)))
  (.cond (.t 95)
  .skip
  (.seq (.reg 26 false (.op (some 97) (.bin .eql) [(.t 83), (.k (.c (.int .i64 1)))]
    (.op (some 95) .mov [(.t 97)]
    .nil)))
  (.cond (.t 95)
  .skip
  (.seq (.reg 27 false (.op (some 98) (.bin .eql) [(.t 83), (.k (.c (.int .i64 2)))]
    (.op (some 95) .mov [(.t 98)]
    .nil)))
  (.cond (.t 95)
  .skip
  (.reg 28 false (.op (some 99) (.bin .eql) [(.t 83), (.k (.c (.int .i64 3)))]
    (.op (some 95) .mov [(.t 99)]
    .nil)))))))))
  jacquardlaw3_Small_p7))))
def jacquardlaw3_Small_p5 : IC :=
  (.reg 15 false (.op (some 58) .mov [(.t 13)]
    (.op (some 59) (.bin .sub) [(.t 58), (.k (.c (.int .i64 1)))]
    (.op (some 13) .mov [(.t 59)]
    .nil))))
def jacquardlaw3_Small_b1 : IC :=
  (.seq (.seq (.reg 14 false (.op (some 51) .mov [(.t 13)]
    (.op (some 52) (.bin .gtr) [(.t 51), (.k (.c (.int .i64 0)))]
    (.op (some 53) .mov [(.t 52)]
    (.sc 53 true (.op (some 54) .mov [(.t 10)]
    (.op (some 55) .mov [(.t 1)]
    (.op (some 56) (.bin .lss) [(.t 54), (.t 55)]
    .nil))) 56 57 false
    .nil)))))
  (.cond (.t 57)
  .skip
  (.exit 2)))
  (.seq (.blk 3 (.seq (.reg 16 false (.op (some 60) .mov [(.t 7)]
    (.op (some 61) (.callv [(.i .i64)]) [(.t 60)]
    (.op (some 14) .mov [(.t 61)]
    .nil))))
  (.seq (.reg 17 false (.op (some 62) .mov [(.t 14)]
    (.op (some 63) (.bin .shr) [(.t 62), (.k (.c (.int .u64 4)))]
    (.op (some 64) .mov [(.t 9)]
    (.op (some 65) (.bin .rem) [(.t 63), (.t 64)]
    (.op (some 66) (.bin .add) [(.k (.c (.int .i64 120))), (.t 65)]
    (.op (some 15) .mov [(.t 66)]
    .nil)))))))
  (.seq (.reg 18 false (.op (some 67) .mov [(.t 14)]
    (.op (some 68) (.bin .shr) [(.t 67), (.k (.c (.int .u64 6)))]
    (.op (some 69) (.bin .rem) [(.t 68), (.k (.c (.int .i64 3)))]
    (.op (some 70) (.build ([Cell.int .i64 0, Cell.int .i64 0]) [(0, 1), (1, 1)]) [(.k (.c (.int .i64 (-1)))), (.t 69)]
    (.al 16 2 ([Cell.int .i64 0, Cell.int .i64 0])
    (.op none (.stAll (.slot 2) 2) [(.t 16), (.t 70)]
    .nil)))))))
  (.cut [1, 4, 5, 7, 8, 9, 10, 11, 12, 13, 14, 15, 16] [0, 1, 2] [] (.seq (.reg 19 false (.op (some 71) .mov [(.t 14)]
    (.op (some 72) (.bin .shr) [(.t 71), (.k (.c (.int .u64 8)))]
    (.op (some 73) (.bin .rem) [(.t 72), (.k (.c (.int .i64 3)))]
    (.op (some 74) (.bin .eql) [(.t 73), (.k (.c (.int .i64 0)))]
    .nil)))))
  (.cond (.t 74)
  (.reg 20 false (.op (some 75) .mov [(.t 14)]
    (.op (some 76) (.bin .shr) [(.t 75), (.k (.c (.int .u64 10)))]
    (.op (some 77) (.bin .and) [(.t 76), (.k (.c (.int .i64 1)))]
    (.op (some 78) (.build ([Cell.int .i64 0, Cell.int .i64 0]) [(0, 1)]) [(.t 77)]
    (.op none (.stAll (.slot 2) 2) [(.t 16), (.t 78)]
    .nil))))))
  .skip))
  jacquardlaw3_Small_p6)))))
  jacquardlaw3_Small_p5))
def jacquardlaw3_Small_p4 : IC :=
  (.reg 44 false (.op (some 148) (.addr 2) [(.t 5)]
    (.op (some 149) (.ld (.slot 1) .any) [(.t 148)]
    (.op (some 150) .mov [(.t 12)]
    (.op (some 151) (.lit 1 1 ([Cell.nils]) [(0, 1)]) [(.t 150)]
    (.op (some 152) (.app 1 24) [(.t 149), (.t 151)]
    (.op (some 153) (.addr 2) [(.t 5)]
    (.op none (.st (.slot 1)) [(.t 153), (.t 152)]
    .nil))))))))
def jacquardlaw3_Small_p3 : IC :=
  (.reg 11 false (.op (some 45) .mov [(.t 11)]
    (.op (some 46) (.bin .add) [(.t 45), (.k (.c (.int .i64 1)))]
    (.op (some 11) .mov [(.t 46)]
    .nil))))
def jacquardlaw3_Small_b2 : IC :=
  (.seq (.seq (.reg 10 false (.op (some 42) .mov [(.t 11)]
    (.op (some 43) .mov [(.t 8)]
    (.op (some 44) (.bin .lss) [(.t 42), (.t 43)]
    .nil))))
  (.cond (.t 44)
  .skip
  (.exit 0)))
  (.seq (.blk 1 (.seq (.reg 12 false (.op (some 12) .mov [(.k (.c .nils))]
    .nil))
  (.seq (.seq (.reg 13 false (.op (some 47) .mov [(.t 7)]
    (.op (some 48) (.callv [(.i .i64)]) [(.t 47)]
    (.op (some 49) (.bin .rem) [(.t 48), (.k (.c (.int .i64 3)))]
    (.op (some 50) (.bin .add) [(.t 49), (.k (.c (.int .i64 1)))]
    (.op (some 13) .mov [(.t 50)]
    .nil))))))
  (.blk 2 (.loop [1, 4, 5, 7, 8, 9, 10, 11, 12, 13] [0, 1] [(3, [1, 4, 5, 7, 8, 9, 10, 11, 12], [0, 1])] jacquardlaw3_Small_b1)))
  jacquardlaw3_Small_p4)))
  jacquardlaw3_Small_p3))
def jacquardlaw3_Small_p2 : IC :=
  (.seq (.seq (.reg 45 false (.op (some 154) .mov [(.t 7)]
    (.op (some 155) (.callv [(.i .i64)]) [(.t 154)]
    (.op (some 18) .mov [(.t 155)]
    .nil))))
  (.seq (.reg 46 false (.op (some 156) .mov [(.t 18)]
    (.op (some 157) (.bin .rem) [(.t 156), (.k (.c (.int .i64 3)))]
    (.op (some 158) (.bin .eql) [(.t 157), (.k (.c (.int .i64 0)))]
    .nil))))
  (.cond (.t 158)
  (.reg 47 false (.op (some 159) .mov [(.t 18)]
    (.op (some 160) (.bin .quo) [(.t 159), (.k (.c (.int .i64 3)))]
    (.op (some 161) (.bin .rem) [(.t 160), (.k (.c (.int .i64 2)))]
    (.op (some 162) (.bin .add) [(.t 161), (.k (.c (.int .i64 1)))]
    (.op (some 163) .mov [(.t 18)]
    (.op (some 164) (.bin .shr) [(.t 163), (.k (.c (.int .u64 3)))]
    (.op (some 165) (.bin .and) [(.t 164), (.k (.c (.int .i64 1)))]
    (.op (some 166) .mov [(.t 18)]
    (.op (some 167) (.bin .shr) [(.t 166), (.k (.c (.int .u64 4)))]
    (.op (some 168) (.bin .and) [(.t 167), (.k (.c (.int .i64 1)))]
    (.op (some 169) (.build ([Cell.int .i64 0, Cell.int .i64 0, Cell.int .i64 0, Cell.int .i64 0]) [(0, 1), (1, 1), (3, 1)]) [(.k (.c (.int .i64 0))), (.t 165), (.t 168)]
    (.op (some 170) (.bslice 4 1 ([Cell.int .i64 0, Cell.int .i64 0, Cell.int .i64 0, Cell.int .i64 0]) [(0, 4)]) [(.t 169)]
    (.op (some 171) .mov [(.t 18)]
    (.op (some 172) (.bin .shr) [(.t 171), (.k (.c (.int .u64 5)))]
    (.op (some 173) (.bin .rem) [(.t 172), (.k (.c (.int .i64 3)))]
    (.op (some 174) (.build ([Cell.int .i64 0, Cell.int .i64 0, Cell.int .i64 0, Cell.int .i64 0]) [(0, 1), (2, 1), (3, 1)]) [(.k (.c (.int .i64 (-1)))), (.k (.c (.int .i64 120))), (.t 173)]
    (.op (some 175) .mov [(.t 18)]
    (.op (some 176) (.bin .shr) [(.t 175), (.k (.c (.int .u64 7)))]
    (.op (some 177) (.bin .and) [(.t 176), (.k (.c (.int .i64 1)))]
    (.op (some 178) (.build ([Cell.int .i64 0, Cell.int .i64 0, Cell.int .i64 0, Cell.int .i64 0]) [(0, 1), (1, 1), (3, 1)]) [(.k (.c (.int .i64 1))), (.k (.c (.int .i64 0))), (.t 177)]
    (.op (some 179) (.bslice 4 2 (List.replicate 8 (Cell.int .i64 0)) [(0, 4), (4, 4)]) [(.t 174), (.t 178)]
    (.op (some 180) (.bslice 1 2 ([Cell.nils, Cell.nils]) [(0, 1), (1, 1)]) [(.t 170), (.t 179)]
    (.op (some 181) (.build ([Cell.int .i64 0, Cell.nils]) [(0, 1), (1, 1)]) [(.t 162), (.t 180)]
    (.op (some 182) (.addr 3) [(.t 5)]
    (.op none (.stN (.slot 1) 2) [(.t 182), (.t 181)]
    .nil))))))))))))))))))))))))))
  .skip)))
  (.seq (.reg 48 false (.op (some 183) (.ldAll (.slot 1) 5) [(.t 5)]
    (.op none (.stAll (.slot 0) 5) [(.t 4), (.t 183)]
    .nil)))
  .ret))
def jacquardlaw3_Small_p1 : IC :=
  (.seq (.reg 8 false (.op (some 10) .mov [(.k (.c (.int .i64 0)))]
    .nil))
  (.seq (.seq (.reg 9 false (.op (some 11) .mov [(.k (.c (.int .i64 0)))]
    .nil))
  (.blk 0 (.loop [1, 4, 5, 7, 8, 9, 10, 11] [0, 1] [(1, [4, 5, 7], [0, 1])] jacquardlaw3_Small_b2)))
  jacquardlaw3_Small_p2))
def jacquardlaw3_Small : Fn := { np := 2, nt := 184, ns := 3, res := [.all (.slot 0) 4 5], gc := false, code :=
  (.seq (.reg 0 false (.op (some 2) .boxH [(.t 0)]
    (.al 4 0 ([Cell.str (ByteArray.mk #[]), Cell.nils, Cell.nils, Cell.int .i64 0, Cell.nils])
    .nil)))
  (.seq (.reg 1 false (.op (some 19) (.build ([Cell.str (ByteArray.mk #[]), Cell.nils, Cell.nils, Cell.int .i64 0, Cell.nils]) [(0, 1)]) [(.k (.c (.str (ByteArray.mk #[116]))))]
    (.al 5 1 ([Cell.str (ByteArray.mk #[]), Cell.nils, Cell.nils, Cell.int .i64 0, Cell.nils])
    (.op none (.stAll (.slot 1) 5) [(.t 5), (.t 19)]
    .nil))))
  (.seq (.reg 2 false (.op (some 6) (.allocH ([Cell.int .i64 0])) []
    (.op none (.st .heap) [(.t 6), (.k (.c (.int .i64 0)))]
    .nil)))
  (.seq (.reg 3 false (.op (some 20) (.mkfn 115) [(.t 6), (.t 2)]
    (.op (some 7) .mov [(.t 20)]
    .nil)))
  (.seq (.reg 4 false (.op (some 21) .mov [(.t 7)]
    (.op (some 22) (.callv [(.i .i64)]) [(.t 21)]
    (.op (some 23) (.bin .rem) [(.t 22), (.k (.c (.int .i64 2)))]
    (.op (some 24) (.bin .add) [(.t 23), (.k (.c (.int .i64 2)))]
    (.op (some 8) .mov [(.t 24)]
    .nil))))))
  (.seq (.reg 5 false (.op (some 25) .mov [(.t 7)]
    (.op (some 26) (.callv [(.i .i64)]) [(.t 25)]
    (.op (some 27) (.bin .rem) [(.t 26), (.k (.c (.int .i64 2)))]
    (.op (some 28) (.bin .add) [(.t 27), (.k (.c (.int .i64 2)))]
    (.op (some 9) .mov [(.t 28)]
    .nil))))))
  (.cut [1, 4, 5, 7, 8, 9] [0, 1] [] (.seq (.reg 6 false (.op (some 29) .mov [(.t 7)]
    (.op (some 30) (.callv [(.i .i64)]) [(.t 29)]
    (.op (some 31) (.bin .rem) [(.t 30), (.k (.c (.int .i64 4)))]
    (.op (some 32) (.bin .eql) [(.t 31), (.k (.c (.int .i64 0)))]
    .nil)))))
  (.cond (.t 32)
  (.reg 7 true (.op (some 33) (.addr 1) [(.t 5)]
    (.op (some 34) (.ld (.slot 1) .any) [(.t 33)]
    (.op (some 35) .mov [(.t 7)]
    (.op (some 36) (.callv [(.i .i64)]) [(.t 35)]
    (.op (some 37) (.bin .rem) [(.t 36), (.k (.c (.int .i64 3)))]
    (.op (some 38) (.build ([Cell.int .i64 0, Cell.int .i64 0]) [(0, 1), (1, 1)]) [(.k (.c (.int .i64 120))), (.t 37)]
    (.op (some 39) (.lit 2 1 ([Cell.int .i64 0, Cell.int .i64 0]) [(0, 2)]) [(.t 38)]
    (.op (some 40) (.app 2 16) [(.t 34), (.t 39)]
    (.op (some 41) (.addr 1) [(.t 5)]
    (.op none (.st (.slot 1)) [(.t 41), (.t 40)]
    .nil)))))))))))
  .skip))
  jacquardlaw3_Small_p1))))))) }

/- jacquard/jacquardlaw3.Small$1: 115 -/
def jacquardlaw3_Small_1 : Fn := { np := 2, nt := 15, ns := 0, res := [.t 2 (.i .i64)], gc := false, code :=
  (.seq (.reg 0 false (.op (some 2) .mov [(.k (.c (.int .i64 0)))]
    .nil))
  (.seq (.reg 1 false (.op (some 3) (.ld .heap (.i .i64)) [(.t 0)]
    (.op (some 4) (.bin .add) [(.t 3), (.k (.c (.int .i64 1)))]
    (.op none (.st .heap) [(.t 0), (.t 4)]
    .nil))))
  (.seq (.seq (.reg 2 false (.op (some 5) (.ld .heap (.i .i64)) [(.t 0)]
    (.op (some 6) (.ld .heap .any) [(.t 1)]
    (.op (some 7) .len [(.t 6)]
    (.op (some 8) (.bin .gtr) [(.t 5), (.t 7)]
    .nil)))))
  (.cond (.t 8)
  (.seq (.reg 3 false (.op (some 2) .mov [(.k (.c (.int .i64 0)))]
    .nil))
  .ret)
  .skip))
  (.seq (.reg 4 false (.op (some 9) (.ld .heap .any) [(.t 1)]
    (.op (some 10) (.ld .heap (.i .i64)) [(.t 0)]
    (.op (some 11) (.bin .sub) [(.t 10), (.k (.c (.int .i64 1)))]
    (.op (some 12) (.idxS 1) [(.t 9), (.t 11)]
    (.op (some 13) (.ld .heap (.i .i64)) [(.t 12)]
    (.op (some 14) (.bin .and) [(.t 13), (.k (.c (.int .i64 65535)))]
    (.op (some 2) .mov [(.t 14)]
    .nil))))))))
  .ret)))) }


end Jq

/- What a function needs of an environment. -/
namespace Jq
open Go

structure jacquardlaw3_Small_1_In (E : Env) : Prop where
  fn : E.fn 115 = some jacquardlaw3_Small_1

structure jacquardlaw3_Small_In (E : Env) : Prop where
  fn : E.fn 97 = some jacquardlaw3_Small
  c115 : jacquardlaw3_Small_1_In E

end Jq

namespace Jq
open Go


end Jq

/- What a function needs of an environment. -/
namespace Jq
open Go


end Jq

namespace Jq
open Go

/- jacquard/jacquardref2.Do: 93 -/
def jacquardref2_Do : Fn := { np := 3, nt := 81, ns := 0, res := [.t 6 (.i .i64), .t 7 .b], gc := false, code :=
  (.seq (.reg 0 false (.op (some 6) .mov [(.k (.c (.int .i64 0)))]
    (.op (some 7) .mov [(.k (.c (.bool false)))]
    .nil)))
  (.seq (.reg 1 false (.op (some 10) .mov [(.t 2)]
    (.op (some 11) (.conv .u64) [(.t 10)]
    (.op (some 12) (.bin .rem) [(.t 11), (.k (.c (.int .u64 64)))]
    (.op (some 8) .mov [(.t 12)]
    .nil)))))
  (.seq (.reg 2 false (.op (some 9) .mov [(.k (.c (.bool false)))]
    .nil))
  (.seq (.seq (.reg 3 false (.op (some 13) .mov [(.t 0)]
    .nil))
  (.blk 0 (.seq (.reg 5 false (.op (some 15) (.bin .eql) [(.t 13), (.k (.c (.int .i64 1)))]
    (.op (some 14) .mov [(.t 15)]
    .nil)))
  (.cond (.t 14)
  (.seq (.reg 6 false (.op (some 16) .mov [(.t 1)]
    (.op (some 17) (.conv .u64) [(.t 16)]
    (.op (some 18) .mov [(.t 2)]
    (.op (some 19) (.conv .u64) [(.t 18)]
    (.op (some 20) (.bin .add) [(.t 17), (.t 19)]
    (.op (some 21) (.conv .i64) [(.t 20)]
    (.op (some 6) .mov [(.t 21)]
    (.op (some 7) .mov [(.k (.c (.bool true)))]
    .nil)))))))))
  .ret)
  (.seq (.reg 7 false (.op (some 23) (.bin .eql) [(.t 13), (.k (.c (.int .i64 2)))]
    (.op (some 22) .mov [(.t 23)]
    .nil)))
  (.cond (.t 22)
  (.seq (.reg 8 false (.op (some 24) .mov [(.t 1)]
    (.op (some 25) (.conv .u64) [(.t 24)]
    (.op (some 26) .mov [(.t 2)]
    (.op (some 27) (.conv .u64) [(.t 26)]
    (.op (some 28) (.bin .sub) [(.t 25), (.t 27)]
    (.op (some 29) (.conv .i64) [(.t 28)]
    (.op (some 6) .mov [(.t 29)]
    (.op (some 7) .mov [(.k (.c (.bool true)))]
    .nil)))))))))
  .ret)
  (.seq (.reg 9 false (.op (some 31) (.bin .eql) [(.t 13), (.k (.c (.int .i64 3)))]
    (.op (some 30) .mov [(.t 31)]
    .nil)))
  (.cond (.t 30)
  (.seq (.reg 10 false (.op (some 32) .mov [(.t 1)]
    (.op (some 33) (.conv .u64) [(.t 32)]
    (.op (some 34) .mov [(.t 2)]
    (.op (some 35) (.conv .u64) [(.t 34)]
    (.op (some 36) (.bin .mul) [(.t 33), (.t 35)]
    (.op (some 37) (.conv .i64) [(.t 36)]
    (.op (some 6) .mov [(.t 37)]
    (.op (some 7) .mov [(.k (.c (.bool true)))]
    .nil)))))))))
  .ret)
  (.seq (.reg 11 false (.op (some 39) (.bin .eql) [(.t 13), (.k (.c (.int .i64 4)))]
    (.op (some 38) .mov [(.t 39)]
    .nil)))
  (.cond (.t 38)
  (.seq (.reg 12 false (.op (some 40) .mov [(.t 1)]
    (.op (some 41) .mov [(.t 2)]
    (.op (some 42) (.bin .and) [(.t 40), (.t 41)]
    (.op (some 6) .mov [(.t 42)]
    (.op (some 7) .mov [(.k (.c (.bool true)))]
    .nil))))))
  .ret)
  (.seq (.reg 13 false (.op (some 44) (.bin .eql) [(.t 13), (.k (.c (.int .i64 5)))]
    (.op (some 43) .mov [(.t 44)]
    .nil)))
  (.cond (.t 43)
  (.seq (.reg 14 false (.op (some 45) .mov [(.t 1)]
    (.op (some 46) .mov [(.t 2)]
    (.op (some 47) (.bin .or) [(.t 45), (.t 46)]
    (.op (some 6) .mov [(.t 47)]
    (.op (some 7) .mov [(.k (.c (.bool true)))]
    .nil))))))
  .ret)
  (.seq (.reg 15 false (.op (some 49) (.bin .eql) [(.t 13), (.k (.c (.int .i64 6)))]
    (.op (some 48) .mov [(.t 49)]
    .nil)))
  (.cond (.t 48)
  (.seq (.reg 16 false (.op (some 50) .mov [(.t 1)]
    (.op (some 51) .mov [(.t 2)]
    (.op (some 52) (.bin .xor) [(.t 50), (.t 51)]
    (.op (some 6) .mov [(.t 52)]
    (.op (some 7) .mov [(.k (.c (.bool true)))]
    .nil))))))
  .ret)
  (.seq (.reg 17 false (.op (some 54) (.bin .eql) [(.t 13), (.k (.c (.int .i64 7)))]
    (.op (some 53) .mov [(.t 54)]
    .nil)))
  (.cond (.t 53)
  (.seq (.reg 18 false (.op (some 55) .mov [(.t 1)]
    (.op (some 56) (.conv .u64) [(.t 55)]
    (.op (some 57) .mov [(.t 8)]
    (.op (some 58) (.bin .shl) [(.t 56), (.t 57)]
    (.op (some 59) (.conv .i64) [(.t 58)]
    (.op (some 6) .mov [(.t 59)]
    (.op (some 7) .mov [(.k (.c (.bool true)))]
    .nil))))))))
  .ret)
  (.seq (.reg 19 false (.op (some 61) (.bin .eql) [(.t 13), (.k (.c (.int .i64 8)))]
    (.op (some 60) .mov [(.t 61)]
    .nil)))
  (.cond (.t 60)
  (.seq (.reg 20 false (.op (some 62) .mov [(.t 1)]
    (.op (some 63) .mov [(.t 8)]
    (.op (some 64) (.bin .shr) [(.t 62), (.t 63)]
    (.op (some 6) .mov [(.t 64)]
    (.op (some 7) .mov [(.k (.c (.bool true)))]
    .nil))))))
  .ret)
  (.seq (.reg 21 false (.op (some 66) (.bin .eql) [(.t 13), (.k (.c (.int .i64 9)))]
    (.op (some 65) .mov [(.t 66)]
    .nil)))
  (.cond (.t 65)
  (.reg 22 false (.op (some 67) .mov [(.t 1)]
    (.op (some 68) .mov [(.t 2)]
    (.op (some 69) (.bin .eql) [(.t 67), (.t 68)]
    (.op (some 9) .mov [(.t 69)]
    .nil)))))
  (.seq (.reg 23 false (.op (some 71) (.bin .eql) [(.t 13), (.k (.c (.int .i64 10)))]
    (.op (some 70) .mov [(.t 71)]
    .nil)))
  (.cond (.t 70)
  (.reg 24 false (.op (some 72) .mov [(.t 1)]
    (.op (some 73) .mov [(.t 2)]
    (.op (some 74) (.bin .neq) [(.t 72), (.t 73)]
    (.op (some 9) .mov [(.t 74)]
    .nil)))))
  (.seq (.reg 25 false (.op (some 76) (.bin .eql) [(.t 13), (.k (.c (.int .i64 11)))]
    (.op (some 75) .mov [(.t 76)]
    .nil)))
  (.cond (.t 75)
  (.reg 26 false (.op (some 77) .mov [(.t 1)]
    (.op (some 78) .mov [(.t 2)]
    (.op (some 79) (.bin .lss) [(.t 77), (.t 78)]
    (.op (some 9) .mov [(.t 79)]
    .nil)))))
  (.seq (.reg 4 false (.op (some 6) .mov [(.k (.c (.int .i64 0)))]
    (.op (some 7) .mov [(.k (.c (.bool false)))]
    .nil)))
  .ret)))))))))))))))))))))))))
  (.seq (.seq (.reg 27 false (.op (some 80) .mov [(.t 9)]
    .nil))
  (.cond (.t 80)
  (.seq (.reg 28 false (.op (some 6) .mov [(.k (.c (.int .i64 1)))]
    (.op (some 7) .mov [(.k (.c (.bool true)))]
    .nil)))
  .ret)
  .skip))
  (.seq (.reg 29 false (.op (some 6) .mov [(.k (.c (.int .i64 0)))]
    (.op (some 7) .mov [(.k (.c (.bool true)))]
    .nil)))
  .ret)))))) }

/- jacquard/jacquardref2.Locs: 121 -/
def jacquardref2_Locs_b1 : IC :=
  (.seq (.seq (.reg 3 false (.op (some 11) .mov [(.t 4)]
    (.op (some 12) (.addr 1) [(.t 1)]
    (.op (some 13) (.ld (.slot 0) .any) [(.t 12)]
    (.op (some 14) .len [(.t 13)]
    (.op (some 15) (.bin .lss) [(.t 11), (.t 14)]
    .nil))))))
  (.cond (.t 15)
  .skip
  (.exit 0)))
  (.seq (.blk 1 (.reg 5 false (.op (some 18) (.addr 1) [(.t 1)]
    (.op (some 19) (.ld (.slot 0) .any) [(.t 18)]
    (.op (some 20) .mov [(.t 4)]
    (.op (some 21) (.idxS 2) [(.t 19), (.t 20)]
    (.op (some 22) (.addr 0) [(.t 21)]
    (.op (some 23) (.ld .heap (.i .i64)) [(.t 22)]
    (.op (some 24) (.bin .and) [(.t 23), (.k (.c (.int .i64 255)))]
    (.op (some 25) (.idxA 256 1) [(.t 3), (.t 24)]
    (.op none (.st (.slot 1)) [(.t 25), (.k (.c (.bool true)))]
    .nil)))))))))))
  (.reg 4 false (.op (some 16) .mov [(.t 4)]
    (.op (some 17) (.bin .add) [(.t 16), (.k (.c (.int .i64 1)))]
    (.op (some 4) .mov [(.t 17)]
    .nil))))))
def jacquardref2_Locs_b2 : IC :=
  (.seq (.seq (.reg 10 false (.op (some 33) .mov [(.t 6)]
    (.op (some 34) (.addr 2) [(.t 1)]
    (.op (some 35) (.ld (.slot 0) .any) [(.t 34)]
    (.op (some 36) .mov [(.t 5)]
    (.op (some 37) (.idxS 1) [(.t 35), (.t 36)]
    (.op (some 38) (.ld .heap .any) [(.t 37)]
    (.op (some 39) .len [(.t 38)]
    (.op (some 40) (.bin .lss) [(.t 33), (.t 39)]
    .nil)))))))))
  (.cond (.t 40)
  .skip
  (.exit 4)))
  (.seq (.blk 5 (.reg 12 false (.op (some 43) (.addr 2) [(.t 1)]
    (.op (some 44) (.ld (.slot 0) .any) [(.t 43)]
    (.op (some 45) .mov [(.t 5)]
    (.op (some 46) (.idxS 1) [(.t 44), (.t 45)]
    (.op (some 47) (.ld .heap .any) [(.t 46)]
    (.op (some 48) .mov [(.t 6)]
    (.op (some 49) (.idxS 9) [(.t 47), (.t 48)]
    (.op (some 50) (.addr 2) [(.t 49)]
    (.op (some 51) (.ld .heap (.i .i64)) [(.t 50)]
    (.op (some 52) (.bin .and) [(.t 51), (.k (.c (.int .i64 255)))]
    (.op (some 53) (.idxA 256 1) [(.t 3), (.t 52)]
    (.op none (.st (.slot 1)) [(.t 53), (.k (.c (.bool true)))]
    .nil))))))))))))))
  (.reg 11 false (.op (some 41) .mov [(.t 6)]
    (.op (some 42) (.bin .add) [(.t 41), (.k (.c (.int .i64 1)))]
    (.op (some 6) .mov [(.t 42)]
    .nil))))))
def jacquardref2_Locs_p3 : IC :=
  (.reg 8 false (.op (some 31) .mov [(.t 5)]
    (.op (some 32) (.bin .add) [(.t 31), (.k (.c (.int .i64 1)))]
    (.op (some 5) .mov [(.t 32)]
    .nil))))
def jacquardref2_Locs_b3 : IC :=
  (.seq (.seq (.reg 7 false (.op (some 26) .mov [(.t 5)]
    (.op (some 27) (.addr 2) [(.t 1)]
    (.op (some 28) (.ld (.slot 0) .any) [(.t 27)]
    (.op (some 29) .len [(.t 28)]
    (.op (some 30) (.bin .lss) [(.t 26), (.t 29)]
    .nil))))))
  (.cond (.t 30)
  .skip
  (.exit 2)))
  (.seq (.blk 3 (.seq (.reg 9 false (.op (some 6) .mov [(.k (.c (.int .i64 0)))]
    .nil))
  (.blk 4 (.loop [1, 3, 5, 6] [0, 1] [(5, [1, 3, 5], [0, 1])] jacquardref2_Locs_b2))))
  jacquardref2_Locs_p3))
def jacquardref2_Locs_b4 : IC :=
  (.seq (.seq (.reg 17 false (.op (some 62) .mov [(.t 8)]
    (.op (some 63) (.addr 3) [(.t 1)]
    (.op (some 64) (.addr 1) [(.t 63)]
    (.op (some 65) (.ld (.slot 0) .any) [(.t 64)]
    (.op (some 66) .mov [(.t 7)]
    (.op (some 67) (.idxS 1) [(.t 65), (.t 66)]
    (.op (some 68) (.ld .heap .any) [(.t 67)]
    (.op (some 69) .len [(.t 68)]
    (.op (some 70) (.bin .lss) [(.t 62), (.t 69)]
    .nil))))))))))
  (.cond (.t 70)
  .skip
  (.exit 8)))
  (.seq (.blk 9 (.reg 19 false (.op (some 73) (.addr 3) [(.t 1)]
    (.op (some 74) (.addr 1) [(.t 73)]
    (.op (some 75) (.ld (.slot 0) .any) [(.t 74)]
    (.op (some 76) .mov [(.t 7)]
    (.op (some 77) (.idxS 1) [(.t 75), (.t 76)]
    (.op (some 78) (.ld .heap .any) [(.t 77)]
    (.op (some 79) .mov [(.t 8)]
    (.op (some 80) (.idxS 4) [(.t 78), (.t 79)]
    (.op (some 81) (.addr 2) [(.t 80)]
    (.op (some 82) (.ld .heap (.i .i64)) [(.t 81)]
    (.op (some 83) (.bin .and) [(.t 82), (.k (.c (.int .i64 255)))]
    (.op (some 84) (.idxA 256 1) [(.t 3), (.t 83)]
    (.op none (.st (.slot 1)) [(.t 84), (.k (.c (.bool true)))]
    .nil)))))))))))))))
  (.reg 18 false (.op (some 71) .mov [(.t 8)]
    (.op (some 72) (.bin .add) [(.t 71), (.k (.c (.int .i64 1)))]
    (.op (some 8) .mov [(.t 72)]
    .nil))))))
def jacquardref2_Locs_p5 : IC :=
  (.reg 15 false (.op (some 60) .mov [(.t 7)]
    (.op (some 61) (.bin .add) [(.t 60), (.k (.c (.int .i64 1)))]
    (.op (some 7) .mov [(.t 61)]
    .nil))))
def jacquardref2_Locs_b5 : IC :=
  (.seq (.seq (.reg 14 false (.op (some 54) .mov [(.t 7)]
    (.op (some 55) (.addr 3) [(.t 1)]
    (.op (some 56) (.addr 1) [(.t 55)]
    (.op (some 57) (.ld (.slot 0) .any) [(.t 56)]
    (.op (some 58) .len [(.t 57)]
    (.op (some 59) (.bin .lss) [(.t 54), (.t 58)]
    .nil)))))))
  (.cond (.t 59)
  .skip
  (.exit 6)))
  (.seq (.blk 7 (.seq (.reg 16 false (.op (some 8) .mov [(.k (.c (.int .i64 0)))]
    .nil))
  (.blk 8 (.loop [1, 3, 7, 8] [0, 1] [(9, [1, 3, 7], [0, 1])] jacquardref2_Locs_b4))))
  jacquardref2_Locs_p5))
def jacquardref2_Locs_b6 : IC :=
  (.seq (.seq (.reg 22 false (.op (some 85) .mov [(.t 10)]
    (.op (some 86) (.bin .leq) [(.t 85), (.k (.c (.int .i32 122)))]
    .nil)))
  (.cond (.t 86)
  .skip
  (.exit 10)))
  (.seq (.blk 11 (.seq (.reg 24 false (.op (some 89) .mov [(.t 10)]
    (.op (some 90) (.idxA 256 1) [(.t 3), (.t 89)]
    (.op (some 91) (.ld (.slot 1) .b) [(.t 90)]
    .nil))))
  (.cond (.t 91)
  (.reg 25 false (.op (some 92) .mov [(.t 9)]
    (.op (some 93) .mov [(.t 10)]
    (.op (some 94) (.conv .u8) [(.t 93)]
    (.op (some 95) (.lit 1 1 ([Cell.int .u8 0]) [(0, 1)]) [(.t 94)]
    (.op (some 96) (.app 1 1) [(.t 92), (.t 95)]
    (.op (some 9) .mov [(.t 96)]
    .nil)))))))
  .skip)))
  (.reg 23 false (.op (some 87) .mov [(.t 10)]
    (.op (some 88) (.bin .add) [(.t 87), (.k (.c (.int .i32 1)))]
    (.op (some 10) .mov [(.t 88)]
    .nil))))))
def jacquardref2_Locs_p6 : IC :=
  (.seq (.reg 26 false (.op (some 97) .mov [(.t 9)]
    (.op (some 2) .mov [(.t 97)]
    .nil)))
  .ret)
def jacquardref2_Locs_p4 : IC :=
  (.seq (.reg 20 false (.op (some 9) .mov [(.k (.c .nils))]
    .nil))
  (.seq (.seq (.reg 21 false (.op (some 10) .mov [(.k (.c (.int .i32 97)))]
    .nil))
  (.blk 10 (.loop [3, 9, 10] [1] [(11, [9], [])] jacquardref2_Locs_b6)))
  jacquardref2_Locs_p6))
def jacquardref2_Locs_p2 : IC :=
  (.seq (.seq (.reg 13 false (.op (some 7) .mov [(.k (.c (.int .i64 0)))]
    .nil))
  (.blk 6 (.loop [1, 3, 7] [0, 1] [(7, [3], [1])] jacquardref2_Locs_b5)))
  jacquardref2_Locs_p4)
def jacquardref2_Locs_p1 : IC :=
  (.seq (.seq (.reg 6 false (.op (some 5) .mov [(.k (.c (.int .i64 0)))]
    .nil))
  (.blk 2 (.loop [1, 3, 5] [0, 1] [(3, [1, 3], [0, 1])] jacquardref2_Locs_b3)))
  jacquardref2_Locs_p2)
def jacquardref2_Locs : Fn := { np := 1, nt := 98, ns := 2, res := [.t 2 .any], gc := false, code :=
  (.seq (.reg 0 false (.box 1 0 (.t 0)
    (.op (some 2) .mov [(.k (.c .nils))]
    .nil)))
  (.seq (.reg 1 false (.al 3 1 (List.replicate 256 (Cell.bool false))
    .nil))
  (.seq (.seq (.reg 2 false (.op (some 4) .mov [(.k (.c (.int .i64 0)))]
    .nil))
  (.blk 0 (.loop [1, 3, 4] [0, 1] [(1, [1, 3], [0, 1])] jacquardref2_Locs_b1)))
  jacquardref2_Locs_p1))) }


end Jq

/- What a function needs of an environment. -/
namespace Jq
open Go

structure jacquardref2_Locs_In (E : Env) : Prop where
  fn : E.fn 121 = some jacquardref2_Locs

structure jacquardref2_Do_In (E : Env) : Prop where
  fn : E.fn 93 = some jacquardref2_Do

end Jq

namespace Jq
open Go

/- jacquard/jacquardref6.Next: 81 -/
def jacquardref6_Next : Fn := { np := 3, nt := 49, ns := 4, res := [.all (.slot 2) 6 9, .t 7 .b], gc := false, code :=
  (.seq (.reg 0 false (.box 3 0 (.t 0)
    (.box 5 1 (.t 2)
    (.al 6 2 (List.replicate 9 (Cell.int .i64 0))
    (.op (some 7) .mov [(.k (.c (.bool false)))]
    .nil)))))
  (.seq (.seq (.reg 1 true (.op (some 9) (.ldAll (.slot 0) 3) [(.t 3)]
    (.op (some 10) .mov [(.t 1)]
    (.op (some 11) (.qcall 110 [.b]) [(.t 9), (.t 10)]
    (.op (some 12) (.un .not) [(.t 11)]
    (.op (some 13) .mov [(.t 12)]
    (.sc 13 false (.op (some 14) (.addr 0) [(.t 5)]
    (.op (some 15) (.ld (.slot 1) (.i .i64)) [(.t 14)]
    (.op (some 16) (.bin .lss) [(.t 15), (.k (.c (.int .i64 0)))]
    .nil))) 16 17 true
    (.op (some 18) .mov [(.t 17)]
    (.sc 18 false (.op (some 19) (.addr 0) [(.t 5)]
    (.op (some 20) (.ld (.slot 1) (.i .i64)) [(.t 19)]
    (.op (some 21) (.addr 2) [(.t 3)]
    (.op (some 22) (.ld (.slot 0) .any) [(.t 21)]
    (.op (some 23) .mov [(.t 1)]
    (.op (some 24) (.idxS 1) [(.t 22), (.t 23)]
    (.op (some 25) (.ld .heap .any) [(.t 24)]
    (.op (some 26) .len [(.t 25)]
    (.op (some 27) (.bin .geq) [(.t 20), (.t 26)]
    .nil))))))))) 27 28 true
    .nil)))))))))
  (.cond (.t 28)
  (.seq (.reg 2 false (.op (some 29) (.build (List.replicate 9 (Cell.int .i64 0)) []) []
    (.op none (.stAll (.slot 2) 9) [(.t 6), (.t 29)]
    (.op (some 7) .mov [(.k (.c (.bool false)))]
    .nil))))
  .ret)
  .skip))
  (.seq (.reg 3 true (.op (some 30) (.addr 2) [(.t 3)]
    (.op (some 31) (.ld (.slot 0) .any) [(.t 30)]
    (.op (some 32) .mov [(.t 1)]
    (.op (some 33) (.idxS 1) [(.t 31), (.t 32)]
    (.op (some 34) (.ld .heap .any) [(.t 33)]
    (.op (some 35) (.addr 0) [(.t 5)]
    (.op (some 36) (.ld (.slot 1) (.i .i64)) [(.t 35)]
    (.op (some 37) (.idxS 9) [(.t 34), (.t 36)]
    (.op (some 38) (.ldN .heap 9) [(.t 37)]
    (.al 8 3 (List.replicate 9 (Cell.int .i64 0))
    (.op none (.stAll (.slot 3) 9) [(.t 8), (.t 38)]
    .nil))))))))))))
  (.seq (.seq (.reg 4 false (.op (some 39) (.addr 0) [(.t 8)]
    (.op (some 40) (.ld (.slot 3) (.i .i64)) [(.t 39)]
    (.op (some 41) (.bin .eql) [(.t 40), (.k (.c (.int .i64 5)))]
    (.op (some 42) .mov [(.t 41)]
    (.sc 42 false (.op (some 43) (.addr 0) [(.t 8)]
    (.op (some 44) (.ld (.slot 3) (.i .i64)) [(.t 43)]
    (.op (some 45) (.bin .eql) [(.t 44), (.k (.c (.int .i64 6)))]
    .nil))) 45 46 true
    .nil))))))
  (.cond (.t 46)
  (.seq (.reg 5 false (.op (some 47) (.build (List.replicate 9 (Cell.int .i64 0)) []) []
    (.op none (.stAll (.slot 2) 9) [(.t 6), (.t 47)]
    (.op (some 7) .mov [(.k (.c (.bool false)))]
    .nil))))
  .ret)
  .skip))
  (.seq (.reg 6 false (.op (some 48) (.ldAll (.slot 3) 9) [(.t 8)]
    (.op none (.stAll (.slot 2) 9) [(.t 6), (.t 48)]
    (.op (some 7) .mov [(.k (.c (.bool true)))]
    .nil))))
  .ret))))) }

/- jacquard/jacquardref6.Unfold: 83 -/
def jacquardref6_Unfold_b1 : IC :=
  (.blk 1 (.seq (.reg 6 false (.op (some 25) (.ldAll (.slot 0) 3) [(.t 3)]
    (.op (some 26) .mov [(.t 1)]
    (.op (some 27) (.ldAll (.slot 2) 5) [(.t 9)]
    (.op (some 28) (.call 81 [.agg, .b]) [(.t 25), (.t 26), (.t 27)]
    (.op (some 24) .mov [(.t 28)]
    (.op (some 29) (.ext 0) [(.t 24)]
    (.op (some 30) (.ext 1) [(.t 24)]
    (.al 12 3 (List.replicate 9 (Cell.int .i64 0))
    (.op none (.stAll (.slot 3) 9) [(.t 12), (.t 29)]
    (.op (some 13) .mov [(.t 30)]
    .nil)))))))))))
  (.seq (.seq (.reg 7 false (.op (some 31) .mov [(.t 13)]
    (.op (some 32) (.un .not) [(.t 31)]
    .nil)))
  (.cond (.t 32)
  (.seq (.reg 8 true (.op (some 33) .mov [(.t 10)]
    (.op (some 34) (.ldAll (.slot 2) 5) [(.t 9)]
    (.op (some 6) .mov [(.t 33)]
    (.op none (.stAll (.slot 1) 5) [(.t 7), (.t 34)]
    (.op (some 8) .mov [(.k (.c (.bool false)))]
    .nil))))))
  .ret)
  .skip))
  (.seq (.reg 9 false (.op (some 14) .mov [(.k (.c (.int .i64 0)))]
    .nil))
  (.seq (.seq (.reg 10 false (.op (some 35) (.addr 0) [(.t 12)]
    (.op (some 36) (.ld (.slot 3) (.i .i64)) [(.t 35)]
    (.op (some 37) (.bin .eql) [(.t 36), (.k (.c (.int .i64 2)))]
    (.op (some 38) .mov [(.t 37)]
    (.sc 38 false (.op (some 39) (.addr 0) [(.t 12)]
    (.op (some 40) (.ld (.slot 3) (.i .i64)) [(.t 39)]
    (.op (some 41) (.bin .eql) [(.t 40), (.k (.c (.int .i64 4)))]
    .nil))) 41 42 true
    .nil))))))
  (.cond (.t 42)
  (.seq (.seq (.reg 11 false (.op (some 43) .mov [(.t 11)]
    (.op (some 44) .mov [(.t 2)]
    (.op (some 45) .len [(.t 44)]
    (.op (some 46) (.bin .eql) [(.t 43), (.t 45)]
    .nil)))))
  (.cond (.t 46)
  (.seq (.reg 12 true (.op (some 47) .mov [(.t 10)]
    (.op (some 48) (.ldAll (.slot 2) 5) [(.t 9)]
    (.op (some 6) .mov [(.t 47)]
    (.op none (.stAll (.slot 1) 5) [(.t 7), (.t 48)]
    (.op (some 8) .mov [(.k (.c (.bool true)))]
    .nil))))))
  .ret)
  .skip))
  (.seq (.reg 13 false (.op (some 49) .mov [(.t 2)]
    (.op (some 50) .mov [(.t 11)]
    (.op (some 51) (.idxS 1) [(.t 49), (.t 50)]
    (.op (some 52) (.ld .heap (.i .i64)) [(.t 51)]
    (.op (some 14) .mov [(.t 52)]
    .nil))))))
  (.reg 14 false (.op (some 53) .mov [(.t 11)]
    (.op (some 54) (.bin .add) [(.t 53), (.k (.c (.int .i64 1)))]
    (.op (some 11) .mov [(.t 54)]
    .nil))))))
  .skip))
  (.seq (.reg 15 false (.op (some 55) (.ldAll (.slot 3) 9) [(.t 12)]
    (.op (some 56) (.ldAll (.slot 2) 5) [(.t 9)]
    (.op (some 57) .mov [(.t 14)]
    (.op (some 58) (.call 111 [.agg]) [(.t 55), (.t 56), (.t 57)]
    (.al 15 4 ([Cell.int .i64 0, Cell.int .i64 0, Cell.int .i64 0, Cell.int .i64 0, Cell.int .i64 0, Cell.int .i64 0])
    (.op none (.stAll (.slot 4) 6) [(.t 15), (.t 58)]
    .nil)))))))
  (.seq (.reg 16 false (.op (some 59) .mov [(.t 1)]
    (.op (some 60) .mov [(.t 10)]
    (.op (some 61) .len [(.t 60)]
    (.op (some 62) (.addr 0) [(.t 15)]
    (.op none (.st (.slot 4)) [(.t 62), (.t 59)]
    (.op (some 63) (.addr 1) [(.t 15)]
    (.op none (.st (.slot 4)) [(.t 63), (.t 61)]
    .nil))))))))
  (.seq (.reg 17 false (.op (some 64) .mov [(.t 10)]
    (.op (some 65) (.ldAll (.slot 4) 6) [(.t 15)]
    (.op (some 66) (.lit 6 1 ([Cell.int .i64 0, Cell.int .i64 0, Cell.int .i64 0, Cell.int .i64 0, Cell.int .i64 0, Cell.int .i64 0]) [(0, 6)]) [(.t 65)]
    (.op (some 67) (.app 6 48) [(.t 64), (.t 66)]
    (.op (some 10) .mov [(.t 67)]
    .nil))))))
  (.reg 18 false (.op (some 68) (.ldAll (.slot 0) 3) [(.t 3)]
    (.op (some 69) .mov [(.t 1)]
    (.op (some 70) (.ldAll (.slot 2) 5) [(.t 9)]
    (.op (some 71) .mov [(.t 14)]
    (.op (some 72) (.call 107 [.agg]) [(.t 68), (.t 69), (.t 70), (.t 71)]
    (.op none (.stAll (.slot 2) 5) [(.t 9), (.t 72)]
    .nil)))))))))))))))
def jacquardref6_Unfold : Fn := { np := 3, nt := 73, ns := 5, res := [.t 6 .any, .all (.slot 1) 7 5, .t 8 .b], gc := false, code :=
  (.seq (.reg 0 false (.box 3 0 (.t 0)
    (.op (some 6) .mov [(.k (.c .nils))]
    (.al 7 1 ([Cell.int .i64 0, Cell.int .i64 0, Cell.int .i64 0, Cell.int .i64 0, Cell.int .i64 0])
    (.op (some 8) .mov [(.k (.c (.bool false)))]
    .nil)))))
  (.seq (.seq (.reg 1 false (.op (some 16) (.ldAll (.slot 0) 3) [(.t 3)]
    (.op (some 17) .mov [(.t 1)]
    (.op (some 18) (.call 110 [.b]) [(.t 16), (.t 17)]
    (.op (some 19) (.un .not) [(.t 18)]
    .nil)))))
  (.cond (.t 19)
  (.seq (.reg 2 false (.op (some 20) (.build ([Cell.int .i64 0, Cell.int .i64 0, Cell.int .i64 0, Cell.int .i64 0, Cell.int .i64 0]) []) []
    (.op (some 6) .mov [(.k (.c .nils))]
    (.op none (.stAll (.slot 1) 5) [(.t 7), (.t 20)]
    (.op (some 8) .mov [(.k (.c (.bool false)))]
    .nil)))))
  .ret)
  .skip))
  (.seq (.reg 3 false (.op (some 21) (.ldAll (.slot 0) 3) [(.t 3)]
    (.op (some 22) .mov [(.t 1)]
    (.op (some 23) (.call 104 [.agg]) [(.t 21), (.t 22)]
    (.al 9 2 ([Cell.int .i64 0, Cell.int .i64 0, Cell.int .i64 0, Cell.int .i64 0, Cell.int .i64 0])
    (.op none (.stAll (.slot 2) 5) [(.t 9), (.t 23)]
    .nil))))))
  (.seq (.reg 4 false (.op (some 10) .mov [(.k (.c .nils))]
    .nil))
  (.seq (.reg 5 false (.op (some 11) .mov [(.k (.c (.int .i64 0)))]
    .nil))
  (.blk 0 (.loop [1, 2, 3, 7, 9, 10, 11] [0, 1, 2] [(0, [6, 7, 8], [1])] jacquardref6_Unfold_b1))))))) }

/- jacquard/jacquardref6.Reads: 85 -/
def jacquardref6_Reads : Fn := { np := 1, nt := 16, ns := 1, res := [.t 2 .b], gc := false, code :=
  (.seq (.reg 0 false (.box 1 0 (.t 0)
    (.op (some 2) .mov [(.k (.c (.bool false)))]
    .nil)))
  (.seq (.reg 1 false (.op (some 3) (.addr 2) [(.t 1)]
    (.op (some 4) (.ld (.slot 0) (.i .i64)) [(.t 3)]
    (.op (some 5) (.bin .eql) [(.t 4), (.k (.c (.int .i64 1)))]
    (.op (some 6) .mov [(.t 5)]
    (.sc 6 false (.op (some 7) (.addr 2) [(.t 1)]
    (.op (some 8) (.ld (.slot 0) (.i .i64)) [(.t 7)]
    (.op (some 9) (.bin .eql) [(.t 8), (.k (.c (.int .i64 4)))]
    .nil))) 9 10 true
    (.op (some 11) .mov [(.t 10)]
    (.sc 11 false (.op (some 12) (.addr 2) [(.t 1)]
    (.op (some 13) (.ld (.slot 0) (.i .i64)) [(.t 12)]
    (.op (some 14) (.bin .eql) [(.t 13), (.k (.c (.int .i64 5)))]
    .nil))) 14 15 true
    (.op (some 2) .mov [(.t 15)]
    .nil)))))))))
  .ret)) }

/- jacquard/jacquardref6.Writes: 86 -/
def jacquardref6_Writes : Fn := { np := 1, nt := 11, ns := 1, res := [.t 2 .b], gc := false, code :=
  (.seq (.reg 0 false (.box 1 0 (.t 0)
    (.op (some 2) .mov [(.k (.c (.bool false)))]
    .nil)))
  (.seq (.reg 1 false (.op (some 3) (.addr 2) [(.t 1)]
    (.op (some 4) (.ld (.slot 0) (.i .i64)) [(.t 3)]
    (.op (some 5) (.bin .eql) [(.t 4), (.k (.c (.int .i64 2)))]
    (.op (some 6) .mov [(.t 5)]
    (.sc 6 false (.op (some 7) (.addr 2) [(.t 1)]
    (.op (some 8) (.ld (.slot 0) (.i .i64)) [(.t 7)]
    (.op (some 9) (.bin .eql) [(.t 8), (.k (.c (.int .i64 4)))]
    .nil))) 9 10 true
    (.op (some 2) .mov [(.t 10)]
    .nil)))))))
  .ret)) }

/- jacquard/jacquardref6.Fences: 87 -/
def jacquardref6_Fences : Fn := { np := 1, nt := 16, ns := 1, res := [.t 2 .b], gc := false, code :=
  (.seq (.reg 0 false (.box 1 0 (.t 0)
    (.op (some 2) .mov [(.k (.c (.bool false)))]
    .nil)))
  (.seq (.reg 1 false (.op (some 3) (.addr 2) [(.t 1)]
    (.op (some 4) (.ld (.slot 0) (.i .i64)) [(.t 3)]
    (.op (some 5) (.bin .eql) [(.t 4), (.k (.c (.int .i64 3)))]
    (.op (some 6) .mov [(.t 5)]
    (.sc 6 false (.op (some 7) (.addr 2) [(.t 1)]
    (.op (some 8) (.ld (.slot 0) (.i .i64)) [(.t 7)]
    (.op (some 9) (.bin .eql) [(.t 8), (.k (.c (.int .i64 4)))]
    .nil))) 9 10 true
    (.op (some 11) .mov [(.t 10)]
    (.sc 11 false (.op (some 12) (.addr 2) [(.t 1)]
    (.op (some 13) (.ld (.slot 0) (.i .i64)) [(.t 12)]
    (.op (some 14) (.bin .eql) [(.t 13), (.k (.c (.int .i64 5)))]
    .nil))) 14 15 true
    (.op (some 2) .mov [(.t 15)]
    .nil)))))))))
  .ret)) }

/- jacquard/jacquardref6.Inits: 89 -/
def jacquardref6_Inits_b1 : IC :=
  (.seq (.seq (.reg 3 false (.op (some 5) .mov [(.t 4)]
    (.op (some 6) (.addr 0) [(.t 1)]
    (.op (some 7) (.ld (.slot 0) .any) [(.t 6)]
    (.op (some 8) .len [(.t 7)]
    (.op (some 9) (.bin .lss) [(.t 5), (.t 8)]
    .nil))))))
  (.cond (.t 9)
  .skip
  (.exit 0)))
  (.seq (.blk 1 (.reg 5 false (.op (some 12) .mov [(.t 3)]
    (.op (some 13) .mov [(.t 4)]
    (.op (some 14) .mov [(.t 4)]
    (.op (some 15) (.addr 1) [(.t 1)]
    (.op (some 16) (.ld (.slot 0) .any) [(.t 15)]
    (.op (some 17) .mov [(.t 4)]
    (.op (some 18) (.idxS 1) [(.t 16), (.t 17)]
    (.op (some 19) (.ld .heap (.i .i64)) [(.t 18)]
    (.op (some 20) (.build ([Cell.int .i64 0, Cell.int .i64 0, Cell.int .i64 0, Cell.int .i64 0, Cell.int .i64 0, Cell.int .i64 0]) [(0, 1), (1, 1), (2, 1), (3, 1), (5, 1)]) [(.k (.c (.int .i64 (-1)))), (.t 13), (.k (.c (.int .i64 2))), (.t 14), (.t 19)]
    (.op (some 21) (.lit 6 1 ([Cell.int .i64 0, Cell.int .i64 0, Cell.int .i64 0, Cell.int .i64 0, Cell.int .i64 0, Cell.int .i64 0]) [(0, 6)]) [(.t 20)]
    (.op (some 22) (.app 6 48) [(.t 12), (.t 21)]
    (.op (some 3) .mov [(.t 22)]
    .nil))))))))))))))
  (.reg 4 false (.op (some 10) .mov [(.t 4)]
    (.op (some 11) (.bin .add) [(.t 10), (.k (.c (.int .i64 1)))]
    (.op (some 4) .mov [(.t 11)]
    .nil))))))
def jacquardref6_Inits_p1 : IC :=
  (.seq (.reg 6 false (.op (some 23) .mov [(.t 3)]
    (.op (some 2) .mov [(.t 23)]
    .nil)))
  .ret)
def jacquardref6_Inits : Fn := { np := 1, nt := 24, ns := 1, res := [.t 2 .any], gc := false, code :=
  (.seq (.reg 0 false (.box 1 0 (.t 0)
    (.op (some 2) .mov [(.k (.c .nils))]
    .nil)))
  (.seq (.reg 1 false (.op (some 3) .mov [(.k (.c .nils))]
    .nil))
  (.seq (.seq (.reg 2 false (.op (some 4) .mov [(.k (.c (.int .i64 0)))]
    .nil))
  (.blk 0 (.loop [1, 3, 4] [0] [(1, [3], [])] jacquardref6_Inits_b1)))
  jacquardref6_Inits_p1))) }

/- jacquard/jacquardref6.Value: 92 -/
def jacquardref6_Value : Fn := { np := 2, nt := 20, ns := 2, res := [.t 4 (.i .i64)], gc := false, code :=
  (.seq (.reg 0 false (.box 2 0 (.t 0)
    (.box 3 1 (.t 1)
    (.op (some 4) .mov [(.k (.c (.int .i64 0)))]
    .nil))))
  (.seq (.seq (.reg 1 false (.op (some 5) (.addr 0) [(.t 2)]
    (.op (some 6) (.ld (.slot 0) (.i .i64)) [(.t 5)]
    (.op (some 7) (.bin .geq) [(.t 6), (.k (.c (.int .i64 0)))]
    (.op (some 8) .mov [(.t 7)]
    (.sc 8 true (.op (some 9) (.addr 0) [(.t 2)]
    (.op (some 10) (.ld (.slot 0) (.i .i64)) [(.t 9)]
    (.op (some 11) (.bin .leq) [(.t 10), (.k (.c (.int .i64 3)))]
    .nil))) 11 12 false
    .nil))))))
  (.cond (.t 12)
  (.seq (.reg 2 false (.op (some 13) (.addr 0) [(.t 2)]
    (.op (some 14) (.ld (.slot 0) (.i .i64)) [(.t 13)]
    (.op (some 15) (.addr 1) [(.t 3)]
    (.op (some 16) (.idxA 4 1) [(.t 15), (.t 14)]
    (.op (some 17) (.ld (.slot 1) (.i .i64)) [(.t 16)]
    (.op (some 4) .mov [(.t 17)]
    .nil)))))))
  .ret)
  .skip))
  (.seq (.reg 3 false (.op (some 18) (.addr 1) [(.t 2)]
    (.op (some 19) (.ld (.slot 0) (.i .i64)) [(.t 18)]
    (.op (some 4) .mov [(.t 19)]
    .nil))))
  .ret))) }

/- jacquard/jacquardref6.Compile: 101 -/
def jacquardref6_Compile_b1 : IC :=
  (.seq (.seq (.reg 7 false (.op (some 21) .mov [(.t 6)]
    (.op (some 22) (.addr 1) [(.t 1)]
    (.op (some 23) (.ld (.slot 0) .any) [(.t 22)]
    (.op (some 24) .len [(.t 23)]
    (.op (some 25) (.bin .lss) [(.t 21), (.t 24)]
    .nil))))))
  (.cond (.t 25)
  .skip
  (.exit 2)))
  (.seq (.blk 3 (.seq (.reg 9 true (.op (some 28) (.addr 1) [(.t 1)]
    (.op (some 29) (.ld (.slot 0) .any) [(.t 28)]
    (.op (some 30) .mov [(.t 6)]
    (.op (some 31) (.idxS 2) [(.t 29), (.t 30)]
    (.op (some 32) (.addr 0) [(.t 31)]
    (.op (some 33) (.ld .heap (.i .i64)) [(.t 32)]
    (.op (some 34) (.addr 0) [(.t 3)]
    (.op (some 35) (.ld (.slot 2) .any) [(.t 34)]
    (.op (some 36) .mov [(.t 4)]
    (.op (some 37) (.idxS 1) [(.t 35), (.t 36)]
    (.op (some 38) (.ld .heap (.i .u8)) [(.t 37)]
    (.op (some 39) (.conv .i64) [(.t 38)]
    (.op (some 40) (.bin .eql) [(.t 33), (.t 39)]
    .nil))))))))))))))
  (.cond (.t 40)
  (.reg 10 false (.op (some 41) (.addr 1) [(.t 1)]
    (.op (some 42) (.ld (.slot 0) .any) [(.t 41)]
    (.op (some 43) .mov [(.t 6)]
    (.op (some 44) (.idxS 2) [(.t 42), (.t 43)]
    (.op (some 45) (.addr 1) [(.t 44)]
    (.op (some 46) (.ld .heap (.i .i64)) [(.t 45)]
    (.op (some 5) .mov [(.t 46)]
    .nil))))))))
  .skip)))
  (.reg 8 false (.op (some 26) .mov [(.t 6)]
    (.op (some 27) (.bin .add) [(.t 26), (.k (.c (.int .i64 1)))]
    (.op (some 6) .mov [(.t 27)]
    .nil))))))
def jacquardref6_Compile_p3 : IC :=
  (.reg 11 false (.op (some 47) (.addr 1) [(.t 3)]
    (.op (some 48) (.ld (.slot 2) .any) [(.t 47)]
    (.op (some 49) .mov [(.t 5)]
    (.op (some 50) (.lit 1 1 ([Cell.int .i64 0]) [(0, 1)]) [(.t 49)]
    (.op (some 51) (.app 1 8) [(.t 48), (.t 50)]
    (.op (some 52) (.addr 1) [(.t 3)]
    (.op none (.st (.slot 2)) [(.t 52), (.t 51)]
    .nil))))))))
def jacquardref6_Compile_p2 : IC :=
  (.reg 4 false (.op (some 19) .mov [(.t 4)]
    (.op (some 20) (.bin .add) [(.t 19), (.k (.c (.int .i64 1)))]
    (.op (some 4) .mov [(.t 20)]
    .nil))))
def jacquardref6_Compile_b2 : IC :=
  (.seq (.seq (.reg 3 false (.op (some 14) .mov [(.t 4)]
    (.op (some 15) (.addr 0) [(.t 3)]
    (.op (some 16) (.ld (.slot 2) .any) [(.t 15)]
    (.op (some 17) .len [(.t 16)]
    (.op (some 18) (.bin .lss) [(.t 14), (.t 17)]
    .nil))))))
  (.cond (.t 18)
  .skip
  (.exit 0)))
  (.seq (.blk 1 (.seq (.reg 5 false (.op (some 5) .mov [(.k (.c (.int .i64 0)))]
    .nil))
  (.seq (.seq (.reg 6 false (.op (some 6) .mov [(.k (.c (.int .i64 0)))]
    .nil))
  (.blk 2 (.loop [1, 2, 3, 4, 5, 6] [0, 1, 2] [(3, [1, 2, 3, 4, 5], [0, 1, 2])] jacquardref6_Compile_b1)))
  jacquardref6_Compile_p3)))
  jacquardref6_Compile_p2))
def jacquardref6_Compile_b3 : IC :=
  (.seq (.seq (.reg 17 false (.op (some 60) .mov [(.t 9)]
    (.op (some 61) (.addr 2) [(.t 1)]
    (.op (some 62) (.ld (.slot 0) .any) [(.t 61)]
    (.op (some 63) .mov [(.t 7)]
    (.op (some 64) (.idxS 1) [(.t 62), (.t 63)]
    (.op (some 65) (.ld .heap .any) [(.t 64)]
    (.op (some 66) .len [(.t 65)]
    (.op (some 67) (.bin .lss) [(.t 60), (.t 66)]
    .nil)))))))))
  (.cond (.t 67)
  .skip
  (.exit 6)))
  (.seq (.blk 7 (.seq (.reg 19 false (.op (some 70) (.addr 2) [(.t 1)]
    (.op (some 71) (.ld (.slot 0) .any) [(.t 70)]
    (.op (some 72) .mov [(.t 7)]
    (.op (some 73) (.idxS 1) [(.t 71), (.t 72)]
    (.op (some 74) (.ld .heap .any) [(.t 73)]
    (.op (some 75) .mov [(.t 9)]
    (.op (some 76) (.idxS 9) [(.t 74), (.t 75)]
    (.op (some 77) (.ldN .heap 9) [(.t 76)]
    (.al 10 3 (List.replicate 9 (Cell.int .i64 0))
    (.op none (.stAll (.slot 3) 9) [(.t 10), (.t 77)]
    .nil)))))))))))
  (.seq (.seq (.reg 20 false (.op (some 78) (.addr 2) [(.t 10)]
    (.op (some 79) (.ld (.slot 3) (.i .i64)) [(.t 78)]
    (.op (some 80) (.bin .neq) [(.t 79), (.k (.c (.int .i64 0)))]
    .nil))))
  (.cond (.t 80)
  (.reg 21 false (.op (some 81) (.ldAll (.slot 2) 3) [(.t 3)]
    (.op (some 82) (.addr 2) [(.t 10)]
    (.op (some 83) (.ld (.slot 3) (.i .i64)) [(.t 82)]
    (.op (some 84) (.call 122 [(.i .i64)]) [(.t 81), (.t 83)]
    (.op (some 85) (.addr 2) [(.t 10)]
    (.op none (.st (.slot 3)) [(.t 85), (.t 84)]
    .nil)))))))
  .skip))
  (.reg 22 false (.op (some 86) .mov [(.t 8)]
    (.op (some 87) (.ldAll (.slot 3) 9) [(.t 10)]
    (.op (some 88) (.lit 9 1 (List.replicate 9 (Cell.int .i64 0)) [(0, 9)]) [(.t 87)]
    (.op (some 89) (.app 9 72) [(.t 86), (.t 88)]
    (.op (some 8) .mov [(.t 89)]
    .nil)))))))))
  (.reg 18 false (.op (some 68) .mov [(.t 9)]
    (.op (some 69) (.bin .add) [(.t 68), (.k (.c (.int .i64 1)))]
    (.op (some 9) .mov [(.t 69)]
    .nil))))))
def jacquardref6_Compile_p6 : IC :=
  (.reg 23 false (.op (some 90) (.addr 2) [(.t 3)]
    (.op (some 91) (.ld (.slot 2) .any) [(.t 90)]
    (.op (some 92) .mov [(.t 8)]
    (.op (some 93) (.lit 1 1 ([Cell.nils]) [(0, 1)]) [(.t 92)]
    (.op (some 94) (.app 1 24) [(.t 91), (.t 93)]
    (.op (some 95) (.addr 2) [(.t 3)]
    (.op none (.st (.slot 2)) [(.t 95), (.t 94)]
    .nil))))))))
def jacquardref6_Compile_p5 : IC :=
  (.reg 14 false (.op (some 58) .mov [(.t 7)]
    (.op (some 59) (.bin .add) [(.t 58), (.k (.c (.int .i64 1)))]
    (.op (some 7) .mov [(.t 59)]
    .nil))))
def jacquardref6_Compile_b4 : IC :=
  (.seq (.seq (.reg 13 false (.op (some 53) .mov [(.t 7)]
    (.op (some 54) (.addr 2) [(.t 1)]
    (.op (some 55) (.ld (.slot 0) .any) [(.t 54)]
    (.op (some 56) .len [(.t 55)]
    (.op (some 57) (.bin .lss) [(.t 53), (.t 56)]
    .nil))))))
  (.cond (.t 57)
  .skip
  (.exit 4)))
  (.seq (.blk 5 (.seq (.reg 15 false (.op (some 8) .mov [(.k (.c .nils))]
    .nil))
  (.seq (.seq (.reg 16 false (.op (some 9) .mov [(.k (.c (.int .i64 0)))]
    .nil))
  (.blk 6 (.loop [1, 2, 3, 7, 8, 9] [0, 1, 2] [(7, [1, 2, 3, 7, 8], [0, 1, 2])] jacquardref6_Compile_b3)))
  jacquardref6_Compile_p6)))
  jacquardref6_Compile_p5))
def jacquardref6_Compile_p4 : IC :=
  (.seq (.reg 24 false (.op (some 96) (.ldAll (.slot 2) 3) [(.t 3)]
    (.op none (.stAll (.slot 1) 3) [(.t 2), (.t 96)]
    .nil)))
  .ret)
def jacquardref6_Compile_p1 : IC :=
  (.seq (.seq (.reg 12 false (.op (some 7) .mov [(.k (.c (.int .i64 0)))]
    .nil))
  (.blk 4 (.loop [1, 2, 3, 7] [0, 1, 2] [(5, [2, 3], [1, 2])] jacquardref6_Compile_b4)))
  jacquardref6_Compile_p4)
def jacquardref6_Compile : Fn := { np := 1, nt := 97, ns := 4, res := [.all (.slot 1) 2 3], gc := false, code :=
  (.seq (.reg 0 false (.box 1 0 (.t 0)
    (.al 2 1 ([Cell.nils, Cell.nils, Cell.nils])
    .nil)))
  (.seq (.reg 1 false (.op (some 11) (.ldAll (.slot 0) 5) [(.t 1)]
    (.op (some 12) (.call 121 [.any]) [(.t 11)]
    (.op (some 13) (.build ([Cell.nils, Cell.nils, Cell.nils]) [(0, 1)]) [(.t 12)]
    (.al 3 2 ([Cell.nils, Cell.nils, Cell.nils])
    (.op none (.stAll (.slot 2) 3) [(.t 3), (.t 13)]
    .nil))))))
  (.seq (.seq (.reg 2 false (.op (some 4) .mov [(.k (.c (.int .i64 0)))]
    .nil))
  (.blk 0 (.loop [1, 2, 3, 4] [0, 1, 2] [(1, [1, 2, 3], [0, 1, 2])] jacquardref6_Compile_b2)))
  jacquardref6_Compile_p1))) }

/- jacquard/jacquardref6.Start: 104 -/
def jacquardref6_Start : Fn := { np := 2, nt := 14, ns := 2, res := [.all (.slot 1) 4 5], gc := false, code :=
  (.seq (.reg 0 false (.box 2 0 (.t 0)
    (.al 4 1 ([Cell.int .i64 0, Cell.int .i64 0, Cell.int .i64 0, Cell.int .i64 0, Cell.int .i64 0])
    .nil)))
  (.seq (.seq (.reg 1 false (.op (some 5) (.ldAll (.slot 0) 3) [(.t 2)]
    (.op (some 6) .mov [(.t 1)]
    (.op (some 7) (.call 110 [.b]) [(.t 5), (.t 6)]
    (.op (some 8) (.un .not) [(.t 7)]
    .nil)))))
  (.cond (.t 8)
  (.seq (.reg 2 false (.op (some 9) (.build ([Cell.int .i64 0, Cell.int .i64 0, Cell.int .i64 0, Cell.int .i64 0, Cell.int .i64 0]) []) []
    (.op none (.stAll (.slot 1) 5) [(.t 4), (.t 9)]
    .nil)))
  .ret)
  .skip))
  (.seq (.reg 3 false (.op (some 10) (.ldAll (.slot 0) 3) [(.t 2)]
    (.op (some 11) .mov [(.t 1)]
    (.op (some 12) (.build ([Cell.int .i64 0, Cell.int .i64 0, Cell.int .i64 0, Cell.int .i64 0, Cell.int .i64 0]) []) []
    (.op (some 13) (.call 123 [.agg]) [(.t 10), (.t 11), (.t 12)]
    (.op none (.stAll (.slot 1) 5) [(.t 4), (.t 13)]
    .nil))))))
  .ret))) }

/- jacquard/jacquardref6.After: 107 -/
def jacquardref6_After : Fn := { np := 4, nt := 42, ns := 4, res := [.all (.slot 2) 8 5], gc := false, code :=
  (.seq (.reg 0 false (.box 4 0 (.t 0)
    (.box 6 1 (.t 2)
    (.al 8 2 ([Cell.int .i64 0, Cell.int .i64 0, Cell.int .i64 0, Cell.int .i64 0, Cell.int .i64 0])
    .nil))))
  (.seq (.reg 1 false (.op (some 12) (.ldAll (.slot 0) 3) [(.t 4)]
    (.op (some 13) .mov [(.t 1)]
    (.op (some 14) (.ldAll (.slot 1) 5) [(.t 6)]
    (.op (some 15) (.call 81 [.agg, .b]) [(.t 12), (.t 13), (.t 14)]
    (.op (some 11) .mov [(.t 15)]
    (.op (some 16) (.ext 0) [(.t 11)]
    (.op (some 17) (.ext 1) [(.t 11)]
    (.al 9 3 (List.replicate 9 (Cell.int .i64 0))
    (.op none (.stAll (.slot 3) 9) [(.t 9), (.t 16)]
    (.op (some 10) .mov [(.t 17)]
    .nil)))))))))))
  (.seq (.seq (.reg 2 false (.op (some 18) .mov [(.t 10)]
    (.op (some 19) (.un .not) [(.t 18)]
    .nil)))
  (.cond (.t 19)
  (.seq (.reg 3 false (.op (some 20) (.ldAll (.slot 1) 5) [(.t 6)]
    (.op none (.stAll (.slot 2) 5) [(.t 8), (.t 20)]
    .nil)))
  .ret)
  .skip))
  (.seq (.seq (.reg 4 false (.op (some 21) (.addr 0) [(.t 9)]
    (.op (some 22) (.ld (.slot 3) (.i .i64)) [(.t 21)]
    (.op (some 23) (.bin .eql) [(.t 22), (.k (.c (.int .i64 2)))]
    (.op (some 24) .mov [(.t 23)]
    (.sc 24 false (.op (some 25) (.addr 0) [(.t 9)]
    (.op (some 26) (.ld (.slot 3) (.i .i64)) [(.t 25)]
    (.op (some 27) (.bin .eql) [(.t 26), (.k (.c (.int .i64 4)))]
    .nil))) 27 28 true
    .nil))))))
  (.cond (.t 28)
  (.reg 5 false (.op (some 29) (.addr 1) [(.t 9)]
    (.op (some 30) (.ld (.slot 3) (.i .i64)) [(.t 29)]
    (.op (some 31) .mov [(.t 3)]
    (.op (some 32) (.addr 1) [(.t 6)]
    (.op (some 33) (.idxA 4 1) [(.t 32), (.t 30)]
    (.op none (.st (.slot 1)) [(.t 33), (.t 31)]
    .nil)))))))
  .skip))
  (.seq (.reg 6 false (.op (some 34) (.addr 0) [(.t 6)]
    (.op (some 35) (.ld (.slot 1) (.i .i64)) [(.t 34)]
    (.op (some 36) (.bin .add) [(.t 35), (.k (.c (.int .i64 1)))]
    (.op (some 37) (.addr 0) [(.t 6)]
    (.op none (.st (.slot 1)) [(.t 37), (.t 36)]
    .nil))))))
  (.seq (.reg 7 false (.op (some 38) (.ldAll (.slot 0) 3) [(.t 4)]
    (.op (some 39) .mov [(.t 1)]
    (.op (some 40) (.ldAll (.slot 1) 5) [(.t 6)]
    (.op (some 41) (.call 123 [.agg]) [(.t 38), (.t 39), (.t 40)]
    (.op none (.stAll (.slot 2) 5) [(.t 8), (.t 41)]
    .nil))))))
  .ret)))))) }

/- jacquard/jacquardref6.there: 110 -/
def jacquardref6_there : Fn := { np := 2, nt := 14, ns := 1, res := [.t 4 .b], gc := false, code :=
  (.seq (.reg 0 false (.box 2 0 (.t 0)
    (.op (some 4) .mov [(.k (.c (.bool false)))]
    .nil)))
  (.seq (.reg 1 false (.op (some 5) .mov [(.t 1)]
    (.op (some 6) (.bin .geq) [(.t 5), (.k (.c (.int .i64 0)))]
    (.op (some 7) .mov [(.t 6)]
    (.sc 7 true (.op (some 8) .mov [(.t 1)]
    (.op (some 9) (.addr 2) [(.t 2)]
    (.op (some 10) (.ld (.slot 0) .any) [(.t 9)]
    (.op (some 11) .len [(.t 10)]
    (.op (some 12) (.bin .lss) [(.t 8), (.t 11)]
    .nil))))) 12 13 false
    (.op (some 4) .mov [(.t 13)]
    .nil))))))
  .ret)) }

/- jacquard/jacquardref6.Event: 111 -/
def jacquardref6_Event : Fn := { np := 3, nt := 45, ns := 3, res := [.all (.slot 2) 6 6], gc := false, code :=
  (.seq (.reg 0 false (.box 3 0 (.t 0)
    (.box 4 1 (.t 1)
    (.al 6 2 ([Cell.int .i64 0, Cell.int .i64 0, Cell.int .i64 0, Cell.int .i64 0, Cell.int .i64 0, Cell.int .i64 0])
    .nil))))
  (.seq (.seq (.reg 1 false (.op (some 7) (.addr 0) [(.t 3)]
    (.op (some 8) (.ld (.slot 0) (.i .i64)) [(.t 7)]
    .nil)))
  (.blk 0 (.seq (.reg 2 false (.op (some 10) (.bin .eql) [(.t 8), (.k (.c (.int .i64 1)))]
    (.op (some 9) .mov [(.t 10)]
    .nil)))
  (.cond (.t 9)
  (.seq (.reg 3 true (.op (some 11) (.addr 2) [(.t 3)]
    (.op (some 12) (.ld (.slot 0) (.i .i64)) [(.t 11)]
    (.op (some 13) (.addr 3) [(.t 3)]
    (.op (some 14) (.ldN (.slot 0) 2) [(.t 13)]
    (.op (some 15) (.ldAll (.slot 1) 5) [(.t 4)]
    (.op (some 16) (.qcall 92 [(.i .i64)]) [(.t 14), (.t 15)]
    (.op (some 17) (.build ([Cell.int .i64 0, Cell.int .i64 0, Cell.int .i64 0, Cell.int .i64 0, Cell.int .i64 0, Cell.int .i64 0]) [(2, 1), (3, 1), (5, 1)]) [(.k (.c (.int .i64 2))), (.t 12), (.t 16)]
    (.op none (.stAll (.slot 2) 6) [(.t 6), (.t 17)]
    .nil)))))))))
  .ret)
  (.seq (.reg 4 false (.op (some 19) (.bin .eql) [(.t 8), (.k (.c (.int .i64 2)))]
    (.op (some 18) .mov [(.t 19)]
    .nil)))
  (.cond (.t 18)
  (.seq (.reg 5 false (.op (some 20) (.addr 2) [(.t 3)]
    (.op (some 21) (.ld (.slot 0) (.i .i64)) [(.t 20)]
    (.op (some 22) .mov [(.t 2)]
    (.op (some 23) (.build ([Cell.int .i64 0, Cell.int .i64 0, Cell.int .i64 0, Cell.int .i64 0, Cell.int .i64 0, Cell.int .i64 0]) [(2, 1), (3, 1), (4, 1)]) [(.k (.c (.int .i64 1))), (.t 21), (.t 22)]
    (.op none (.stAll (.slot 2) 6) [(.t 6), (.t 23)]
    .nil))))))
  .ret)
  (.seq (.reg 6 false (.op (some 25) (.bin .eql) [(.t 8), (.k (.c (.int .i64 4)))]
    (.op (some 24) .mov [(.t 25)]
    .nil)))
  (.cond (.t 24)
  (.seq (.seq (.reg 7 false (.op (some 26) .mov [(.t 2)]
    (.op (some 27) (.addr 3) [(.t 3)]
    (.op (some 28) (.ldN (.slot 0) 2) [(.t 27)]
    (.op (some 29) (.ldAll (.slot 1) 5) [(.t 4)]
    (.op (some 30) (.call 92 [(.i .i64)]) [(.t 28), (.t 29)]
    (.op (some 31) (.bin .eql) [(.t 26), (.t 30)]
    .nil)))))))
  (.cond (.t 31)
  (.seq (.reg 8 true (.op (some 32) (.addr 2) [(.t 3)]
    (.op (some 33) (.ld (.slot 0) (.i .i64)) [(.t 32)]
    (.op (some 34) .mov [(.t 2)]
    (.op (some 35) (.addr 6) [(.t 3)]
    (.op (some 36) (.ldN (.slot 0) 2) [(.t 35)]
    (.op (some 37) (.ldAll (.slot 1) 5) [(.t 4)]
    (.op (some 38) (.qcall 92 [(.i .i64)]) [(.t 36), (.t 37)]
    (.op (some 39) (.build ([Cell.int .i64 0, Cell.int .i64 0, Cell.int .i64 0, Cell.int .i64 0, Cell.int .i64 0, Cell.int .i64 0]) [(2, 1), (3, 1), (4, 1), (5, 1)]) [(.k (.c (.int .i64 4))), (.t 33), (.t 34), (.t 38)]
    (.op none (.stAll (.slot 2) 6) [(.t 6), (.t 39)]
    .nil))))))))))
  .ret)
  .skip))
  (.seq (.reg 9 false (.op (some 40) (.addr 2) [(.t 3)]
    (.op (some 41) (.ld (.slot 0) (.i .i64)) [(.t 40)]
    (.op (some 42) .mov [(.t 2)]
    (.op (some 43) (.build ([Cell.int .i64 0, Cell.int .i64 0, Cell.int .i64 0, Cell.int .i64 0, Cell.int .i64 0, Cell.int .i64 0]) [(2, 1), (3, 1), (4, 1)]) [(.k (.c (.int .i64 5))), (.t 41), (.t 42)]
    (.op none (.stAll (.slot 2) 6) [(.t 6), (.t 43)]
    .nil))))))
  .ret))
  .skip))))))))
  (.seq (.reg 10 false (.op (some 44) (.build ([Cell.int .i64 0, Cell.int .i64 0, Cell.int .i64 0, Cell.int .i64 0, Cell.int .i64 0, Cell.int .i64 0]) [(2, 1)]) [(.k (.c (.int .i64 3)))]
    (.op none (.stAll (.slot 2) 6) [(.t 6), (.t 44)]
    .nil)))
  .ret))) }

/- jacquard/jacquardref6.Place: 122 -/
def jacquardref6_Place_b1 : IC :=
  (.seq (.seq (.reg 2 false (.op (some 6) .mov [(.t 5)]
    (.op (some 7) (.addr 0) [(.t 2)]
    (.op (some 8) (.ld (.slot 0) .any) [(.t 7)]
    (.op (some 9) .len [(.t 8)]
    (.op (some 10) (.bin .lss) [(.t 6), (.t 9)]
    .nil))))))
  (.cond (.t 10)
  .skip
  (.exit 0)))
  (.seq (.blk 1 (.seq (.reg 4 false (.op (some 13) (.addr 0) [(.t 2)]
    (.op (some 14) (.ld (.slot 0) .any) [(.t 13)]
    (.op (some 15) .mov [(.t 5)]
    (.op (some 16) (.idxS 1) [(.t 14), (.t 15)]
    (.op (some 17) (.ld .heap (.i .u8)) [(.t 16)]
    (.op (some 18) (.conv .i64) [(.t 17)]
    (.op (some 19) .mov [(.t 1)]
    (.op (some 20) (.bin .eql) [(.t 18), (.t 19)]
    .nil)))))))))
  (.cond (.t 20)
  (.seq (.reg 5 false (.op (some 21) .mov [(.t 5)]
    (.op (some 4) .mov [(.t 21)]
    .nil)))
  .ret)
  .skip)))
  (.reg 3 false (.op (some 11) .mov [(.t 5)]
    (.op (some 12) (.bin .add) [(.t 11), (.k (.c (.int .i64 1)))]
    (.op (some 5) .mov [(.t 12)]
    .nil))))))
def jacquardref6_Place_p1 : IC :=
  (.seq (.reg 6 false (.op (some 4) .mov [(.k (.c (.int .i64 (-1))))]
    .nil))
  .ret)
def jacquardref6_Place : Fn := { np := 2, nt := 22, ns := 1, res := [.t 4 (.i .i64)], gc := false, code :=
  (.seq (.reg 0 false (.box 2 0 (.t 0)
    (.op (some 4) .mov [(.k (.c (.int .i64 0)))]
    .nil)))
  (.seq (.seq (.reg 1 false (.op (some 5) .mov [(.k (.c (.int .i64 0)))]
    .nil))
  (.blk 0 (.loop [1, 2, 5] [0] [(0, [4], []), (1, [], [])] jacquardref6_Place_b1)))
  jacquardref6_Place_p1)) }

/- jacquard/jacquardref6.normal: 123 -/
def jacquardref6_normal_b1 : IC :=
  (.seq (.seq (.reg 1 true (.op (some 9) (.addr 0) [(.t 5)]
    (.op (some 10) (.ld (.slot 1) (.i .i64)) [(.t 9)]
    (.op (some 11) (.addr 2) [(.t 3)]
    (.op (some 12) (.ld (.slot 0) .any) [(.t 11)]
    (.op (some 13) .mov [(.t 1)]
    (.op (some 14) (.idxS 1) [(.t 12), (.t 13)]
    (.op (some 15) (.ld .heap .any) [(.t 14)]
    (.op (some 16) .len [(.t 15)]
    (.op (some 17) (.bin .lss) [(.t 10), (.t 16)]
    .nil))))))))))
  (.cond (.t 17)
  .skip
  (.exit 0)))
  (.blk 1 (.seq (.reg 2 true (.op (some 18) (.addr 2) [(.t 3)]
    (.op (some 19) (.ld (.slot 0) .any) [(.t 18)]
    (.op (some 20) .mov [(.t 1)]
    (.op (some 21) (.idxS 1) [(.t 19), (.t 20)]
    (.op (some 22) (.ld .heap .any) [(.t 21)]
    (.op (some 23) (.addr 0) [(.t 5)]
    (.op (some 24) (.ld (.slot 1) (.i .i64)) [(.t 23)]
    (.op (some 25) (.idxS 9) [(.t 22), (.t 24)]
    (.op (some 26) (.ldN .heap 9) [(.t 25)]
    (.al 7 3 (List.replicate 9 (Cell.int .i64 0))
    (.op none (.stAll (.slot 3) 9) [(.t 7), (.t 26)]
    .nil))))))))))))
  (.seq (.reg 3 false (.op (some 27) (.addr 0) [(.t 7)]
    (.op (some 28) (.ld (.slot 3) (.i .i64)) [(.t 27)]
    .nil)))
  (.blk 2 (.seq (.reg 5 false (.op (some 31) (.bin .eql) [(.t 28), (.k (.c (.int .i64 5)))]
    (.op (some 30) .mov [(.t 31)]
    .nil)))
  (.cond (.t 30)
  (.seq (.reg 6 false (.op (some 32) (.addr 3) [(.t 7)]
    (.op (some 33) (.ldN (.slot 3) 2) [(.t 32)]
    (.op (some 34) (.ldAll (.slot 1) 5) [(.t 5)]
    (.op (some 35) (.call 92 [(.i .i64)]) [(.t 33), (.t 34)]
    (.op (some 8) .mov [(.t 35)]
    .nil))))))
  (.seq (.seq (.reg 7 false (.op (some 36) (.addr 5) [(.t 7)]
    (.op (some 37) (.ld (.slot 3) (.i .i64)) [(.t 36)]
    (.op (some 38) (.bin .neq) [(.t 37), (.k (.c (.int .i64 0)))]
    .nil))))
  (.cond (.t 38)
  (.reg 8 true (.op (some 40) (.addr 5) [(.t 7)]
    (.op (some 41) (.ld (.slot 3) (.i .i64)) [(.t 40)]
    (.op (some 42) .mov [(.t 8)]
    (.op (some 43) (.addr 6) [(.t 7)]
    (.op (some 44) (.ldN (.slot 3) 2) [(.t 43)]
    (.op (some 45) (.ldAll (.slot 1) 5) [(.t 5)]
    (.op (some 46) (.qcall 92 [(.i .i64)]) [(.t 44), (.t 45)]
    (.op (some 47) (.qcall 93 [(.i .i64), .b]) [(.t 41), (.t 42), (.t 46)]
    (.op (some 39) .mov [(.t 47)]
    (.op (some 48) (.ext 0) [(.t 39)]
    (.op (some 49) (.ext 1) [(.t 39)]
    (.op (some 8) .mov [(.t 48)]
    .nil)))))))))))))
  .skip))
  (.seq (.reg 9 false (.op (some 50) (.addr 1) [(.t 7)]
    (.op (some 51) (.ld (.slot 3) (.i .i64)) [(.t 50)]
    (.op (some 52) .mov [(.t 8)]
    (.op (some 53) (.addr 1) [(.t 5)]
    (.op (some 54) (.idxA 4 1) [(.t 53), (.t 51)]
    (.op none (.st (.slot 1)) [(.t 54), (.t 52)]
    .nil)))))))
  (.reg 10 false (.op (some 55) (.addr 0) [(.t 5)]
    (.op (some 56) (.ld (.slot 1) (.i .i64)) [(.t 55)]
    (.op (some 57) (.bin .add) [(.t 56), (.k (.c (.int .i64 1)))]
    (.op (some 58) (.addr 0) [(.t 5)]
    (.op none (.st (.slot 1)) [(.t 58), (.t 57)]
    .nil)))))))))
  (.seq (.reg 11 false (.op (some 60) (.bin .eql) [(.t 28), (.k (.c (.int .i64 6)))]
    (.op (some 59) .mov [(.t 60)]
    .nil)))
  (.cond (.t 59)
  (.seq (.seq (.reg 12 true (.op (some 61) (.addr 3) [(.t 7)]
    (.op (some 62) (.ldN (.slot 3) 2) [(.t 61)]
    (.op (some 63) (.ldAll (.slot 1) 5) [(.t 5)]
    (.op (some 64) (.qcall 92 [(.i .i64)]) [(.t 62), (.t 63)]
    (.op (some 65) (.addr 6) [(.t 7)]
    (.op (some 66) (.ldN (.slot 3) 2) [(.t 65)]
    (.op (some 67) (.ldAll (.slot 1) 5) [(.t 5)]
    (.op (some 68) (.qcall 92 [(.i .i64)]) [(.t 66), (.t 67)]
    (.op (some 69) (.bin .eql) [(.t 64), (.t 68)]
    .nil))))))))))
  (.cond (.t 69)
  (.reg 13 false (.op (some 70) (.addr 0) [(.t 5)]
    (.op (some 71) (.ld (.slot 1) (.i .i64)) [(.t 70)]
    (.op (some 72) (.addr 8) [(.t 7)]
    (.op (some 73) (.ld (.slot 3) (.i .i64)) [(.t 72)]
    (.op (some 74) (.bin .add) [(.t 71), (.t 73)]
    (.op (some 75) (.addr 0) [(.t 5)]
    (.op none (.st (.slot 1)) [(.t 75), (.t 74)]
    .nil))))))))
  .skip))
  (.reg 14 false (.op (some 76) (.addr 0) [(.t 5)]
    (.op (some 77) (.ld (.slot 1) (.i .i64)) [(.t 76)]
    (.op (some 78) (.bin .add) [(.t 77), (.k (.c (.int .i64 1)))]
    (.op (some 79) (.addr 0) [(.t 5)]
    (.op none (.st (.slot 1)) [(.t 79), (.t 78)]
    .nil)))))))
  (.seq (.reg 4 false (.op (some 29) (.ldAll (.slot 1) 5) [(.t 5)]
    (.op none (.stAll (.slot 2) 5) [(.t 6), (.t 29)]
    .nil)))
  .ret))))))))))
def jacquardref6_normal_p1 : IC :=
  (.seq (.reg 15 false (.op (some 80) (.ldAll (.slot 1) 5) [(.t 5)]
    (.op none (.stAll (.slot 2) 5) [(.t 6), (.t 80)]
    .nil)))
  .ret)
def jacquardref6_normal : Fn := { np := 3, nt := 81, ns := 4, res := [.all (.slot 2) 6 5], gc := false, code :=
  (.seq (.reg 0 false (.box 3 0 (.t 0)
    (.box 5 1 (.t 2)
    (.al 6 2 ([Cell.int .i64 0, Cell.int .i64 0, Cell.int .i64 0, Cell.int .i64 0, Cell.int .i64 0])
    .nil))))
  (.seq (.blk 0 (.loop [1, 3, 5, 6] [0, 1, 2] [(0, [6], [2]), (1, [5, 6], [1, 2])] jacquardref6_normal_b1))
  jacquardref6_normal_p1)) }


end Jq

/- What a function needs of an environment. -/
namespace Jq
open Go

structure jacquardref6_Place_In (E : Env) : Prop where
  fn : E.fn 122 = some jacquardref6_Place

structure jacquardref6_Compile_In (E : Env) : Prop where
  fn : E.fn 101 = some jacquardref6_Compile
  c121 : jacquardref2_Locs_In E
  c122 : jacquardref6_Place_In E

structure jacquardref6_there_In (E : Env) : Prop where
  fn : E.fn 110 = some jacquardref6_there

structure jacquardref6_Next_In (E : Env) : Prop where
  fn : E.fn 81 = some jacquardref6_Next
  c110 : jacquardref6_there_In E

structure jacquardref6_Value_In (E : Env) : Prop where
  fn : E.fn 92 = some jacquardref6_Value

structure jacquardref6_normal_In (E : Env) : Prop where
  fn : E.fn 123 = some jacquardref6_normal
  c92 : jacquardref6_Value_In E
  c93 : jacquardref2_Do_In E

structure jacquardref6_Start_In (E : Env) : Prop where
  fn : E.fn 104 = some jacquardref6_Start
  c110 : jacquardref6_there_In E
  c123 : jacquardref6_normal_In E

structure jacquardref6_After_In (E : Env) : Prop where
  fn : E.fn 107 = some jacquardref6_After
  c81 : jacquardref6_Next_In E
  c123 : jacquardref6_normal_In E

structure jacquardref6_Event_In (E : Env) : Prop where
  fn : E.fn 111 = some jacquardref6_Event
  c92 : jacquardref6_Value_In E

structure jacquardref6_Unfold_In (E : Env) : Prop where
  fn : E.fn 83 = some jacquardref6_Unfold
  c81 : jacquardref6_Next_In E
  c104 : jacquardref6_Start_In E
  c107 : jacquardref6_After_In E
  c110 : jacquardref6_there_In E
  c111 : jacquardref6_Event_In E

structure jacquardref6_Reads_In (E : Env) : Prop where
  fn : E.fn 85 = some jacquardref6_Reads

structure jacquardref6_Writes_In (E : Env) : Prop where
  fn : E.fn 86 = some jacquardref6_Writes

structure jacquardref6_Fences_In (E : Env) : Prop where
  fn : E.fn 87 = some jacquardref6_Fences

structure jacquardref6_Inits_In (E : Env) : Prop where
  fn : E.fn 89 = some jacquardref6_Inits

end Jq

/- What a function needs of an environment. -/
namespace Jq
open Go

structure jacquardlaw6_Of_In (E : Env) : Prop where
  fn : E.fn 76 = some jacquardlaw6_Of
  c97 : jacquardlaw3_Small_In E
  c101 : jacquardref6_Compile_In E

end Jq

namespace Jq
open Go


end Jq

/- What a function needs of an environment. -/
namespace Jq
open Go


end Jq

/- What a function needs of an environment. -/
namespace Jq
open Go

structure jacquardlaw10_awake_In (E : Env) : Prop where
  fn : E.fn 77 = some jacquardlaw10_awake
  c78 : event_Unfold_In E
  c88 : event_Inits_In E

structure jacquardlaw10_EventUnfolds_In (E : Env) : Prop where
  fn : E.fn 213 = some jacquardlaw10_EventUnfolds
  c76 : jacquardlaw6_Of_In E
  c77 : jacquardlaw10_awake_In E
  c78 : event_Unfold_In E
  c79 : event_Reads_In E
  c80 : event_Writes_In E
  c82 : event_Fences_In E
  c83 : jacquardref6_Unfold_In E
  c84 : event_Same_In E
  c85 : jacquardref6_Reads_In E
  c86 : jacquardref6_Writes_In E
  c87 : jacquardref6_Fences_In E
  c88 : event_Inits_In E
  c89 : jacquardref6_Inits_In E

end Jq

/- The seat: where the functions that are reached lie in the given program, and that each is the given one. -/
namespace Go.Proofs.Ytldfafaiappibaa.LEventUnfolds
open Go Jq

def seatFn : Nat → Nat
  | 76 => 13
  | 77 => 14
  | 78 => 15
  | 79 => 16
  | 80 => 17
  | 81 => 18
  | 82 => 19
  | 83 => 20
  | 84 => 21
  | 85 => 22
  | 86 => 23
  | 87 => 24
  | 88 => 25
  | 89 => 26
  | 92 => 31
  | 93 => 32
  | 94 => 33
  | 97 => 36
  | 101 => 40
  | 104 => 43
  | 105 => 44
  | 106 => 45
  | 107 => 46
  | 108 => 47
  | 109 => 48
  | 110 => 49
  | 111 => 50
  | 112 => 51
  | 113 => 57
  | 114 => 56
  | 115 => 58
  | 121 => 65
  | 122 => 66
  | 123 => 67
  | 124 => 68
  | 125 => 71
  | 139 => 86
  | 213 => 6
  | _ => 0

def envFn : Nat → Option Jq.Fn
  | 76 => some jacquardlaw6_Of
  | 77 => some jacquardlaw10_awake
  | 78 => some event_Unfold
  | 79 => some event_Reads
  | 80 => some event_Writes
  | 81 => some jacquardref6_Next
  | 82 => some event_Fences
  | 83 => some jacquardref6_Unfold
  | 84 => some event_Same
  | 85 => some jacquardref6_Reads
  | 86 => some jacquardref6_Writes
  | 87 => some jacquardref6_Fences
  | 88 => some event_Inits
  | 89 => some jacquardref6_Inits
  | 92 => some jacquardref6_Value
  | 93 => some jacquardref2_Do
  | 94 => some prog_Start
  | 97 => some jacquardlaw3_Small
  | 101 => some jacquardref6_Compile
  | 104 => some jacquardref6_Start
  | 105 => some prog_Next
  | 106 => some prog_After
  | 107 => some jacquardref6_After
  | 108 => some prog_Value
  | 109 => some event_Of
  | 110 => some jacquardref6_there
  | 111 => some jacquardref6_Event
  | 112 => some slices_Equal_sEv_Ev
  | 113 => some prog_thread
  | 114 => some prog_normal
  | 115 => some jacquardlaw3_Small_1
  | 121 => some jacquardref2_Locs
  | 122 => some jacquardref6_Place
  | 123 => some jacquardref6_normal
  | 124 => some prog_set
  | 125 => some num_Do
  | 139 => some num_one
  | 213 => some jacquardlaw10_EventUnfolds
  | _ => none

def seatTab : Nat → List Cell := fun _ => []
noncomputable def seat : Seat := { P := Try.prog, fn := seatFn, gl := fun _ => 0, tab := seatTab }
def env : Env := { fn := envFn, tab := seatTab }

theorem mixed : true = true → seat.P.follows .mixedOrders = true := fun _ => by kernel_rfl

theorem ok_76 : FnOk seat 76 jacquardlaw6_Of := ⟨⟨Try.f13, _, drK seat true, Try.func13, rfl, by kernel_rfl, by kernel_rfl, by kernel_rfl, by kernel_rfl, fun _ _ h => draw_sound mixed h⟩⟩
theorem ok_77 : FnOk seat 77 jacquardlaw10_awake := ⟨⟨Try.f14, _, drK seat true, Try.func14, rfl, by kernel_rfl, by kernel_rfl, by kernel_rfl, by kernel_rfl, fun _ _ h => draw_sound mixed h⟩⟩
theorem ok_78 : FnOk seat 78 event_Unfold := ⟨⟨Try.f15, _, drK seat true, Try.func15, rfl, by kernel_rfl, by kernel_rfl, by kernel_rfl, by kernel_rfl, fun _ _ h => draw_sound mixed h⟩⟩
theorem ok_79 : FnOk seat 79 event_Reads := ⟨⟨Try.f16, _, drK seat true, Try.func16, rfl, by kernel_rfl, by kernel_rfl, by kernel_rfl, by kernel_rfl, fun _ _ h => draw_sound mixed h⟩⟩
theorem ok_80 : FnOk seat 80 event_Writes := ⟨⟨Try.f17, _, drK seat true, Try.func17, rfl, by kernel_rfl, by kernel_rfl, by kernel_rfl, by kernel_rfl, fun _ _ h => draw_sound mixed h⟩⟩
theorem ok_81 : FnOk seat 81 jacquardref6_Next := ⟨⟨Try.f18, _, drK seat true, Try.func18, rfl, by kernel_rfl, by kernel_rfl, by kernel_rfl, by kernel_rfl, fun _ _ h => draw_sound mixed h⟩⟩
theorem ok_82 : FnOk seat 82 event_Fences := ⟨⟨Try.f19, _, drK seat true, Try.func19, rfl, by kernel_rfl, by kernel_rfl, by kernel_rfl, by kernel_rfl, fun _ _ h => draw_sound mixed h⟩⟩
theorem ok_83 : FnOk seat 83 jacquardref6_Unfold := ⟨⟨Try.f20, _, drK seat true, Try.func20, rfl, by kernel_rfl, by kernel_rfl, by kernel_rfl, by kernel_rfl, fun _ _ h => draw_sound mixed h⟩⟩
theorem ok_84 : FnOk seat 84 event_Same := ⟨⟨Try.f21, _, drK seat true, Try.func21, rfl, by kernel_rfl, by kernel_rfl, by kernel_rfl, by kernel_rfl, fun _ _ h => draw_sound mixed h⟩⟩
theorem ok_85 : FnOk seat 85 jacquardref6_Reads := ⟨⟨Try.f22, _, drK seat true, Try.func22, rfl, by kernel_rfl, by kernel_rfl, by kernel_rfl, by kernel_rfl, fun _ _ h => draw_sound mixed h⟩⟩
theorem ok_86 : FnOk seat 86 jacquardref6_Writes := ⟨⟨Try.f23, _, drK seat true, Try.func23, rfl, by kernel_rfl, by kernel_rfl, by kernel_rfl, by kernel_rfl, fun _ _ h => draw_sound mixed h⟩⟩
theorem ok_87 : FnOk seat 87 jacquardref6_Fences := ⟨⟨Try.f24, _, drK seat true, Try.func24, rfl, by kernel_rfl, by kernel_rfl, by kernel_rfl, by kernel_rfl, fun _ _ h => draw_sound mixed h⟩⟩
theorem ok_88 : FnOk seat 88 event_Inits := ⟨⟨Try.f25, _, drK seat true, Try.func25, rfl, by kernel_rfl, by kernel_rfl, by kernel_rfl, by kernel_rfl, fun _ _ h => draw_sound mixed h⟩⟩
theorem ok_89 : FnOk seat 89 jacquardref6_Inits := ⟨⟨Try.f26, _, drK seat true, Try.func26, rfl, by kernel_rfl, by kernel_rfl, by kernel_rfl, by kernel_rfl, fun _ _ h => draw_sound mixed h⟩⟩
theorem ok_92 : FnOk seat 92 jacquardref6_Value := ⟨⟨Try.f31, _, drK seat true, Try.func31, rfl, by kernel_rfl, by kernel_rfl, by kernel_rfl, by kernel_rfl, fun _ _ h => draw_sound mixed h⟩⟩
theorem ok_93 : FnOk seat 93 jacquardref2_Do := ⟨⟨Try.f32, _, drK seat true, Try.func32, rfl, by kernel_rfl, by kernel_rfl, by kernel_rfl, by kernel_rfl, fun _ _ h => draw_sound mixed h⟩⟩
theorem ok_94 : FnOk seat 94 prog_Start := ⟨⟨Try.f33, _, drK seat true, Try.func33, rfl, by kernel_rfl, by kernel_rfl, by kernel_rfl, by kernel_rfl, fun _ _ h => draw_sound mixed h⟩⟩
theorem ok_97 : FnOk seat 97 jacquardlaw3_Small := ⟨⟨Try.f36, _, drK seat true, Try.func36, rfl, by kernel_rfl, by kernel_rfl, by kernel_rfl, by kernel_rfl, fun _ _ h => draw_sound mixed h⟩⟩
theorem ok_101 : FnOk seat 101 jacquardref6_Compile := ⟨⟨Try.f40, _, drK seat true, Try.func40, rfl, by kernel_rfl, by kernel_rfl, by kernel_rfl, by kernel_rfl, fun _ _ h => draw_sound mixed h⟩⟩
theorem ok_104 : FnOk seat 104 jacquardref6_Start := ⟨⟨Try.f43, _, drK seat true, Try.func43, rfl, by kernel_rfl, by kernel_rfl, by kernel_rfl, by kernel_rfl, fun _ _ h => draw_sound mixed h⟩⟩
theorem ok_105 : FnOk seat 105 prog_Next := ⟨⟨Try.f44, _, drK seat true, Try.func44, rfl, by kernel_rfl, by kernel_rfl, by kernel_rfl, by kernel_rfl, fun _ _ h => draw_sound mixed h⟩⟩
theorem ok_106 : FnOk seat 106 prog_After := ⟨⟨Try.f45, _, drK seat true, Try.func45, rfl, by kernel_rfl, by kernel_rfl, by kernel_rfl, by kernel_rfl, fun _ _ h => draw_sound mixed h⟩⟩
theorem ok_107 : FnOk seat 107 jacquardref6_After := ⟨⟨Try.f46, _, drK seat true, Try.func46, rfl, by kernel_rfl, by kernel_rfl, by kernel_rfl, by kernel_rfl, fun _ _ h => draw_sound mixed h⟩⟩
theorem ok_108 : FnOk seat 108 prog_Value := ⟨⟨Try.f47, _, drK seat true, Try.func47, rfl, by kernel_rfl, by kernel_rfl, by kernel_rfl, by kernel_rfl, fun _ _ h => draw_sound mixed h⟩⟩
theorem ok_109 : FnOk seat 109 event_Of := ⟨⟨Try.f48, _, drK seat true, Try.func48, rfl, by kernel_rfl, by kernel_rfl, by kernel_rfl, by kernel_rfl, fun _ _ h => draw_sound mixed h⟩⟩
theorem ok_110 : FnOk seat 110 jacquardref6_there := ⟨⟨Try.f49, _, drK seat true, Try.func49, rfl, by kernel_rfl, by kernel_rfl, by kernel_rfl, by kernel_rfl, fun _ _ h => draw_sound mixed h⟩⟩
theorem ok_111 : FnOk seat 111 jacquardref6_Event := ⟨⟨Try.f50, _, drK seat true, Try.func50, rfl, by kernel_rfl, by kernel_rfl, by kernel_rfl, by kernel_rfl, fun _ _ h => draw_sound mixed h⟩⟩
theorem ok_112 : FnOk seat 112 slices_Equal_sEv_Ev := ⟨⟨Try.f51, _, drK seat true, Try.func51, rfl, by kernel_rfl, by kernel_rfl, by kernel_rfl, by kernel_rfl, fun _ _ h => draw_sound mixed h⟩⟩
theorem ok_113 : FnOk seat 113 prog_thread := ⟨⟨Try.f57, _, drK seat true, Try.func57, rfl, by kernel_rfl, by kernel_rfl, by kernel_rfl, by kernel_rfl, fun _ _ h => draw_sound mixed h⟩⟩
theorem ok_114 : FnOk seat 114 prog_normal := ⟨⟨Try.f56, _, drK seat true, Try.func56, rfl, by kernel_rfl, by kernel_rfl, by kernel_rfl, by kernel_rfl, fun _ _ h => draw_sound mixed h⟩⟩
theorem ok_115 : FnOk seat 115 jacquardlaw3_Small_1 := ⟨⟨Try.f58, _, drK seat true, Try.func58, rfl, by kernel_rfl, by kernel_rfl, by kernel_rfl, by kernel_rfl, fun _ _ h => draw_sound mixed h⟩⟩
theorem ok_121 : FnOk seat 121 jacquardref2_Locs := ⟨⟨Try.f65, _, drK seat true, Try.func65, rfl, by kernel_rfl, by kernel_rfl, by kernel_rfl, by kernel_rfl, fun _ _ h => draw_sound mixed h⟩⟩
theorem ok_122 : FnOk seat 122 jacquardref6_Place := ⟨⟨Try.f66, _, drK seat true, Try.func66, rfl, by kernel_rfl, by kernel_rfl, by kernel_rfl, by kernel_rfl, fun _ _ h => draw_sound mixed h⟩⟩
theorem ok_123 : FnOk seat 123 jacquardref6_normal := ⟨⟨Try.f67, _, drK seat true, Try.func67, rfl, by kernel_rfl, by kernel_rfl, by kernel_rfl, by kernel_rfl, fun _ _ h => draw_sound mixed h⟩⟩
theorem ok_124 : FnOk seat 124 prog_set := ⟨⟨Try.f68, _, drK seat true, Try.func68, rfl, by kernel_rfl, by kernel_rfl, by kernel_rfl, by kernel_rfl, fun _ _ h => draw_sound mixed h⟩⟩
theorem ok_125 : FnOk seat 125 num_Do := ⟨⟨Try.f71, _, drK seat true, Try.func71, rfl, by kernel_rfl, by kernel_rfl, by kernel_rfl, by kernel_rfl, fun _ _ h => draw_sound mixed h⟩⟩
theorem ok_139 : FnOk seat 139 num_one := ⟨⟨Try.f86, _, drK seat true, Try.func86, rfl, by kernel_rfl, by kernel_rfl, by kernel_rfl, by kernel_rfl, fun _ _ h => draw_sound mixed h⟩⟩
theorem ok_213 : FnOk seat 213 jacquardlaw10_EventUnfolds := ⟨⟨Try.f6, _, drK seat true, Try.func6, rfl, by kernel_rfl, by kernel_rfl, by kernel_rfl, by kernel_rfl, fun _ _ h => draw_sound mixed h⟩⟩

theorem allOk : ∀ g fn, env.fn g = some fn → FnOk seat g fn := by
  intro g fn h
  unfold env envFn at h
  dsimp only at h
  split at h
  · cases h; exact ok_76
  · cases h; exact ok_77
  · cases h; exact ok_78
  · cases h; exact ok_79
  · cases h; exact ok_80
  · cases h; exact ok_81
  · cases h; exact ok_82
  · cases h; exact ok_83
  · cases h; exact ok_84
  · cases h; exact ok_85
  · cases h; exact ok_86
  · cases h; exact ok_87
  · cases h; exact ok_88
  · cases h; exact ok_89
  · cases h; exact ok_92
  · cases h; exact ok_93
  · cases h; exact ok_94
  · cases h; exact ok_97
  · cases h; exact ok_101
  · cases h; exact ok_104
  · cases h; exact ok_105
  · cases h; exact ok_106
  · cases h; exact ok_107
  · cases h; exact ok_108
  · cases h; exact ok_109
  · cases h; exact ok_110
  · cases h; exact ok_111
  · cases h; exact ok_112
  · cases h; exact ok_113
  · cases h; exact ok_114
  · cases h; exact ok_115
  · cases h; exact ok_121
  · cases h; exact ok_122
  · cases h; exact ok_123
  · cases h; exact ok_124
  · cases h; exact ok_125
  · cases h; exact ok_139
  · cases h; exact ok_213
  · cases h

theorem in_115 : jacquardlaw3_Small_1_In env := { fn := rfl }
theorem in_97 : jacquardlaw3_Small_In env := { fn := rfl, c115 := in_115 }
theorem in_121 : jacquardref2_Locs_In env := { fn := rfl }
theorem in_122 : jacquardref6_Place_In env := { fn := rfl }
theorem in_101 : jacquardref6_Compile_In env := { fn := rfl, c121 := in_121, c122 := in_122 }
theorem in_76 : jacquardlaw6_Of_In env := { fn := rfl, c97 := in_97, c101 := in_101 }
theorem in_113 : prog_thread_In env := { fn := rfl }
theorem in_108 : prog_Value_In env := { fn := rfl }
theorem in_124 : prog_set_In env := { fn := rfl }
theorem in_139 : num_one_In env := { fn := rfl }
theorem in_125 : num_Do_In env := { fn := rfl, c139 := in_139 }
theorem in_114 : prog_normal_In env := { fn := rfl, c108 := in_108, c124 := in_124, c125 := in_125 }
theorem in_94 : prog_Start_In env := { fn := rfl, c113 := in_113, c114 := in_114 }
theorem in_105 : prog_Next_In env := { fn := rfl, c113 := in_113 }
theorem in_106 : prog_After_In env := { fn := rfl, c105 := in_105, c113 := in_113, c114 := in_114, c124 := in_124 }
theorem in_109 : event_Of_In env := { fn := rfl, c108 := in_108 }
theorem in_78 : event_Unfold_In env := { fn := rfl, c94 := in_94, c105 := in_105, c106 := in_106, c109 := in_109 }
theorem in_88 : event_Inits_In env := { fn := rfl }
theorem in_77 : jacquardlaw10_awake_In env := { fn := rfl, c78 := in_78, c88 := in_88 }
theorem in_79 : event_Reads_In env := { fn := rfl }
theorem in_80 : event_Writes_In env := { fn := rfl }
theorem in_82 : event_Fences_In env := { fn := rfl }
theorem in_110 : jacquardref6_there_In env := { fn := rfl }
theorem in_81 : jacquardref6_Next_In env := { fn := rfl, c110 := in_110 }
theorem in_92 : jacquardref6_Value_In env := { fn := rfl }
theorem in_93 : jacquardref2_Do_In env := { fn := rfl }
theorem in_123 : jacquardref6_normal_In env := { fn := rfl, c92 := in_92, c93 := in_93 }
theorem in_104 : jacquardref6_Start_In env := { fn := rfl, c110 := in_110, c123 := in_123 }
theorem in_107 : jacquardref6_After_In env := { fn := rfl, c81 := in_81, c123 := in_123 }
theorem in_111 : jacquardref6_Event_In env := { fn := rfl, c92 := in_92 }
theorem in_83 : jacquardref6_Unfold_In env := { fn := rfl, c81 := in_81, c104 := in_104, c107 := in_107, c110 := in_110, c111 := in_111 }
theorem in_112 : slices_Equal_sEv_Ev_In env := { fn := rfl }
theorem in_84 : event_Same_In env := { fn := rfl, c112 := in_112 }
theorem in_85 : jacquardref6_Reads_In env := { fn := rfl }
theorem in_86 : jacquardref6_Writes_In env := { fn := rfl }
theorem in_87 : jacquardref6_Fences_In env := { fn := rfl }
theorem in_89 : jacquardref6_Inits_In env := { fn := rfl }
theorem in_213 : jacquardlaw10_EventUnfolds_In env := { fn := rfl, c76 := in_76, c77 := in_77, c78 := in_78, c79 := in_79, c80 := in_80, c82 := in_82, c83 := in_83, c84 := in_84, c85 := in_85, c86 := in_86, c87 := in_87, c88 := in_88, c89 := in_89 }

end Go.Proofs.Ytldfafaiappibaa.LEventUnfolds

namespace Jq
open Go


end Jq

/- Few numbers in one word: what the package's functions come to. -/
namespace Jq
open Go

/-- A number's bit. -/
def bitI (i : Int) : Nat := if 0 ≤ i ∧ i < 64 then 2 ^ i.toNat else 0

/-- Whether a number is in it. -/
def hasI (s : Nat) (i : Int) : Bool := decide (0 ≤ i) && s.testBit i.toNat && decide (i < 64)

variable {E : Env}

end Jq

namespace Jq
open Go


end Jq

/- Relations: what the package's functions come to. -/
namespace Jq
open Go

/-- A relation's cells: over how many, the rows. -/
def relL (n : Nat) (f : Nat → Nat) : List Cell := .int .i64 n :: (List.range 64).map fun i => .int .u64 (f i)

def updF (f : Nat → Nat) (i v : Nat) : Nat → Nat := fun j => if j = i then v else f j

def zeroL : List Cell := [Cell.int .i64 0] ++ List.replicate 64 (Cell.int .u64 0)
/-- All rows are words. -/
def Words (f : Nat → Nat) : Prop := ∀ i, f i < 2 ^ 64

/-- Numbers, brought between nought and 64. -/
def clamp (a : Int) : Nat := min a.toNat 64

variable {E : Env}

def inR (n : Nat) (a : Int) : Bool := decide (0 ≤ a) && decide (a < n)

/-- Whether a leads to b. -/
def hasR (n : Nat) (f : Nat → Nat) (a b : Int) : Bool := inR n a && hasI (f a.toNat) b

/-- A relation with a pair. -/
def addR (n : Nat) (f : Nat → Nat) (a b : Int) : Nat → Nat := if inR n a && inR n b then updF f a.toNat (f a.toNat ||| bitI b) else f

/- Closing. -/

/-- One of a round: from i by k. -/
def clS (f : Nat → Nat) (k i : Nat) : Nat → Nat := if (f i).testBit k then updF f i (f i ||| f k) else f

def cl1 (k : Nat) : Nat → (Nat → Nat) → Nat → Nat
  | 0, f => f
  | i + 1, f => clS (cl1 k i f) k i

/-- The first k rounds. -/
def clK (n : Nat) (f : Nat → Nat) : Nat → Nat → Nat
  | 0 => f
  | k + 1 => cl1 k n (clK n f k)

/-- Whether none leads to itself. -/
def acycR (n : Nat) (f : Nat → Nat) : Bool := !(List.range n).any fun i => (clK n f n i).testBit i

end Jq

/- Relations: what closing is. -/
namespace Jq

/-- A way from one to another whose stops in between are below k. -/
inductive Way (f : Nat → Nat) (k : Nat) : Nat → Nat → Prop
  | one {a b : Nat} : (f a).testBit b = true → Way f k a b
  | step {a c b : Nat} : (f a).testBit c = true → c < k → Way f k c b → Way f k a b

theorem Way.mono {f : Nat → Nat} {k m : Nat} (hkm : k ≤ m) {a b : Nat} (w : Way f k a b) : Way f m a b := by
  induction w with
  | one h => exact .one h
  | step h hc _ ih => exact .step h (by omega) ih

theorem Way.trans {f : Nat → Nat} {k a c b : Nat} (w : Way f k a c) (hc : c < k) (v : Way f k c b) : Way f k a b := by
  induction w with
  | one h => exact .step h hc v
  | step h hc' _ ih => exact .step h hc' (ih hc v)

theorem Way.succ {f : Nat → Nat} {k a b : Nat} : Way f (k + 1) a b ↔ Way f k a b ∨ (Way f k a k ∧ Way f k k b) := by
  constructor
  · intro w
    induction w with
    | one h => exact .inl (.one h)
    | step h hc _ ih =>
      rcases Nat.lt_or_ge _ k with hk | hk
      · rcases ih with ih | ⟨i1, i2⟩
        · exact .inl (.step h hk ih)
        · exact .inr ⟨.step h hk i1, i2⟩
      · have : _ = k := Nat.le_antisymm (Nat.lt_succ_iff.1 hc) hk
        subst this
        rcases ih with ih | ⟨_, i2⟩
        · exact .inr ⟨.one h, ih⟩
        · exact .inr ⟨.one h, i2⟩
  · rintro (w | ⟨w1, w2⟩)
    · exact w.mono (by omega)
    · exact (w1.mono (by omega)).trans (Nat.lt_succ_self k) (w2.mono (by omega))

end Jq

namespace Jq
open Go


end Jq

namespace Jq
open Go

/- jacquard/jacquardref6.Next: 81 -/
set_option maxRecDepth 100000 in
theorem jacquardref6_Next_eq (C : CallF) (L : LoopF) (G : Glo) (l0 : List Cell) (a1 : Int) (l2 : List Cell) (h0 : AHeap) :
    jacquardref6_Next.body C L G [(.agg l0), (.c (.int .i64 a1)), (.agg l2)] h0 =
    if 0 = 0 ∧ l0.length = 3 then c1 (qh h0 (C 110 [(.agg l0), (.c (.int .i64 a1))] h0)) fun y_2 h_1 => asB y_2 fun b_3 => scK (!b_3) false (atK l2 0 fun q_4 => asI .i64 (.c q_4) fun n_5 => some ((decide (n_5 < 0)), h0)) true h0 fun b_6 h_7 => scK b_6 false (atK l2 0 fun q_8 => asI .i64 (.c q_8) fun n_9 => atK l0 2 fun q_10 => idxSK 1 q_10 a1 fun k_11 N_12 o_13 => rdH h_7 k_11 N_12 fun l_14 => atK l_14 o_13 fun q_15 => lenK q_15 fun n_16 => some ((decide (n_9 ≥ n_16)), h_7)) true h_7 fun b_17 h_18 => if b_17 = true then if 0 = 0 ∧ (List.replicate 9 (Cell.int .i64 0)).length = 9 ∧ (List.replicate 9 (Cell.int .i64 0)).length = 9 then if 0 = 0 ∧ (List.replicate 9 (Cell.int .i64 0)).length = 9 then some ([(.agg (List.replicate 9 (Cell.int .i64 0))), (.c (.bool false))], h_18) else none else none else atK l0 2 fun q_19 => idxSK 1 q_19 a1 fun k_20 N_21 o_22 => rdH h_18 k_20 N_21 fun l_23 => atK l_23 o_22 fun q_24 => atK l2 0 fun q_25 => asI .i64 (.c q_25) fun n_26 => idxSK 9 q_24 n_26 fun k_27 N_28 o_29 => rdH h_18 k_27 N_28 fun l_30 => if o_29 + 9 ≤ l_30.length then if 0 = 0 ∧ (List.replicate 9 (Cell.int .i64 0)).length = 9 ∧ ((l_30.drop o_29).take 9).length = 9 then atK ((l_30.drop o_29).take 9) 0 fun q_31 => asI .i64 (.c q_31) fun n_32 => scK (n_32 == 5) false (atK ((l_30.drop o_29).take 9) 0 fun q_33 => asI .i64 (.c q_33) fun n_34 => some ((n_34 == 6), h_18)) true h_18 fun b_35 h_36 => if b_35 = true then if 0 = 0 ∧ (List.replicate 9 (Cell.int .i64 0)).length = 9 ∧ (List.replicate 9 (Cell.int .i64 0)).length = 9 then if 0 = 0 ∧ (List.replicate 9 (Cell.int .i64 0)).length = 9 then some ([(.agg (List.replicate 9 (Cell.int .i64 0))), (.c (.bool false))], h_36) else none else none else if 0 = 0 ∧ ((l_30.drop o_29).take 9).length = 9 then if 0 = 0 ∧ (List.replicate 9 (Cell.int .i64 0)).length = 9 ∧ ((l_30.drop o_29).take 9).length = 9 then if 0 = 0 ∧ ((l_30.drop o_29).take 9).length = 9 then some ([(.agg ((l_30.drop o_29).take 9)), (.c (.bool true))], h_36) else none else none else none else none else none else none := by kernel_rfl

/- jacquard/jacquardref6.Unfold: 83 -/
def jacquardref6_Unfold_k2 (C : CallF) (L : LoopF) (G : Glo) (h0 : AHeap) : Ex → St → Option (List AV × AHeap) :=
  kBlk 0 (jacquardref6_Unfold.fin G h0)
def jacquardref6_Unfold_s1 (a1 : Int) (x2 : Cell) (x10 : Cell) (a11 : Int) (s0 : List Cell) (s1 : List Cell) (s2 : List Cell) (h : AHeap) : St := ⟨[.top, .v (.c (.int .i64 a1)), .v (.c x2), .loc 0 0, .top, .top, .top, .loc 1 0, .top, .loc 2 0, .v (.c x10), .v (.c (.int .i64 a11)), .top, .top, .top, .top, .top, .top, .top, .top, .top, .top, .top, .top, .top, .top, .top, .top, .top, .top, .top, .top, .top, .top, .top, .top, .top, .top, .top, .top, .top, .top, .top, .top, .top, .top, .top, .top, .top, .top, .top, .top, .top, .top, .top, .top, .top, .top, .top, .top, .top, .top, .top, .top, .top, .top, .top, .top, .top, .top, .top, .top, .top], [some s0, some s1, some s2, none, none], h⟩
def jacquardref6_Unfold_F1 (C : CallF) (L : LoopF) (G : Glo) : St → Option (Ex × St) :=
  roundF (fun st f => jacquardref6_Unfold_b1.exec C L G st f) [1, 2, 3, 7, 9, 10, 11] [0, 1, 2] [(0, [6, 7, 8], [1])]
def jacquardref6_Unfold_x1_0 (x6 : Cell) (b8 : Bool) (s1 : List Cell) (h : AHeap) : St := ⟨[.top, .top, .top, .top, .top, .top, .v (.c x6), .loc 1 0, .v (.c (.bool b8)), .top, .top, .top, .top, .top, .top, .top, .top, .top, .top, .top, .top, .top, .top, .top, .top, .top, .top, .top, .top, .top, .top, .top, .top, .top, .top, .top, .top, .top, .top, .top, .top, .top, .top, .top, .top, .top, .top, .top, .top, .top, .top, .top, .top, .top, .top, .top, .top, .top, .top, .top, .top, .top, .top, .top, .top, .top, .top, .top, .top, .top, .top, .top, .top], [none, some s1, none, none, none], h⟩
theorem jacquardref6_Unfold_r1 (C : CallF) (L : LoopF) (G : Glo) (a1 : Int) (x2 : Cell) (x10 : Cell) (a11 : Int) (s0 : List Cell) (s1 : List Cell) (s2 : List Cell) (h : AHeap) :
    jacquardref6_Unfold_F1 C L G (jacquardref6_Unfold_s1 a1 x2 x10 a11 s0 s1 s2 h) =
    if 0 = 0 ∧ s0.length = 3 then if 0 = 0 ∧ s2.length = 5 then c2 (C 81 [(.agg s0), (.c (.int .i64 a1)), (.agg s2)] h) fun y_8 y_9 h_7 => asA y_8 fun l_10 => asB y_9 fun b_11 => if 0 = 0 ∧ (List.replicate 9 (Cell.int .i64 0)).length = 9 ∧ l_10.length = 9 then if (!b_11) = true then if 0 = 0 ∧ s2.length = 5 then if 0 = 0 ∧ s1.length = 5 ∧ s2.length = 5 then some (.ret, (jacquardref6_Unfold_x1_0 x10 false s2 h_7)) else none else none else atK l_10 0 fun q_12 => asI .i64 (.c q_12) fun n_13 => scK (n_13 == 2) false (atK l_10 0 fun q_14 => asI .i64 (.c q_14) fun n_15 => some ((n_15 == 4), h_7)) true h_7 fun b_16 h_17 => if b_16 = true then lenK x2 fun n_18 => if (a11 == n_18) = true then if 0 = 0 ∧ s2.length = 5 then if 0 = 0 ∧ s1.length = 5 ∧ s2.length = 5 then some (.ret, (jacquardref6_Unfold_x1_0 x10 true s2 h_17)) else none else none else idxSK 1 x2 a11 fun k_19 N_20 o_21 => rdH h_17 k_19 N_20 fun l_22 => atK l_22 o_21 fun q_23 => asI .i64 (.c q_23) fun n_24 => if 0 = 0 ∧ l_10.length = 9 then if 0 = 0 ∧ s2.length = 5 then c1 (C 111 [(.agg l_10), (.agg s2), (.c (.int .i64 n_24))] h_17) fun y_26 h_25 => asA y_26 fun l_27 => if 0 = 0 ∧ [Cell.int .i64 0, Cell.int .i64 0, Cell.int .i64 0, Cell.int .i64 0, Cell.int .i64 0, Cell.int .i64 0].length = 6 ∧ l_27.length = 6 then lenK x10 fun n_28 => if 0 < l_27.length then if 1 < (l_27.set 0 (.int .i64 a1)).length then if 0 = 0 ∧ ((l_27.set 0 (.int .i64 a1)).set 1 (.int .i64 n_28)).length = 6 then if ((l_27.set 0 (.int .i64 a1)).set 1 (.int .i64 n_28)).length = 6 ∧ 0 + 6 ≤ [Cell.int .i64 0, Cell.int .i64 0, Cell.int .i64 0, Cell.int .i64 0, Cell.int .i64 0, Cell.int .i64 0].length then if (splice [Cell.int .i64 0, Cell.int .i64 0, Cell.int .i64 0, Cell.int .i64 0, Cell.int .i64 0, Cell.int .i64 0] 0 ((l_27.set 0 (.int .i64 a1)).set 1 (.int .i64 n_28))).length = 1 * 6 then appK 6 48 x10 (splice [Cell.int .i64 0, Cell.int .i64 0, Cell.int .i64 0, Cell.int .i64 0, Cell.int .i64 0, Cell.int .i64 0] 0 ((l_27.set 0 (.int .i64 a1)).set 1 (.int .i64 n_28))) h_25 fun x_29 h_30 => if 0 = 0 ∧ s0.length = 3 then if 0 = 0 ∧ s2.length = 5 then c1 (C 107 [(.agg s0), (.c (.int .i64 a1)), (.agg s2), (.c (.int .i64 n_24))] h_30) fun y_32 h_31 => asA y_32 fun l_33 => if 0 = 0 ∧ s2.length = 5 ∧ l_33.length = 5 then some (.normal, (jacquardref6_Unfold_s1 a1 x2 x_29 (G.wrap .i64 (a11 + 1)) s0 s1 l_33 h_31)) else none else none else none else none else none else none else none else none else none else none else none else if 0 = 0 ∧ l_10.length = 9 then if 0 = 0 ∧ s2.length = 5 then c1 (C 111 [(.agg l_10), (.agg s2), (.c (.int .i64 0))] h_17) fun y_35 h_34 => asA y_35 fun l_36 => if 0 = 0 ∧ [Cell.int .i64 0, Cell.int .i64 0, Cell.int .i64 0, Cell.int .i64 0, Cell.int .i64 0, Cell.int .i64 0].length = 6 ∧ l_36.length = 6 then lenK x10 fun n_37 => if 0 < l_36.length then if 1 < (l_36.set 0 (.int .i64 a1)).length then if 0 = 0 ∧ ((l_36.set 0 (.int .i64 a1)).set 1 (.int .i64 n_37)).length = 6 then if ((l_36.set 0 (.int .i64 a1)).set 1 (.int .i64 n_37)).length = 6 ∧ 0 + 6 ≤ [Cell.int .i64 0, Cell.int .i64 0, Cell.int .i64 0, Cell.int .i64 0, Cell.int .i64 0, Cell.int .i64 0].length then if (splice [Cell.int .i64 0, Cell.int .i64 0, Cell.int .i64 0, Cell.int .i64 0, Cell.int .i64 0, Cell.int .i64 0] 0 ((l_36.set 0 (.int .i64 a1)).set 1 (.int .i64 n_37))).length = 1 * 6 then appK 6 48 x10 (splice [Cell.int .i64 0, Cell.int .i64 0, Cell.int .i64 0, Cell.int .i64 0, Cell.int .i64 0, Cell.int .i64 0] 0 ((l_36.set 0 (.int .i64 a1)).set 1 (.int .i64 n_37))) h_34 fun x_38 h_39 => if 0 = 0 ∧ s0.length = 3 then if 0 = 0 ∧ s2.length = 5 then c1 (C 107 [(.agg s0), (.c (.int .i64 a1)), (.agg s2), (.c (.int .i64 0))] h_39) fun y_41 h_40 => asA y_41 fun l_42 => if 0 = 0 ∧ s2.length = 5 ∧ l_42.length = 5 then some (.normal, (jacquardref6_Unfold_s1 a1 x2 x_38 a11 s0 s1 l_42 h_40)) else none else none else none else none else none else none else none else none else none else none else none else none else none else none := by kernel_rfl
theorem jacquardref6_Unfold_e1_0 (C : CallF) (L : LoopF) (G : Glo) (h0 : AHeap) (x6 : Cell) (b8 : Bool) (s1 : List Cell) (h : AHeap) :
    (jacquardref6_Unfold_k2 C L G h0) .ret (jacquardref6_Unfold_x1_0 x6 b8 s1 h) =
    if 0 = 0 ∧ s1.length = 5 then some ([(.c x6), (.agg s1), (.c (.bool b8))], h) else none := by kernel_rfl
set_option maxRecDepth 100000 in
theorem jacquardref6_Unfold_eq (C : CallF) (L : LoopF) (G : Glo) (l0 : List Cell) (a1 : Int) (x2 : Cell) (h0 : AHeap) :
    jacquardref6_Unfold.body C L G [(.agg l0), (.c (.int .i64 a1)), (.c x2)] h0 =
    if 0 = 0 ∧ l0.length = 3 then c1 (C 110 [(.agg l0), (.c (.int .i64 a1))] h0) fun y_2 h_1 => asB y_2 fun b_3 => if (!b_3) = true then if 0 = 0 ∧ [Cell.int .i64 0, Cell.int .i64 0, Cell.int .i64 0, Cell.int .i64 0, Cell.int .i64 0].length = 5 ∧ [Cell.int .i64 0, Cell.int .i64 0, Cell.int .i64 0, Cell.int .i64 0, Cell.int .i64 0].length = 5 then if 0 = 0 ∧ [Cell.int .i64 0, Cell.int .i64 0, Cell.int .i64 0, Cell.int .i64 0, Cell.int .i64 0].length = 5 then some ([(.c .nils), (.agg [Cell.int .i64 0, Cell.int .i64 0, Cell.int .i64 0, Cell.int .i64 0, Cell.int .i64 0]), (.c (.bool false))], h_1) else none else none else if 0 = 0 ∧ l0.length = 3 then c1 (C 104 [(.agg l0), (.c (.int .i64 a1))] h_1) fun y_5 h_4 => asA y_5 fun l_6 => if 0 = 0 ∧ [Cell.int .i64 0, Cell.int .i64 0, Cell.int .i64 0, Cell.int .i64 0, Cell.int .i64 0].length = 5 ∧ l_6.length = 5 then (L (jacquardref6_Unfold_F1 C L G) (jacquardref6_Unfold_s1 a1 x2 .nils 0 l0 [Cell.int .i64 0, Cell.int .i64 0, Cell.int .i64 0, Cell.int .i64 0, Cell.int .i64 0] l_6 h_4)).bind fun p_43 => (jacquardref6_Unfold_k2 C L G h0) p_43.1 p_43.2 else none else none else none := by kernel_rfl

/- jacquard/jacquardref6.Reads: 85 -/
set_option maxRecDepth 100000 in
theorem jacquardref6_Reads_eq (C : CallF) (L : LoopF) (G : Glo) (l0 : List Cell) (h0 : AHeap) :
    jacquardref6_Reads.body C L G [(.agg l0)] h0 =
    atK l0 2 fun q_1 => asI .i64 (.c q_1) fun n_2 => scK (n_2 == 1) false (atK l0 2 fun q_3 => asI .i64 (.c q_3) fun n_4 => some ((n_4 == 4), h0)) true h0 fun b_5 h_6 => scK b_5 false (atK l0 2 fun q_7 => asI .i64 (.c q_7) fun n_8 => some ((n_8 == 5), h_6)) true h_6 fun b_9 h_10 => some ([(.c (.bool b_9))], h_10) := by kernel_rfl

/- jacquard/jacquardref6.Writes: 86 -/
set_option maxRecDepth 100000 in
theorem jacquardref6_Writes_eq (C : CallF) (L : LoopF) (G : Glo) (l0 : List Cell) (h0 : AHeap) :
    jacquardref6_Writes.body C L G [(.agg l0)] h0 =
    atK l0 2 fun q_1 => asI .i64 (.c q_1) fun n_2 => scK (n_2 == 2) false (atK l0 2 fun q_3 => asI .i64 (.c q_3) fun n_4 => some ((n_4 == 4), h0)) true h0 fun b_5 h_6 => some ([(.c (.bool b_5))], h_6) := by kernel_rfl

/- jacquard/jacquardref6.Fences: 87 -/
set_option maxRecDepth 100000 in
theorem jacquardref6_Fences_eq (C : CallF) (L : LoopF) (G : Glo) (l0 : List Cell) (h0 : AHeap) :
    jacquardref6_Fences.body C L G [(.agg l0)] h0 =
    atK l0 2 fun q_1 => asI .i64 (.c q_1) fun n_2 => scK (n_2 == 3) false (atK l0 2 fun q_3 => asI .i64 (.c q_3) fun n_4 => some ((n_4 == 4), h0)) true h0 fun b_5 h_6 => scK b_5 false (atK l0 2 fun q_7 => asI .i64 (.c q_7) fun n_8 => some ((n_8 == 5), h_6)) true h_6 fun b_9 h_10 => some ([(.c (.bool b_9))], h_10) := by kernel_rfl

/- jacquard/jacquardref6.Inits: 89 -/
def jacquardref6_Inits_k2 (C : CallF) (L : LoopF) (G : Glo) (h0 : AHeap) : Ex → St → Option (List AV × AHeap) :=
  kSeq (fun st => jacquardref6_Inits_p1.exec C L G st (jacquardref6_Inits.fin G h0)) (jacquardref6_Inits.fin G h0)
def jacquardref6_Inits_k3 (C : CallF) (L : LoopF) (G : Glo) (h0 : AHeap) : Ex → St → Option (List AV × AHeap) :=
  kBlk 0 (jacquardref6_Inits_k2 C L G h0)
def jacquardref6_Inits_s1 (x3 : Cell) (a4 : Int) (s0 : List Cell) (h : AHeap) : St := ⟨[.top, .loc 0 0, .top, .v (.c x3), .v (.c (.int .i64 a4)), .top, .top, .top, .top, .top, .top, .top, .top, .top, .top, .top, .top, .top, .top, .top, .top, .top, .top, .top], [some s0], h⟩
def jacquardref6_Inits_F1 (C : CallF) (L : LoopF) (G : Glo) : St → Option (Ex × St) :=
  roundF (fun st f => jacquardref6_Inits_b1.exec C L G st f) [1, 3, 4] [0] [(1, [3], [])]
def jacquardref6_Inits_x1_1 (x3 : Cell) (h : AHeap) : St := ⟨[.top, .top, .top, .v (.c x3), .top, .top, .top, .top, .top, .top, .top, .top, .top, .top, .top, .top, .top, .top, .top, .top, .top, .top, .top, .top], [none], h⟩
theorem jacquardref6_Inits_r1 (C : CallF) (L : LoopF) (G : Glo) (x3 : Cell) (a4 : Int) (s0 : List Cell) (h : AHeap) :
    jacquardref6_Inits_F1 C L G (jacquardref6_Inits_s1 x3 a4 s0 h) =
    atK s0 0 fun q_1 => lenK q_1 fun n_2 => if (decide (a4 < n_2)) = true then atK s0 1 fun q_3 => idxSK 1 q_3 a4 fun k_4 N_5 o_6 => rdH h k_4 N_5 fun l_7 => atK l_7 o_6 fun q_8 => asI .i64 (.c q_8) fun n_9 => if (splice (splice (splice (splice (splice [Cell.int .i64 0, Cell.int .i64 0, Cell.int .i64 0, Cell.int .i64 0, Cell.int .i64 0, Cell.int .i64 0] 0 ([(.int .i64 (-1))] : List Cell)) 1 ([(.int .i64 a4)] : List Cell)) 2 ([(.int .i64 2)] : List Cell)) 3 ([(.int .i64 a4)] : List Cell)) 5 ([(.int .i64 n_9)] : List Cell)).length = 6 ∧ 0 + 6 ≤ [Cell.int .i64 0, Cell.int .i64 0, Cell.int .i64 0, Cell.int .i64 0, Cell.int .i64 0, Cell.int .i64 0].length then if (splice [Cell.int .i64 0, Cell.int .i64 0, Cell.int .i64 0, Cell.int .i64 0, Cell.int .i64 0, Cell.int .i64 0] 0 (splice (splice (splice (splice (splice [Cell.int .i64 0, Cell.int .i64 0, Cell.int .i64 0, Cell.int .i64 0, Cell.int .i64 0, Cell.int .i64 0] 0 ([(.int .i64 (-1))] : List Cell)) 1 ([(.int .i64 a4)] : List Cell)) 2 ([(.int .i64 2)] : List Cell)) 3 ([(.int .i64 a4)] : List Cell)) 5 ([(.int .i64 n_9)] : List Cell))).length = 1 * 6 then appK 6 48 x3 (splice [Cell.int .i64 0, Cell.int .i64 0, Cell.int .i64 0, Cell.int .i64 0, Cell.int .i64 0, Cell.int .i64 0] 0 (splice (splice (splice (splice (splice [Cell.int .i64 0, Cell.int .i64 0, Cell.int .i64 0, Cell.int .i64 0, Cell.int .i64 0, Cell.int .i64 0] 0 ([(.int .i64 (-1))] : List Cell)) 1 ([(.int .i64 a4)] : List Cell)) 2 ([(.int .i64 2)] : List Cell)) 3 ([(.int .i64 a4)] : List Cell)) 5 ([(.int .i64 n_9)] : List Cell))) h fun x_10 h_11 => some (.normal, (jacquardref6_Inits_s1 x_10 (G.wrap .i64 (a4 + 1)) s0 h_11)) else none else none else some ((.exit 0), (jacquardref6_Inits_x1_1 x3 h)) := by kernel_rfl
theorem jacquardref6_Inits_e1_1 (C : CallF) (L : LoopF) (G : Glo) (h0 : AHeap) (x3 : Cell) (h : AHeap) :
    (jacquardref6_Inits_k3 C L G h0) (.exit 0) (jacquardref6_Inits_x1_1 x3 h) =
    some ([(.c x3)], h) := by kernel_rfl
set_option maxRecDepth 100000 in
theorem jacquardref6_Inits_eq (C : CallF) (L : LoopF) (G : Glo) (l0 : List Cell) (h0 : AHeap) :
    jacquardref6_Inits.body C L G [(.agg l0)] h0 =
    (L (jacquardref6_Inits_F1 C L G) (jacquardref6_Inits_s1 .nils 0 l0 h0)).bind fun p_12 => (jacquardref6_Inits_k3 C L G h0) p_12.1 p_12.2 := by kernel_rfl

/- jacquard/jacquardref6.Value: 92 -/
set_option maxRecDepth 100000 in
theorem jacquardref6_Value_eq (C : CallF) (L : LoopF) (G : Glo) (l0 : List Cell) (l1 : List Cell) (h0 : AHeap) :
    jacquardref6_Value.body C L G [(.agg l0), (.agg l1)] h0 =
    atK l0 0 fun q_1 => asI .i64 (.c q_1) fun n_2 => scK (decide (n_2 ≥ 0)) true (atK l0 0 fun q_3 => asI .i64 (.c q_3) fun n_4 => some ((decide (n_4 ≤ 3)), h0)) false h0 fun b_5 h_6 => if b_5 = true then atK l0 0 fun q_7 => asI .i64 (.c q_7) fun n_8 => if 0 ≤ n_8 ∧ n_8 < ((4 : Nat) : Int) then atK l1 (1 + ((Int.toNat n_8) * 1)) fun q_9 => asI .i64 (.c q_9) fun n_10 => some ([(.c (.int .i64 n_10))], h_6) else none else atK l0 1 fun q_11 => asI .i64 (.c q_11) fun n_12 => some ([(.c (.int .i64 n_12))], h_6) := by kernel_rfl

/- jacquard/jacquardref6.Compile: 101 -/
def jacquardref6_Compile_k2 (C : CallF) (L : LoopF) (G : Glo) (h0 : AHeap) : Ex → St → Option (List AV × AHeap) :=
  kSeq (fun st => jacquardref6_Compile_p1.exec C L G st (jacquardref6_Compile.fin G h0)) (jacquardref6_Compile.fin G h0)
def jacquardref6_Compile_k3 (C : CallF) (L : LoopF) (G : Glo) (h0 : AHeap) : Ex → St → Option (List AV × AHeap) :=
  kBlk 0 (jacquardref6_Compile_k2 C L G h0)
def jacquardref6_Compile_s2 (a4 : Int) (s0 : List Cell) (s1 : List Cell) (s2 : List Cell) (h : AHeap) : St := ⟨[.top, .loc 0 0, .loc 1 0, .loc 2 0, .v (.c (.int .i64 a4)), .top, .top, .top, .top, .top, .top, .top, .top, .top, .top, .top, .top, .top, .top, .top, .top, .top, .top, .top, .top, .top, .top, .top, .top, .top, .top, .top, .top, .top, .top, .top, .top, .top, .top, .top, .top, .top, .top, .top, .top, .top, .top, .top, .top, .top, .top, .top, .top, .top, .top, .top, .top, .top, .top, .top, .top, .top, .top, .top, .top, .top, .top, .top, .top, .top, .top, .top, .top, .top, .top, .top, .top, .top, .top, .top, .top, .top, .top, .top, .top, .top, .top, .top, .top, .top, .top, .top, .top, .top, .top, .top, .top], [some s0, some s1, some s2, none], h⟩
def jacquardref6_Compile_F2 (C : CallF) (L : LoopF) (G : Glo) : St → Option (Ex × St) :=
  roundF (fun st f => jacquardref6_Compile_b2.exec C L G st f) [1, 2, 3, 4] [0, 1, 2] [(1, [1, 2, 3], [0, 1, 2])]
def jacquardref6_Compile_k4 (C : CallF) (L : LoopF) (G : Glo) : Ex → St → Option (Ex × St) :=
  kSeq (fun st => jacquardref6_Compile_p2.exec C L G st (kLoop [1, 2, 3, 4] [0, 1, 2] [(1, [1, 2, 3], [0, 1, 2])])) (kLoop [1, 2, 3, 4] [0, 1, 2] [(1, [1, 2, 3], [0, 1, 2])])
def jacquardref6_Compile_k5 (C : CallF) (L : LoopF) (G : Glo) : Ex → St → Option (Ex × St) :=
  kBlk 1 (jacquardref6_Compile_k4 C L G)
def jacquardref6_Compile_k6 (C : CallF) (L : LoopF) (G : Glo) : Ex → St → Option (Ex × St) :=
  kSeq (fun st => jacquardref6_Compile_p3.exec C L G st (jacquardref6_Compile_k5 C L G)) (jacquardref6_Compile_k5 C L G)
def jacquardref6_Compile_k7 (C : CallF) (L : LoopF) (G : Glo) : Ex → St → Option (Ex × St) :=
  kBlk 2 (jacquardref6_Compile_k6 C L G)
def jacquardref6_Compile_s1 (a4 : Int) (a5 : Int) (a6 : Int) (s0 : List Cell) (s1 : List Cell) (s2 : List Cell) (h : AHeap) : St := ⟨[.top, .loc 0 0, .loc 1 0, .loc 2 0, .v (.c (.int .i64 a4)), .v (.c (.int .i64 a5)), .v (.c (.int .i64 a6)), .top, .top, .top, .top, .top, .top, .top, .top, .top, .top, .top, .top, .top, .top, .top, .top, .top, .top, .top, .top, .top, .top, .top, .top, .top, .top, .top, .top, .top, .top, .top, .top, .top, .top, .top, .top, .top, .top, .top, .top, .top, .top, .top, .top, .top, .top, .top, .top, .top, .top, .top, .top, .top, .top, .top, .top, .top, .top, .top, .top, .top, .top, .top, .top, .top, .top, .top, .top, .top, .top, .top, .top, .top, .top, .top, .top, .top, .top, .top, .top, .top, .top, .top, .top, .top, .top, .top, .top, .top, .top], [some s0, some s1, some s2, none], h⟩
def jacquardref6_Compile_F1 (C : CallF) (L : LoopF) (G : Glo) : St → Option (Ex × St) :=
  roundF (fun st f => jacquardref6_Compile_b1.exec C L G st f) [1, 2, 3, 4, 5, 6] [0, 1, 2] [(3, [1, 2, 3, 4, 5], [0, 1, 2])]
def jacquardref6_Compile_x1_3 (a4 : Int) (a5 : Int) (s0 : List Cell) (s1 : List Cell) (s2 : List Cell) (h : AHeap) : St := ⟨[.top, .loc 0 0, .loc 1 0, .loc 2 0, .v (.c (.int .i64 a4)), .v (.c (.int .i64 a5)), .top, .top, .top, .top, .top, .top, .top, .top, .top, .top, .top, .top, .top, .top, .top, .top, .top, .top, .top, .top, .top, .top, .top, .top, .top, .top, .top, .top, .top, .top, .top, .top, .top, .top, .top, .top, .top, .top, .top, .top, .top, .top, .top, .top, .top, .top, .top, .top, .top, .top, .top, .top, .top, .top, .top, .top, .top, .top, .top, .top, .top, .top, .top, .top, .top, .top, .top, .top, .top, .top, .top, .top, .top, .top, .top, .top, .top, .top, .top, .top, .top, .top, .top, .top, .top, .top, .top, .top, .top, .top, .top], [some s0, some s1, some s2, none], h⟩
def jacquardref6_Compile_x2_1 (s0 : List Cell) (s1 : List Cell) (s2 : List Cell) (h : AHeap) : St := ⟨[.top, .loc 0 0, .loc 1 0, .loc 2 0, .top, .top, .top, .top, .top, .top, .top, .top, .top, .top, .top, .top, .top, .top, .top, .top, .top, .top, .top, .top, .top, .top, .top, .top, .top, .top, .top, .top, .top, .top, .top, .top, .top, .top, .top, .top, .top, .top, .top, .top, .top, .top, .top, .top, .top, .top, .top, .top, .top, .top, .top, .top, .top, .top, .top, .top, .top, .top, .top, .top, .top, .top, .top, .top, .top, .top, .top, .top, .top, .top, .top, .top, .top, .top, .top, .top, .top, .top, .top, .top, .top, .top, .top, .top, .top, .top, .top, .top, .top, .top, .top, .top, .top], [some s0, some s1, some s2, none], h⟩
def jacquardref6_Compile_k8 (C : CallF) (L : LoopF) (G : Glo) (h0 : AHeap) : Ex → St → Option (List AV × AHeap) :=
  kSeq (fun st => jacquardref6_Compile_p4.exec C L G st (jacquardref6_Compile.fin G h0)) (jacquardref6_Compile.fin G h0)
def jacquardref6_Compile_k9 (C : CallF) (L : LoopF) (G : Glo) (h0 : AHeap) : Ex → St → Option (List AV × AHeap) :=
  kBlk 4 (jacquardref6_Compile_k8 C L G h0)
def jacquardref6_Compile_s4 (a7 : Int) (s0 : List Cell) (s1 : List Cell) (s2 : List Cell) (h : AHeap) : St := ⟨[.top, .loc 0 0, .loc 1 0, .loc 2 0, .top, .top, .top, .v (.c (.int .i64 a7)), .top, .top, .top, .top, .top, .top, .top, .top, .top, .top, .top, .top, .top, .top, .top, .top, .top, .top, .top, .top, .top, .top, .top, .top, .top, .top, .top, .top, .top, .top, .top, .top, .top, .top, .top, .top, .top, .top, .top, .top, .top, .top, .top, .top, .top, .top, .top, .top, .top, .top, .top, .top, .top, .top, .top, .top, .top, .top, .top, .top, .top, .top, .top, .top, .top, .top, .top, .top, .top, .top, .top, .top, .top, .top, .top, .top, .top, .top, .top, .top, .top, .top, .top, .top, .top, .top, .top, .top, .top], [some s0, some s1, some s2, none], h⟩
def jacquardref6_Compile_F4 (C : CallF) (L : LoopF) (G : Glo) : St → Option (Ex × St) :=
  roundF (fun st f => jacquardref6_Compile_b4.exec C L G st f) [1, 2, 3, 7] [0, 1, 2] [(5, [2, 3], [1, 2])]
def jacquardref6_Compile_k10 (C : CallF) (L : LoopF) (G : Glo) : Ex → St → Option (Ex × St) :=
  kSeq (fun st => jacquardref6_Compile_p5.exec C L G st (kLoop [1, 2, 3, 7] [0, 1, 2] [(5, [2, 3], [1, 2])])) (kLoop [1, 2, 3, 7] [0, 1, 2] [(5, [2, 3], [1, 2])])
def jacquardref6_Compile_k11 (C : CallF) (L : LoopF) (G : Glo) : Ex → St → Option (Ex × St) :=
  kBlk 5 (jacquardref6_Compile_k10 C L G)
def jacquardref6_Compile_k12 (C : CallF) (L : LoopF) (G : Glo) : Ex → St → Option (Ex × St) :=
  kSeq (fun st => jacquardref6_Compile_p6.exec C L G st (jacquardref6_Compile_k11 C L G)) (jacquardref6_Compile_k11 C L G)
def jacquardref6_Compile_k13 (C : CallF) (L : LoopF) (G : Glo) : Ex → St → Option (Ex × St) :=
  kBlk 6 (jacquardref6_Compile_k12 C L G)
def jacquardref6_Compile_s3 (a7 : Int) (x8 : Cell) (a9 : Int) (s0 : List Cell) (s1 : List Cell) (s2 : List Cell) (h : AHeap) : St := ⟨[.top, .loc 0 0, .loc 1 0, .loc 2 0, .top, .top, .top, .v (.c (.int .i64 a7)), .v (.c x8), .v (.c (.int .i64 a9)), .top, .top, .top, .top, .top, .top, .top, .top, .top, .top, .top, .top, .top, .top, .top, .top, .top, .top, .top, .top, .top, .top, .top, .top, .top, .top, .top, .top, .top, .top, .top, .top, .top, .top, .top, .top, .top, .top, .top, .top, .top, .top, .top, .top, .top, .top, .top, .top, .top, .top, .top, .top, .top, .top, .top, .top, .top, .top, .top, .top, .top, .top, .top, .top, .top, .top, .top, .top, .top, .top, .top, .top, .top, .top, .top, .top, .top, .top, .top, .top, .top, .top, .top, .top, .top, .top, .top], [some s0, some s1, some s2, none], h⟩
def jacquardref6_Compile_F3 (C : CallF) (L : LoopF) (G : Glo) : St → Option (Ex × St) :=
  roundF (fun st f => jacquardref6_Compile_b3.exec C L G st f) [1, 2, 3, 7, 8, 9] [0, 1, 2] [(7, [1, 2, 3, 7, 8], [0, 1, 2])]
def jacquardref6_Compile_x3_7 (a7 : Int) (x8 : Cell) (s0 : List Cell) (s1 : List Cell) (s2 : List Cell) (h : AHeap) : St := ⟨[.top, .loc 0 0, .loc 1 0, .loc 2 0, .top, .top, .top, .v (.c (.int .i64 a7)), .v (.c x8), .top, .top, .top, .top, .top, .top, .top, .top, .top, .top, .top, .top, .top, .top, .top, .top, .top, .top, .top, .top, .top, .top, .top, .top, .top, .top, .top, .top, .top, .top, .top, .top, .top, .top, .top, .top, .top, .top, .top, .top, .top, .top, .top, .top, .top, .top, .top, .top, .top, .top, .top, .top, .top, .top, .top, .top, .top, .top, .top, .top, .top, .top, .top, .top, .top, .top, .top, .top, .top, .top, .top, .top, .top, .top, .top, .top, .top, .top, .top, .top, .top, .top, .top, .top, .top, .top, .top, .top], [some s0, some s1, some s2, none], h⟩
def jacquardref6_Compile_x4_5 (s1 : List Cell) (s2 : List Cell) (h : AHeap) : St := ⟨[.top, .top, .loc 1 0, .loc 2 0, .top, .top, .top, .top, .top, .top, .top, .top, .top, .top, .top, .top, .top, .top, .top, .top, .top, .top, .top, .top, .top, .top, .top, .top, .top, .top, .top, .top, .top, .top, .top, .top, .top, .top, .top, .top, .top, .top, .top, .top, .top, .top, .top, .top, .top, .top, .top, .top, .top, .top, .top, .top, .top, .top, .top, .top, .top, .top, .top, .top, .top, .top, .top, .top, .top, .top, .top, .top, .top, .top, .top, .top, .top, .top, .top, .top, .top, .top, .top, .top, .top, .top, .top, .top, .top, .top, .top, .top, .top, .top, .top, .top, .top], [none, some s1, some s2, none], h⟩
theorem jacquardref6_Compile_r1 (C : CallF) (L : LoopF) (G : Glo) (a4 : Int) (a5 : Int) (a6 : Int) (s0 : List Cell) (s1 : List Cell) (s2 : List Cell) (h : AHeap) :
    jacquardref6_Compile_F1 C L G (jacquardref6_Compile_s1 a4 a5 a6 s0 s1 s2 h) =
    atK s0 1 fun q_6 => lenK q_6 fun n_7 => if (decide (a6 < n_7)) = true then atK s0 1 fun q_8 => idxSK 2 q_8 a6 fun k_9 N_10 o_11 => rdH h k_9 N_10 fun l_12 => atK l_12 (o_11 + 0) fun q_13 => asI .i64 (.c q_13) fun n_14 => atK s2 0 fun q_15 => idxSK 1 q_15 a4 fun k_16 N_17 o_18 => rdH h k_16 N_17 fun l_19 => atK l_19 o_18 fun q_20 => asI .u8 (.c q_20) fun n_21 => if (n_14 == (G.wrap .i64 n_21)) = true then atK s0 1 fun q_22 => idxSK 2 q_22 a6 fun k_23 N_24 o_25 => rdH h k_23 N_24 fun l_26 => atK l_26 (o_25 + 1) fun q_27 => asI .i64 (.c q_27) fun n_28 => some (.normal, (jacquardref6_Compile_s1 a4 n_28 (G.wrap .i64 (a6 + 1)) s0 s1 s2 h)) else some (.normal, (jacquardref6_Compile_s1 a4 a5 (G.wrap .i64 (a6 + 1)) s0 s1 s2 h)) else some ((.exit 2), (jacquardref6_Compile_x1_3 a4 a5 s0 s1 s2 h)) := by kernel_rfl
theorem jacquardref6_Compile_e1_3 (C : CallF) (L : LoopF) (G : Glo) (a4 : Int) (a5 : Int) (s0 : List Cell) (s1 : List Cell) (s2 : List Cell) (h : AHeap) :
    (jacquardref6_Compile_k7 C L G) (.exit 2) (jacquardref6_Compile_x1_3 a4 a5 s0 s1 s2 h) =
    atK s2 1 fun q_29 => if (splice [Cell.int .i64 0] 0 ([(.int .i64 a5)] : List Cell)).length = 1 * 1 then appK 1 8 q_29 (splice [Cell.int .i64 0] 0 ([(.int .i64 a5)] : List Cell)) h fun x_30 h_31 => if 1 < s2.length then some (.normal, (jacquardref6_Compile_s2 (G.wrap .i64 (a4 + 1)) s0 s1 (s2.set 1 x_30) h_31)) else none else none := by kernel_rfl
theorem jacquardref6_Compile_r2 (C : CallF) (L : LoopF) (G : Glo) (a4 : Int) (s0 : List Cell) (s1 : List Cell) (s2 : List Cell) (h : AHeap) :
    jacquardref6_Compile_F2 C L G (jacquardref6_Compile_s2 a4 s0 s1 s2 h) =
    atK s2 0 fun q_4 => lenK q_4 fun n_5 => if (decide (a4 < n_5)) = true then (L (jacquardref6_Compile_F1 C L G) (jacquardref6_Compile_s1 a4 0 0 s0 s1 s2 h)).bind fun p_32 => (jacquardref6_Compile_k7 C L G) p_32.1 p_32.2 else some ((.exit 0), (jacquardref6_Compile_x2_1 s0 s1 s2 h)) := by kernel_rfl
theorem jacquardref6_Compile_r3 (C : CallF) (L : LoopF) (G : Glo) (a7 : Int) (x8 : Cell) (a9 : Int) (s0 : List Cell) (s1 : List Cell) (s2 : List Cell) (h : AHeap) :
    jacquardref6_Compile_F3 C L G (jacquardref6_Compile_s3 a7 x8 a9 s0 s1 s2 h) =
    atK s0 2 fun q_35 => idxSK 1 q_35 a7 fun k_36 N_37 o_38 => rdH h k_36 N_37 fun l_39 => atK l_39 o_38 fun q_40 => lenK q_40 fun n_41 => if (decide (a9 < n_41)) = true then atK s0 2 fun q_42 => idxSK 1 q_42 a7 fun k_43 N_44 o_45 => rdH h k_43 N_44 fun l_46 => atK l_46 o_45 fun q_47 => idxSK 9 q_47 a9 fun k_48 N_49 o_50 => rdH h k_48 N_49 fun l_51 => if o_50 + 9 ≤ l_51.length then if 0 = 0 ∧ (List.replicate 9 (Cell.int .i64 0)).length = 9 ∧ ((l_51.drop o_50).take 9).length = 9 then atK ((l_51.drop o_50).take 9) 2 fun q_52 => asI .i64 (.c q_52) fun n_53 => if (n_53 != 0) = true then if 0 = 0 ∧ s2.length = 3 then atK ((l_51.drop o_50).take 9) 2 fun q_54 => asI .i64 (.c q_54) fun n_55 => c1 (C 122 [(.agg s2), (.c (.int .i64 n_55))] h) fun y_57 h_56 => asI .i64 y_57 fun n_58 => if 2 < ((l_51.drop o_50).take 9).length then if 0 = 0 ∧ (((l_51.drop o_50).take 9).set 2 (.int .i64 n_58)).length = 9 then if (((l_51.drop o_50).take 9).set 2 (.int .i64 n_58)).length = 9 ∧ 0 + 9 ≤ (List.replicate 9 (Cell.int .i64 0)).length then if (splice (List.replicate 9 (Cell.int .i64 0)) 0 (((l_51.drop o_50).take 9).set 2 (.int .i64 n_58))).length = 1 * 9 then appK 9 72 x8 (splice (List.replicate 9 (Cell.int .i64 0)) 0 (((l_51.drop o_50).take 9).set 2 (.int .i64 n_58))) h_56 fun x_59 h_60 => some (.normal, (jacquardref6_Compile_s3 a7 x_59 (G.wrap .i64 (a9 + 1)) s0 s1 s2 h_60)) else none else none else none else none else none else if 0 = 0 ∧ ((l_51.drop o_50).take 9).length = 9 then if ((l_51.drop o_50).take 9).length = 9 ∧ 0 + 9 ≤ (List.replicate 9 (Cell.int .i64 0)).length then if (splice (List.replicate 9 (Cell.int .i64 0)) 0 ((l_51.drop o_50).take 9)).length = 1 * 9 then appK 9 72 x8 (splice (List.replicate 9 (Cell.int .i64 0)) 0 ((l_51.drop o_50).take 9)) h fun x_61 h_62 => some (.normal, (jacquardref6_Compile_s3 a7 x_61 (G.wrap .i64 (a9 + 1)) s0 s1 s2 h_62)) else none else none else none else none else none else some ((.exit 6), (jacquardref6_Compile_x3_7 a7 x8 s0 s1 s2 h)) := by kernel_rfl
theorem jacquardref6_Compile_e3_7 (C : CallF) (L : LoopF) (G : Glo) (a7 : Int) (x8 : Cell) (s0 : List Cell) (s1 : List Cell) (s2 : List Cell) (h : AHeap) :
    (jacquardref6_Compile_k13 C L G) (.exit 6) (jacquardref6_Compile_x3_7 a7 x8 s0 s1 s2 h) =
    atK s2 2 fun q_63 => if (splice [Cell.nils] 0 ([x8] : List Cell)).length = 1 * 1 then appK 1 24 q_63 (splice [Cell.nils] 0 ([x8] : List Cell)) h fun x_64 h_65 => if 2 < s2.length then some (.normal, (jacquardref6_Compile_s4 (G.wrap .i64 (a7 + 1)) s0 s1 (s2.set 2 x_64) h_65)) else none else none := by kernel_rfl
theorem jacquardref6_Compile_r4 (C : CallF) (L : LoopF) (G : Glo) (a7 : Int) (s0 : List Cell) (s1 : List Cell) (s2 : List Cell) (h : AHeap) :
    jacquardref6_Compile_F4 C L G (jacquardref6_Compile_s4 a7 s0 s1 s2 h) =
    atK s0 2 fun q_33 => lenK q_33 fun n_34 => if (decide (a7 < n_34)) = true then (L (jacquardref6_Compile_F3 C L G) (jacquardref6_Compile_s3 a7 .nils 0 s0 s1 s2 h)).bind fun p_66 => (jacquardref6_Compile_k13 C L G) p_66.1 p_66.2 else some ((.exit 4), (jacquardref6_Compile_x4_5 s1 s2 h)) := by kernel_rfl
theorem jacquardref6_Compile_e4_5 (C : CallF) (L : LoopF) (G : Glo) (h0 : AHeap) (s1 : List Cell) (s2 : List Cell) (h : AHeap) :
    (jacquardref6_Compile_k9 C L G h0) (.exit 4) (jacquardref6_Compile_x4_5 s1 s2 h) =
    if 0 = 0 ∧ s2.length = 3 then if 0 = 0 ∧ s1.length = 3 ∧ s2.length = 3 then if 0 = 0 ∧ s2.length = 3 then some ([(.agg s2)], h) else none else none else none := by kernel_rfl
theorem jacquardref6_Compile_e2_1 (C : CallF) (L : LoopF) (G : Glo) (h0 : AHeap) (s0 : List Cell) (s1 : List Cell) (s2 : List Cell) (h : AHeap) :
    (jacquardref6_Compile_k3 C L G h0) (.exit 0) (jacquardref6_Compile_x2_1 s0 s1 s2 h) =
    (L (jacquardref6_Compile_F4 C L G) (jacquardref6_Compile_s4 0 s0 s1 s2 h)).bind fun p_67 => (jacquardref6_Compile_k9 C L G h0) p_67.1 p_67.2 := by kernel_rfl
set_option maxRecDepth 100000 in
theorem jacquardref6_Compile_eq (C : CallF) (L : LoopF) (G : Glo) (l0 : List Cell) (h0 : AHeap) :
    jacquardref6_Compile.body C L G [(.agg l0)] h0 =
    if 0 = 0 ∧ l0.length = 5 then c1 (C 121 [(.agg l0)] h0) fun y_2 h_1 => asC y_2 fun x_3 => if 0 = 0 ∧ [Cell.nils, Cell.nils, Cell.nils].length = 3 ∧ (splice [Cell.nils, Cell.nils, Cell.nils] 0 ([x_3] : List Cell)).length = 3 then (L (jacquardref6_Compile_F2 C L G) (jacquardref6_Compile_s2 0 l0 [Cell.nils, Cell.nils, Cell.nils] (splice [Cell.nils, Cell.nils, Cell.nils] 0 ([x_3] : List Cell)) h_1)).bind fun p_68 => (jacquardref6_Compile_k3 C L G h0) p_68.1 p_68.2 else none else none := by kernel_rfl

/- jacquard/jacquardref6.Start: 104 -/
set_option maxRecDepth 100000 in
theorem jacquardref6_Start_eq (C : CallF) (L : LoopF) (G : Glo) (l0 : List Cell) (a1 : Int) (h0 : AHeap) :
    jacquardref6_Start.body C L G [(.agg l0), (.c (.int .i64 a1))] h0 =
    if 0 = 0 ∧ l0.length = 3 then c1 (C 110 [(.agg l0), (.c (.int .i64 a1))] h0) fun y_2 h_1 => asB y_2 fun b_3 => if (!b_3) = true then if 0 = 0 ∧ [Cell.int .i64 0, Cell.int .i64 0, Cell.int .i64 0, Cell.int .i64 0, Cell.int .i64 0].length = 5 ∧ [Cell.int .i64 0, Cell.int .i64 0, Cell.int .i64 0, Cell.int .i64 0, Cell.int .i64 0].length = 5 then if 0 = 0 ∧ [Cell.int .i64 0, Cell.int .i64 0, Cell.int .i64 0, Cell.int .i64 0, Cell.int .i64 0].length = 5 then some ([(.agg [Cell.int .i64 0, Cell.int .i64 0, Cell.int .i64 0, Cell.int .i64 0, Cell.int .i64 0])], h_1) else none else none else if 0 = 0 ∧ l0.length = 3 then c1 (C 123 [(.agg l0), (.c (.int .i64 a1)), (.agg [Cell.int .i64 0, Cell.int .i64 0, Cell.int .i64 0, Cell.int .i64 0, Cell.int .i64 0])] h_1) fun y_5 h_4 => asA y_5 fun l_6 => if 0 = 0 ∧ [Cell.int .i64 0, Cell.int .i64 0, Cell.int .i64 0, Cell.int .i64 0, Cell.int .i64 0].length = 5 ∧ l_6.length = 5 then if 0 = 0 ∧ l_6.length = 5 then some ([(.agg l_6)], h_4) else none else none else none else none := by kernel_rfl

/- jacquard/jacquardref6.After: 107 -/
set_option maxRecDepth 100000 in
theorem jacquardref6_After_eq (C : CallF) (L : LoopF) (G : Glo) (l0 : List Cell) (a1 : Int) (l2 : List Cell) (a3 : Int) (h0 : AHeap) :
    jacquardref6_After.body C L G [(.agg l0), (.c (.int .i64 a1)), (.agg l2), (.c (.int .i64 a3))] h0 =
    if 0 = 0 ∧ l0.length = 3 then if 0 = 0 ∧ l2.length = 5 then c2 (C 81 [(.agg l0), (.c (.int .i64 a1)), (.agg l2)] h0) fun y_2 y_3 h_1 => asA y_2 fun l_4 => asB y_3 fun b_5 => if 0 = 0 ∧ (List.replicate 9 (Cell.int .i64 0)).length = 9 ∧ l_4.length = 9 then if (!b_5) = true then if 0 = 0 ∧ l2.length = 5 then if 0 = 0 ∧ [Cell.int .i64 0, Cell.int .i64 0, Cell.int .i64 0, Cell.int .i64 0, Cell.int .i64 0].length = 5 ∧ l2.length = 5 then if 0 = 0 ∧ l2.length = 5 then some ([(.agg l2)], h_1) else none else none else none else atK l_4 0 fun q_6 => asI .i64 (.c q_6) fun n_7 => scK (n_7 == 2) false (atK l_4 0 fun q_8 => asI .i64 (.c q_8) fun n_9 => some ((n_9 == 4), h_1)) true h_1 fun b_10 h_11 => if b_10 = true then atK l_4 1 fun q_12 => asI .i64 (.c q_12) fun n_13 => if 0 ≤ n_13 ∧ n_13 < ((4 : Nat) : Int) then if (1 + ((Int.toNat n_13) * 1)) < l2.length then atK (l2.set (1 + ((Int.toNat n_13) * 1)) (.int .i64 a3)) 0 fun q_14 => asI .i64 (.c q_14) fun n_15 => if 0 < (l2.set (1 + ((Int.toNat n_13) * 1)) (.int .i64 a3)).length then if 0 = 0 ∧ l0.length = 3 then if 0 = 0 ∧ ((l2.set (1 + ((Int.toNat n_13) * 1)) (.int .i64 a3)).set 0 (.int .i64 (G.wrap .i64 (n_15 + 1)))).length = 5 then c1 (C 123 [(.agg l0), (.c (.int .i64 a1)), (.agg ((l2.set (1 + ((Int.toNat n_13) * 1)) (.int .i64 a3)).set 0 (.int .i64 (G.wrap .i64 (n_15 + 1)))))] h_11) fun y_17 h_16 => asA y_17 fun l_18 => if 0 = 0 ∧ [Cell.int .i64 0, Cell.int .i64 0, Cell.int .i64 0, Cell.int .i64 0, Cell.int .i64 0].length = 5 ∧ l_18.length = 5 then if 0 = 0 ∧ l_18.length = 5 then some ([(.agg l_18)], h_16) else none else none else none else none else none else none else none else atK l2 0 fun q_19 => asI .i64 (.c q_19) fun n_20 => if 0 < l2.length then if 0 = 0 ∧ l0.length = 3 then if 0 = 0 ∧ (l2.set 0 (.int .i64 (G.wrap .i64 (n_20 + 1)))).length = 5 then c1 (C 123 [(.agg l0), (.c (.int .i64 a1)), (.agg (l2.set 0 (.int .i64 (G.wrap .i64 (n_20 + 1)))))] h_11) fun y_22 h_21 => asA y_22 fun l_23 => if 0 = 0 ∧ [Cell.int .i64 0, Cell.int .i64 0, Cell.int .i64 0, Cell.int .i64 0, Cell.int .i64 0].length = 5 ∧ l_23.length = 5 then if 0 = 0 ∧ l_23.length = 5 then some ([(.agg l_23)], h_21) else none else none else none else none else none else none else none else none := by kernel_rfl

/- jacquard/jacquardref6.there: 110 -/
set_option maxRecDepth 100000 in
theorem jacquardref6_there_eq (C : CallF) (L : LoopF) (G : Glo) (l0 : List Cell) (a1 : Int) (h0 : AHeap) :
    jacquardref6_there.body C L G [(.agg l0), (.c (.int .i64 a1))] h0 =
    scK (decide (a1 ≥ 0)) true (atK l0 2 fun q_1 => lenK q_1 fun n_2 => some ((decide (a1 < n_2)), h0)) false h0 fun b_3 h_4 => some ([(.c (.bool b_3))], h_4) := by kernel_rfl

/- jacquard/jacquardref6.Event: 111 -/
set_option maxRecDepth 100000 in
theorem jacquardref6_Event_eq (C : CallF) (L : LoopF) (G : Glo) (l0 : List Cell) (l1 : List Cell) (a2 : Int) (h0 : AHeap) :
    jacquardref6_Event.body C L G [(.agg l0), (.agg l1), (.c (.int .i64 a2))] h0 =
    atK l0 0 fun q_1 => asI .i64 (.c q_1) fun n_2 => if (n_2 == 1) = true then atK l0 2 fun q_3 => asI .i64 (.c q_3) fun n_4 => if 3 + 2 ≤ l0.length then if 0 = 0 ∧ l1.length = 5 then c1 (qh h0 (C 92 [(.agg ((l0.drop 3).take 2)), (.agg l1)] h0)) fun y_6 h_5 => asI .i64 y_6 fun n_7 => if 0 = 0 ∧ [Cell.int .i64 0, Cell.int .i64 0, Cell.int .i64 0, Cell.int .i64 0, Cell.int .i64 0, Cell.int .i64 0].length = 6 ∧ (splice (splice (splice [Cell.int .i64 0, Cell.int .i64 0, Cell.int .i64 0, Cell.int .i64 0, Cell.int .i64 0, Cell.int .i64 0] 2 ([(.int .i64 2)] : List Cell)) 3 ([(.int .i64 n_4)] : List Cell)) 5 ([(.int .i64 n_7)] : List Cell)).length = 6 then if 0 = 0 ∧ (splice (splice (splice [Cell.int .i64 0, Cell.int .i64 0, Cell.int .i64 0, Cell.int .i64 0, Cell.int .i64 0, Cell.int .i64 0] 2 ([(.int .i64 2)] : List Cell)) 3 ([(.int .i64 n_4)] : List Cell)) 5 ([(.int .i64 n_7)] : List Cell)).length = 6 then some ([(.agg (splice (splice (splice [Cell.int .i64 0, Cell.int .i64 0, Cell.int .i64 0, Cell.int .i64 0, Cell.int .i64 0, Cell.int .i64 0] 2 ([(.int .i64 2)] : List Cell)) 3 ([(.int .i64 n_4)] : List Cell)) 5 ([(.int .i64 n_7)] : List Cell)))], h0) else none else none else none else none else if (n_2 == 2) = true then atK l0 2 fun q_8 => asI .i64 (.c q_8) fun n_9 => if 0 = 0 ∧ [Cell.int .i64 0, Cell.int .i64 0, Cell.int .i64 0, Cell.int .i64 0, Cell.int .i64 0, Cell.int .i64 0].length = 6 ∧ (splice (splice (splice [Cell.int .i64 0, Cell.int .i64 0, Cell.int .i64 0, Cell.int .i64 0, Cell.int .i64 0, Cell.int .i64 0] 2 ([(.int .i64 1)] : List Cell)) 3 ([(.int .i64 n_9)] : List Cell)) 4 ([(.int .i64 a2)] : List Cell)).length = 6 then if 0 = 0 ∧ (splice (splice (splice [Cell.int .i64 0, Cell.int .i64 0, Cell.int .i64 0, Cell.int .i64 0, Cell.int .i64 0, Cell.int .i64 0] 2 ([(.int .i64 1)] : List Cell)) 3 ([(.int .i64 n_9)] : List Cell)) 4 ([(.int .i64 a2)] : List Cell)).length = 6 then some ([(.agg (splice (splice (splice [Cell.int .i64 0, Cell.int .i64 0, Cell.int .i64 0, Cell.int .i64 0, Cell.int .i64 0, Cell.int .i64 0] 2 ([(.int .i64 1)] : List Cell)) 3 ([(.int .i64 n_9)] : List Cell)) 4 ([(.int .i64 a2)] : List Cell)))], h0) else none else none else if (n_2 == 4) = true then if 3 + 2 ≤ l0.length then if 0 = 0 ∧ l1.length = 5 then c1 (C 92 [(.agg ((l0.drop 3).take 2)), (.agg l1)] h0) fun y_11 h_10 => asI .i64 y_11 fun n_12 => if (a2 == n_12) = true then atK l0 2 fun q_13 => asI .i64 (.c q_13) fun n_14 => if 6 + 2 ≤ l0.length then if 0 = 0 ∧ l1.length = 5 then c1 (qh h_10 (C 92 [(.agg ((l0.drop 6).take 2)), (.agg l1)] h_10)) fun y_16 h_15 => asI .i64 y_16 fun n_17 => if 0 = 0 ∧ [Cell.int .i64 0, Cell.int .i64 0, Cell.int .i64 0, Cell.int .i64 0, Cell.int .i64 0, Cell.int .i64 0].length = 6 ∧ (splice (splice (splice (splice [Cell.int .i64 0, Cell.int .i64 0, Cell.int .i64 0, Cell.int .i64 0, Cell.int .i64 0, Cell.int .i64 0] 2 ([(.int .i64 4)] : List Cell)) 3 ([(.int .i64 n_14)] : List Cell)) 4 ([(.int .i64 a2)] : List Cell)) 5 ([(.int .i64 n_17)] : List Cell)).length = 6 then if 0 = 0 ∧ (splice (splice (splice (splice [Cell.int .i64 0, Cell.int .i64 0, Cell.int .i64 0, Cell.int .i64 0, Cell.int .i64 0, Cell.int .i64 0] 2 ([(.int .i64 4)] : List Cell)) 3 ([(.int .i64 n_14)] : List Cell)) 4 ([(.int .i64 a2)] : List Cell)) 5 ([(.int .i64 n_17)] : List Cell)).length = 6 then some ([(.agg (splice (splice (splice (splice [Cell.int .i64 0, Cell.int .i64 0, Cell.int .i64 0, Cell.int .i64 0, Cell.int .i64 0, Cell.int .i64 0] 2 ([(.int .i64 4)] : List Cell)) 3 ([(.int .i64 n_14)] : List Cell)) 4 ([(.int .i64 a2)] : List Cell)) 5 ([(.int .i64 n_17)] : List Cell)))], h_10) else none else none else none else none else atK l0 2 fun q_18 => asI .i64 (.c q_18) fun n_19 => if 0 = 0 ∧ [Cell.int .i64 0, Cell.int .i64 0, Cell.int .i64 0, Cell.int .i64 0, Cell.int .i64 0, Cell.int .i64 0].length = 6 ∧ (splice (splice (splice [Cell.int .i64 0, Cell.int .i64 0, Cell.int .i64 0, Cell.int .i64 0, Cell.int .i64 0, Cell.int .i64 0] 2 ([(.int .i64 5)] : List Cell)) 3 ([(.int .i64 n_19)] : List Cell)) 4 ([(.int .i64 a2)] : List Cell)).length = 6 then if 0 = 0 ∧ (splice (splice (splice [Cell.int .i64 0, Cell.int .i64 0, Cell.int .i64 0, Cell.int .i64 0, Cell.int .i64 0, Cell.int .i64 0] 2 ([(.int .i64 5)] : List Cell)) 3 ([(.int .i64 n_19)] : List Cell)) 4 ([(.int .i64 a2)] : List Cell)).length = 6 then some ([(.agg (splice (splice (splice [Cell.int .i64 0, Cell.int .i64 0, Cell.int .i64 0, Cell.int .i64 0, Cell.int .i64 0, Cell.int .i64 0] 2 ([(.int .i64 5)] : List Cell)) 3 ([(.int .i64 n_19)] : List Cell)) 4 ([(.int .i64 a2)] : List Cell)))], h_10) else none else none else none else none else if 0 = 0 ∧ [Cell.int .i64 0, Cell.int .i64 0, Cell.int .i64 0, Cell.int .i64 0, Cell.int .i64 0, Cell.int .i64 0].length = 6 ∧ (splice [Cell.int .i64 0, Cell.int .i64 0, Cell.int .i64 0, Cell.int .i64 0, Cell.int .i64 0, Cell.int .i64 0] 2 ([(.int .i64 3)] : List Cell)).length = 6 then if 0 = 0 ∧ (splice [Cell.int .i64 0, Cell.int .i64 0, Cell.int .i64 0, Cell.int .i64 0, Cell.int .i64 0, Cell.int .i64 0] 2 ([(.int .i64 3)] : List Cell)).length = 6 then some ([(.agg (splice [Cell.int .i64 0, Cell.int .i64 0, Cell.int .i64 0, Cell.int .i64 0, Cell.int .i64 0, Cell.int .i64 0] 2 ([(.int .i64 3)] : List Cell)))], h0) else none else none := by kernel_rfl

/- jacquard/jacquardref6.Place: 122 -/
def jacquardref6_Place_k2 (C : CallF) (L : LoopF) (G : Glo) (h0 : AHeap) : Ex → St → Option (List AV × AHeap) :=
  kSeq (fun st => jacquardref6_Place_p1.exec C L G st (jacquardref6_Place.fin G h0)) (jacquardref6_Place.fin G h0)
def jacquardref6_Place_k3 (C : CallF) (L : LoopF) (G : Glo) (h0 : AHeap) : Ex → St → Option (List AV × AHeap) :=
  kBlk 0 (jacquardref6_Place_k2 C L G h0)
def jacquardref6_Place_s1 (a1 : Int) (a5 : Int) (s0 : List Cell) (h : AHeap) : St := ⟨[.top, .v (.c (.int .i64 a1)), .loc 0 0, .top, .top, .v (.c (.int .i64 a5)), .top, .top, .top, .top, .top, .top, .top, .top, .top, .top, .top, .top, .top, .top, .top, .top], [some s0], h⟩
def jacquardref6_Place_F1 (C : CallF) (L : LoopF) (G : Glo) : St → Option (Ex × St) :=
  roundF (fun st f => jacquardref6_Place_b1.exec C L G st f) [1, 2, 5] [0] [(0, [4], []), (1, [], [])]
def jacquardref6_Place_x1_0 (a4 : Int) (h : AHeap) : St := ⟨[.top, .top, .top, .top, .v (.c (.int .i64 a4)), .top, .top, .top, .top, .top, .top, .top, .top, .top, .top, .top, .top, .top, .top, .top, .top, .top], [none], h⟩
def jacquardref6_Place_x1_1 (h : AHeap) : St := ⟨[.top, .top, .top, .top, .top, .top, .top, .top, .top, .top, .top, .top, .top, .top, .top, .top, .top, .top, .top, .top, .top, .top], [none], h⟩
theorem jacquardref6_Place_r1 (C : CallF) (L : LoopF) (G : Glo) (a1 : Int) (a5 : Int) (s0 : List Cell) (h : AHeap) :
    jacquardref6_Place_F1 C L G (jacquardref6_Place_s1 a1 a5 s0 h) =
    atK s0 0 fun q_1 => lenK q_1 fun n_2 => if (decide (a5 < n_2)) = true then atK s0 0 fun q_3 => idxSK 1 q_3 a5 fun k_4 N_5 o_6 => rdH h k_4 N_5 fun l_7 => atK l_7 o_6 fun q_8 => asI .u8 (.c q_8) fun n_9 => if ((G.wrap .i64 n_9) == a1) = true then some (.ret, (jacquardref6_Place_x1_0 a5 h)) else some (.normal, (jacquardref6_Place_s1 a1 (G.wrap .i64 (a5 + 1)) s0 h)) else some ((.exit 0), (jacquardref6_Place_x1_1 h)) := by kernel_rfl
theorem jacquardref6_Place_e1_0 (C : CallF) (L : LoopF) (G : Glo) (h0 : AHeap) (a4 : Int) (h : AHeap) :
    (jacquardref6_Place_k3 C L G h0) .ret (jacquardref6_Place_x1_0 a4 h) =
    some ([(.c (.int .i64 a4))], h) := by kernel_rfl
theorem jacquardref6_Place_e1_1 (C : CallF) (L : LoopF) (G : Glo) (h0 : AHeap) (h : AHeap) :
    (jacquardref6_Place_k3 C L G h0) (.exit 0) (jacquardref6_Place_x1_1 h) =
    some ([(.c (.int .i64 (-1)))], h) := by kernel_rfl
set_option maxRecDepth 100000 in
theorem jacquardref6_Place_eq (C : CallF) (L : LoopF) (G : Glo) (l0 : List Cell) (a1 : Int) (h0 : AHeap) :
    jacquardref6_Place.body C L G [(.agg l0), (.c (.int .i64 a1))] h0 =
    (L (jacquardref6_Place_F1 C L G) (jacquardref6_Place_s1 a1 0 l0 h0)).bind fun p_10 => (jacquardref6_Place_k3 C L G h0) p_10.1 p_10.2 := by kernel_rfl

/- jacquard/jacquardref6.normal: 123 -/
def jacquardref6_normal_k2 (C : CallF) (L : LoopF) (G : Glo) (h0 : AHeap) : Ex → St → Option (List AV × AHeap) :=
  kSeq (fun st => jacquardref6_normal_p1.exec C L G st (jacquardref6_normal.fin G h0)) (jacquardref6_normal.fin G h0)
def jacquardref6_normal_k3 (C : CallF) (L : LoopF) (G : Glo) (h0 : AHeap) : Ex → St → Option (List AV × AHeap) :=
  kBlk 0 (jacquardref6_normal_k2 C L G h0)
def jacquardref6_normal_s1 (a1 : Int) (s0 : List Cell) (s1 : List Cell) (s2 : List Cell) (h : AHeap) : St := ⟨[.top, .v (.c (.int .i64 a1)), .top, .loc 0 0, .top, .loc 1 0, .loc 2 0, .top, .top, .top, .top, .top, .top, .top, .top, .top, .top, .top, .top, .top, .top, .top, .top, .top, .top, .top, .top, .top, .top, .top, .top, .top, .top, .top, .top, .top, .top, .top, .top, .top, .top, .top, .top, .top, .top, .top, .top, .top, .top, .top, .top, .top, .top, .top, .top, .top, .top, .top, .top, .top, .top, .top, .top, .top, .top, .top, .top, .top, .top, .top, .top, .top, .top, .top, .top, .top, .top, .top, .top, .top, .top], [some s0, some s1, some s2, none], h⟩
def jacquardref6_normal_F1 (C : CallF) (L : LoopF) (G : Glo) : St → Option (Ex × St) :=
  roundF (fun st f => jacquardref6_normal_b1.exec C L G st f) [1, 3, 5, 6] [0, 1, 2] [(0, [6], [2]), (1, [5, 6], [1, 2])]
def jacquardref6_normal_x1_0 (s2 : List Cell) (h : AHeap) : St := ⟨[.top, .top, .top, .top, .top, .top, .loc 2 0, .top, .top, .top, .top, .top, .top, .top, .top, .top, .top, .top, .top, .top, .top, .top, .top, .top, .top, .top, .top, .top, .top, .top, .top, .top, .top, .top, .top, .top, .top, .top, .top, .top, .top, .top, .top, .top, .top, .top, .top, .top, .top, .top, .top, .top, .top, .top, .top, .top, .top, .top, .top, .top, .top, .top, .top, .top, .top, .top, .top, .top, .top, .top, .top, .top, .top, .top, .top, .top, .top, .top, .top, .top, .top], [none, none, some s2, none], h⟩
def jacquardref6_normal_x1_1 (s1 : List Cell) (s2 : List Cell) (h : AHeap) : St := ⟨[.top, .top, .top, .top, .top, .loc 1 0, .loc 2 0, .top, .top, .top, .top, .top, .top, .top, .top, .top, .top, .top, .top, .top, .top, .top, .top, .top, .top, .top, .top, .top, .top, .top, .top, .top, .top, .top, .top, .top, .top, .top, .top, .top, .top, .top, .top, .top, .top, .top, .top, .top, .top, .top, .top, .top, .top, .top, .top, .top, .top, .top, .top, .top, .top, .top, .top, .top, .top, .top, .top, .top, .top, .top, .top, .top, .top, .top, .top, .top, .top, .top, .top, .top, .top], [none, some s1, some s2, none], h⟩
theorem jacquardref6_normal_r1 (C : CallF) (L : LoopF) (G : Glo) (a1 : Int) (s0 : List Cell) (s1 : List Cell) (s2 : List Cell) (h : AHeap) :
    jacquardref6_normal_F1 C L G (jacquardref6_normal_s1 a1 s0 s1 s2 h) =
    atK s1 0 fun q_1 => asI .i64 (.c q_1) fun n_2 => atK s0 2 fun q_3 => idxSK 1 q_3 a1 fun k_4 N_5 o_6 => rdH h k_4 N_5 fun l_7 => atK l_7 o_6 fun q_8 => lenK q_8 fun n_9 => if (decide (n_2 < n_9)) = true then atK s0 2 fun q_10 => idxSK 1 q_10 a1 fun k_11 N_12 o_13 => rdH h k_11 N_12 fun l_14 => atK l_14 o_13 fun q_15 => atK s1 0 fun q_16 => asI .i64 (.c q_16) fun n_17 => idxSK 9 q_15 n_17 fun k_18 N_19 o_20 => rdH h k_18 N_19 fun l_21 => if o_20 + 9 ≤ l_21.length then if 0 = 0 ∧ (List.replicate 9 (Cell.int .i64 0)).length = 9 ∧ ((l_21.drop o_20).take 9).length = 9 then atK ((l_21.drop o_20).take 9) 0 fun q_22 => asI .i64 (.c q_22) fun n_23 => if (n_23 == 5) = true then if 3 + 2 ≤ ((l_21.drop o_20).take 9).length then if 0 = 0 ∧ s1.length = 5 then c1 (C 92 [(.agg ((((l_21.drop o_20).take 9).drop 3).take 2)), (.agg s1)] h) fun y_25 h_24 => asI .i64 y_25 fun n_26 => atK ((l_21.drop o_20).take 9) 5 fun q_27 => asI .i64 (.c q_27) fun n_28 => if (n_28 != 0) = true then atK ((l_21.drop o_20).take 9) 5 fun q_29 => asI .i64 (.c q_29) fun n_30 => if 6 + 2 ≤ ((l_21.drop o_20).take 9).length then if 0 = 0 ∧ s1.length = 5 then c1 (qh h_24 (C 92 [(.agg ((((l_21.drop o_20).take 9).drop 6).take 2)), (.agg s1)] h_24)) fun y_32 h_31 => asI .i64 y_32 fun n_33 => c2 (qh h_24 (C 93 [(.c (.int .i64 n_30)), (.c (.int .i64 n_26)), (.c (.int .i64 n_33))] h_24)) fun y_35 y_36 h_34 => asI .i64 y_35 fun n_37 => asB y_36 fun b_38 => atK ((l_21.drop o_20).take 9) 1 fun q_39 => asI .i64 (.c q_39) fun n_40 => if 0 ≤ n_40 ∧ n_40 < ((4 : Nat) : Int) then if (1 + ((Int.toNat n_40) * 1)) < s1.length then atK (s1.set (1 + ((Int.toNat n_40) * 1)) (.int .i64 n_37)) 0 fun q_41 => asI .i64 (.c q_41) fun n_42 => if 0 < (s1.set (1 + ((Int.toNat n_40) * 1)) (.int .i64 n_37)).length then some (.normal, (jacquardref6_normal_s1 a1 s0 ((s1.set (1 + ((Int.toNat n_40) * 1)) (.int .i64 n_37)).set 0 (.int .i64 (G.wrap .i64 (n_42 + 1)))) s2 h_24)) else none else none else none else none else none else atK ((l_21.drop o_20).take 9) 1 fun q_43 => asI .i64 (.c q_43) fun n_44 => if 0 ≤ n_44 ∧ n_44 < ((4 : Nat) : Int) then if (1 + ((Int.toNat n_44) * 1)) < s1.length then atK (s1.set (1 + ((Int.toNat n_44) * 1)) (.int .i64 n_26)) 0 fun q_45 => asI .i64 (.c q_45) fun n_46 => if 0 < (s1.set (1 + ((Int.toNat n_44) * 1)) (.int .i64 n_26)).length then some (.normal, (jacquardref6_normal_s1 a1 s0 ((s1.set (1 + ((Int.toNat n_44) * 1)) (.int .i64 n_26)).set 0 (.int .i64 (G.wrap .i64 (n_46 + 1)))) s2 h_24)) else none else none else none else none else none else if (n_23 == 6) = true then if 3 + 2 ≤ ((l_21.drop o_20).take 9).length then if 0 = 0 ∧ s1.length = 5 then c1 (qh h (C 92 [(.agg ((((l_21.drop o_20).take 9).drop 3).take 2)), (.agg s1)] h)) fun y_48 h_47 => asI .i64 y_48 fun n_49 => if 6 + 2 ≤ ((l_21.drop o_20).take 9).length then if 0 = 0 ∧ s1.length = 5 then c1 (qh h (C 92 [(.agg ((((l_21.drop o_20).take 9).drop 6).take 2)), (.agg s1)] h)) fun y_51 h_50 => asI .i64 y_51 fun n_52 => if (n_49 == n_52) = true then atK s1 0 fun q_53 => asI .i64 (.c q_53) fun n_54 => atK ((l_21.drop o_20).take 9) 8 fun q_55 => asI .i64 (.c q_55) fun n_56 => if 0 < s1.length then atK (s1.set 0 (.int .i64 (G.wrap .i64 (n_54 + n_56)))) 0 fun q_57 => asI .i64 (.c q_57) fun n_58 => if 0 < (s1.set 0 (.int .i64 (G.wrap .i64 (n_54 + n_56)))).length then some (.normal, (jacquardref6_normal_s1 a1 s0 ((s1.set 0 (.int .i64 (G.wrap .i64 (n_54 + n_56)))).set 0 (.int .i64 (G.wrap .i64 (n_58 + 1)))) s2 h)) else none else none else atK s1 0 fun q_59 => asI .i64 (.c q_59) fun n_60 => if 0 < s1.length then some (.normal, (jacquardref6_normal_s1 a1 s0 (s1.set 0 (.int .i64 (G.wrap .i64 (n_60 + 1)))) s2 h)) else none else none else none else none else none else if 0 = 0 ∧ s1.length = 5 then if 0 = 0 ∧ s2.length = 5 ∧ s1.length = 5 then some (.ret, (jacquardref6_normal_x1_0 s1 h)) else none else none else none else none else some ((.exit 0), (jacquardref6_normal_x1_1 s1 s2 h)) := by kernel_rfl
theorem jacquardref6_normal_e1_0 (C : CallF) (L : LoopF) (G : Glo) (h0 : AHeap) (s2 : List Cell) (h : AHeap) :
    (jacquardref6_normal_k3 C L G h0) .ret (jacquardref6_normal_x1_0 s2 h) =
    if 0 = 0 ∧ s2.length = 5 then some ([(.agg s2)], h) else none := by kernel_rfl
theorem jacquardref6_normal_e1_1 (C : CallF) (L : LoopF) (G : Glo) (h0 : AHeap) (s1 : List Cell) (s2 : List Cell) (h : AHeap) :
    (jacquardref6_normal_k3 C L G h0) (.exit 0) (jacquardref6_normal_x1_1 s1 s2 h) =
    if 0 = 0 ∧ s1.length = 5 then if 0 = 0 ∧ s2.length = 5 ∧ s1.length = 5 then if 0 = 0 ∧ s1.length = 5 then some ([(.agg s1)], h) else none else none else none := by kernel_rfl
set_option maxRecDepth 100000 in
theorem jacquardref6_normal_eq (C : CallF) (L : LoopF) (G : Glo) (l0 : List Cell) (a1 : Int) (l2 : List Cell) (h0 : AHeap) :
    jacquardref6_normal.body C L G [(.agg l0), (.c (.int .i64 a1)), (.agg l2)] h0 =
    (L (jacquardref6_normal_F1 C L G) (jacquardref6_normal_s1 a1 l0 l2 [Cell.int .i64 0, Cell.int .i64 0, Cell.int .i64 0, Cell.int .i64 0, Cell.int .i64 0] h0)).bind fun p_61 => (jacquardref6_normal_k3 C L G h0) p_61.1 p_61.2 := by kernel_rfl


end Jq

/- The statements of relations: what their helpers come to. -/
namespace Jq
open Go

/-- A relation of pairs. -/
def ofR (n : Nat) (l : List (Int × Int)) : Nat → Nat := l.foldl (fun f p => addR n f p.1 p.2) fun _ => 0

variable {E : Env}

end Jq

namespace Jq
open Go


end Jq

/- Bits counted, and the lowest one: what math/bits comes to. -/
namespace Jq
open Go

/-- How many of the first k bits are set. -/
def pcN : Nat → Nat → Nat
  | 0, _ => 0
  | k + 1, x => x % 2 + pcN k (x / 2)

/-- How many numbers a word has. -/
def pc (x : Nat) : Nat := pcN 64 x

/-- A function of each byte. -/
def mapB (f : Nat → Nat) : Nat → Nat → Nat
  | 0, _ => 0
  | k + 1, x => f (x % 256) + 256 * mapB f k (x / 256)

def repB (c : Nat) : Nat → Nat
  | 0 => 0
  | k + 1 => c + 256 * repB c k

def fb1 (b : Nat) : Nat := ((b / 2) &&& 0x55) + (b &&& 0x55)
def fb2 (b : Nat) : Nat := ((b / 4) &&& 0x33) + (b &&& 0x33)
def fb3 (b : Nat) : Nat := (b + b / 16) &&& 0x0f

variable {E : Env}

end Jq

/- The lowest bit: what math/bits comes to. -/
namespace Jq
open Go

variable {E : Env}

end Jq

/- The numbers of a word, in order. -/
namespace Jq
open Go

/-- A word's numbers, rising. -/
def bitsL (s : Nat) : List Nat := (List.range 64).filter fun i => s.testBit i

/-- The first number; none: less than nought. -/
def firstI (s : Nat) : Int := if s = 0 then -1 else Lib.ctz 64 s

/-- What math/bits reads. -/
def TabOk (E : Env) : Prop := ∀ k, k < 64 → (E.tab 1)[k]? = (Lib.deBruijn64tab[k]?).map fun (n : Nat) => Cell.int .u8 (n : Int)

variable {E : Env}

/-- A row of natural numbers, as cells. -/
def natC (l : List Nat) : List Cell := intC .i64 (l.map fun (n : Nat) => (n : Int))

theorem natC_len (l : List Nat) : (natC l).length = l.length := by simp [natC, intC]
theorem natC_snoc (l : List Nat) (n : Nat) : natC (l ++ [n]) = natC l ++ [.int .i64 n] := by simp [natC, intC]
/-- A word of numbers. -/
def ofL (l : List Int) : Nat := l.foldl (fun s i => s ||| bitI i) 0

/-- The next greater word of as many numbers. -/
def nextN (s : Nat) : Nat :=
  if s = 0 then 0 else
    let up := (s + 2 ^ Lib.ctz 64 s) % 2 ^ 64
    if up = 0 then 0 else up ||| (((s ^^^ up) >>> 2) >>> Lib.ctz 64 s)

end Jq

/- Relations: joining, meeting, putting behind one another, turning, cutting down, pairs. -/
namespace Jq
open Go

/-- The word of these numbers. -/
def mkN (p : Nat → Bool) : Nat := (List.range 64).foldl (fun a j => if p j then a ||| 2 ^ j else a) 0

/-- Rows told so far. -/
def upF (T : Nat → Nat) (i : Nat) : Nat → Nat := fun j => if j < i then T j else 0

variable {E : Env}

/-- A relation by what it has. -/
def relM (n : Nat) (p : Nat → Nat → Bool) : List Cell := relL n fun i => mkN (p i)

/- Putting behind one another. -/
def orL (T : Nat → Nat) (l : List Nat) : Nat := l.foldl (fun a k => a ||| T k) 0

def thenF (n : Nat) (f g : Nat → Nat) (i : Nat) : Nat := orL (fun k => g k &&& (2 ^ n - 1)) (bitsL (f i &&& (2 ^ n - 1)))

/- Turning about. -/
/-- What has been turned: all of the rows below i, of row i what is done. -/
def invP (f : Nat → Nat) (i : Nat) (done : List Nat) : Nat → Nat := fun k => mkN fun j => (decide (j < i) && (f j).testBit k) || (decide (j = i) && decide (k ∈ done))

end Jq

/- Relations over one number: by what they have. -/
namespace Jq
open Go

def TH (n : Nat) (f g : Nat → Nat) : Nat → Nat := fun i => mkN fun j => decide (i < n) && decide (j < n) && (List.range n).any fun k => (f i).testBit k && (g k).testBit j
def UNI (n : Nat) (f g : Nat → Nat) : Nat → Nat := fun i => mkN fun j => decide (i < n) && decide (j < n) && ((f i).testBit j || (g i).testBit j)
def MIN (n : Nat) (f g : Nat → Nat) : Nat → Nat := fun i => mkN fun j => decide (i < n) && decide (j < n) && ((f i).testBit j && !(g i).testBit j)
def MEE (n : Nat) (f g : Nat → Nat) : Nat → Nat := fun i => mkN fun j => decide (i < n) && decide (j < n) && ((f i).testBit j && (g i).testBit j)
def INV (n : Nat) (f : Nat → Nat) : Nat → Nat := fun i => mkN fun j => decide (j < n) && (f j).testBit i
def KEE (n : Nat) (f : Nat → Nat) (s : Nat) : Nat → Nat := fun i => mkN fun j => decide (i < n) && s.testBit i && ((f i).testBit j && s.testBit j)

/-- All pairs are over n. -/
def Fit (n : Nat) (f : Nat → Nat) : Prop := ∀ i j, (f i).testBit j = true → i < n ∧ j < n

variable {E : Env} {n : Nat}

end Jq

/- A relation's pairs, told rising. -/
namespace Jq
open Go

/-- The pairs of one row. -/
def rowP (f : Nat → Nat) (i : Nat) : List (Int × Int) := (bitsL (f i)).map fun (k : Nat) => ((i : Int), (k : Int))

/-- All pairs. -/
def pairsP (n : Nat) (f : Nat → Nat) : List (Int × Int) := (List.range n).flatMap (rowP f)

theorem Own.keep {n : Nat} {h h' : AHeap} {x : Cell} {esz len : Nat} {cs : List Cell} (o : Own n h x esz cs len) (a : Kp h.length h h') : Own n h' x esz cs len := by
  refine ⟨o.1, o.2.imp id ?_⟩
  rintro ⟨k, rfl, hk, hb⟩
  exact ⟨k, rfl, hk, by rw [a.blk (blk_lt' hb)]; exact hb⟩

/-- Two rows lie apart. -/
def ApartB (x y : Cell) : Prop := ∀ k, isBlk y k → ¬ isBlk x k

theorem Own.apart {n m : Nat} {h : AHeap} {x y : Cell} {e1 e2 l1 l2 : Nat} {c1 c2 : List Cell} (o : Own n h x e1 c1 l1) (hm : h.length ≤ m) {h' : AHeap} (o2 : Own m h' y e2 c2 l2) : ApartB x y := by
  intro k hk hx
  rcases o.2 with ⟨rfl, _⟩ | ⟨k1, rfl, _, hb⟩
  · cases hx
  · rcases o2.2 with ⟨rfl, _⟩ | ⟨k2, rfl, hk2, _⟩
    · cases hk
    · have e1 : k1 = k := hx
      have e2 : k2 = k := hk
      have := blk_lt' hb
      omega

variable {E : Env}

end Jq

/- RelPairs: the pairs are the ones had, in order, no more; the relation of its pairs is itself. -/
namespace Jq
open Go

/-- A row's pairs below j. -/
def rowU (f : Nat → Nat) (i j : Nat) : List (Int × Int) := ((List.range j).filter fun k => (f i).testBit k).map fun (k : Nat) => ((i : Int), (k : Int))

section
variable {E : Env}
end

variable {E : Env}

end Jq

namespace Jq
open Go


end Jq

namespace Jq
open Go


end Jq

namespace Jq
open Go


end Jq

/- What a function needs of an environment. -/
namespace Jq
open Go


end Jq

namespace Jq
open Go


end Jq

namespace Jq
open Go


end Jq

namespace Jq
open Go


end Jq

/- What a function needs of an environment. -/
namespace Jq
open Go


end Jq

/- What a function needs of an environment. -/
namespace Jq
open Go


end Jq

namespace Jq
open Go


end Jq

namespace Jq
open Go


end Jq

/- What a function needs of an environment. -/
namespace Jq
open Go


end Jq

namespace Jq
open Go


end Jq

namespace Jq
open Go


end Jq

/- What a function needs of an environment. -/
namespace Jq
open Go


end Jq

/- What a function needs of an environment. -/
namespace Jq
open Go


end Jq

/- What a function needs of an environment. -/
namespace Jq
open Go


end Jq

/- What a function needs of an environment. -/
namespace Jq
open Go


end Jq

/- What a function needs of an environment. -/
namespace Jq
open Go


end Jq

/- What a function needs of an environment. -/
namespace Jq
open Go


end Jq

namespace Jq
open Go


end Jq

namespace Jq
open Go


end Jq

namespace Jq
open Go


end Jq

/- What a function needs of an environment. -/
namespace Jq
open Go


end Jq

namespace Jq
open Go


end Jq

/- Steps: which clash; who wakes; who may be first. -/
namespace Jq
open Go

structure Stp where
  pick : Int
  t : Int
  kind : Int
  loc : Int
  r : Int
  w : Int
  frm : Int

def Stp.cs (s : Stp) : List Cell := [.int .i64 s.pick, .int .i64 s.t, .int .i64 s.kind, .int .i64 s.loc, .int .i64 s.r, .int .i64 s.w, .int .i64 s.frm]
def shStep : Sh := .agg (Sh.rep (.i .i64) 7)
def stepsC (l : List Stp) : List Cell := l.flatMap Stp.cs

theorem stp_len (s : Stp) : s.cs.length = 7 := rfl
theorem stepsC_at : ∀ (l : List Stp) (i : Nat) (s : Stp), l[i]? = some s → ((stepsC l).drop (i * 7)).take 7 = s.cs
  | [], _, _, h => by simp at h
  | q :: l, 0, s, h => by simp at h; subst h; rfl
  | q :: l, i + 1, s, h => by
    have := stepsC_at l i s (by simpa using h)
    have e : stepsC (q :: l) = q.cs ++ stepsC l := rfl
    rw [e, List.drop_append, List.drop_of_length_le (by rw [stp_len]; omega), List.nil_append, show (i + 1) * 7 - q.cs.length = i * 7 by rw [stp_len]; omega]
    exact this

/-- One of a row, wherever it is looked at. -/
theorem SlAt.elG {h : AHeap} {x : Cell} {esz len : Nat} {cs : List Cell} (s : SlAt h x esz cs len) {i : Nat} (hi : i < len) :
    ∃ off cs', (∀ {α : Type} (G : Nat → List Cell → Option α), (idxSK esz x (i : Int) fun k N o => rdH h k N fun l => G o l) = G off cs') ∧ off + esz ≤ cs'.length ∧ (cs'.drop off).take esz = (cs.drop (i * esz)).take esz := by
  rcases s.2 with ⟨_, rfl⟩ | ⟨k, N, off, rfl, h0 | ⟨b, hb, hN, hle, hat⟩⟩
  · omega
  · omega
  · have hlt : i * esz + esz ≤ len * esz := by
      have : (i + 1) * esz ≤ len * esz := Nat.mul_le_mul_right _ hi
      rw [Nat.succ_mul] at this; exact this
    refine ⟨off + i * esz, b.cs, fun G => by rw [idxSK_ok hi, rdH_ok hb hN], by omega, ?_⟩
    refine List.ext_getElem? fun j => ?_
    rw [List.getElem?_take, List.getElem?_take]
    by_cases hj : j < esz
    · rw [if_pos hj, if_pos hj, List.getElem?_drop, List.getElem?_drop, Nat.add_assoc, hat _ (by omega)]
    · rw [if_neg hj, if_neg hj]

/-- One of the steps. -/
theorem SlAt.step {α : Type} {h : AHeap} {x : Cell} {l : List Stp} (s : SlAt h x 7 (stepsC l) l.length) {i : Nat} {q : Stp} (hq : l[i]? = some q) {f : List Cell → Option α} :
    (idxSK 7 x (i : Int) fun k N o => rdH h k N fun l => if o + 7 ≤ l.length then f ((l.drop o).take 7) else none) = f q.cs := by
  have hi : i < l.length := by
    rcases Nat.lt_or_ge i l.length with h | h
    · exact h
    · rw [List.getElem?_eq_none h] at hq; cases hq
  rw [s.getN hi, stepsC_at l i q hq]

def wrS (s : Stp) (m : Int) : Bool := s.kind == 6 || s.kind == 4 || (m == 1 && s.kind == 2)
def rdS (s : Stp) : Bool := s.kind == 1 || s.kind == 4 || s.kind == 5
def fnS (s : Stp) : Bool := s.kind == 3 || s.kind == 4 || s.kind == 5
def tchS (s : Stp) (m : Int) : Bool := wrS s m || rdS s
/-- Do two steps clash? -/
def clash (a b : Stp) (m : Int) : Bool :=
  if (a.pick == b.pick) = true then true
  else if (a.t == b.t) = true then (a.kind == 6 && fnS b) || (b.kind == 6 && fnS a)
  else tchS a m && tchS b m && a.loc == b.loc && (wrS a m || wrS b m)

/-- The sleepers that stay asleep. -/
def wakeS (a : Stp) (m : Int) : List Stp → Nat → Nat
  | [], s => s
  | x :: l, s => wakeS a m l (if clash x a m = true then ndiff s (bitI x.pick) else s)

section
variable {E : Env}

/-- May the one at a place be first, of those from a place on? -/
def frI (f : Nat → Nat) (a k : Nat) : Nat → Bool
  | 0 => true
  | i + 1 => frI f a k i && !(decide (a ≤ i) && (f i).testBit k)

/-- Who may be first, of the first so many. -/
def iniS (f : Nat → Nat) (l : List Int) (a : Nat) : Nat → Nat
  | 0 => 0
  | k + 1 => if (decide (a ≤ k) && frI f a k l.length) = true then iniS f l a k ||| bitI (l.getD k 0) else iniS f l a k

end
end Jq

namespace Jq
open Go

/- jacquard/prog.Start: 94 -/
set_option maxRecDepth 100000 in
theorem prog_Start_eq (C : CallF) (L : LoopF) (G : Glo) (l0 : List Cell) (a1 : Int) (h0 : AHeap) :
    prog_Start.body C L G [(.agg l0), (.c (.int .i64 a1))] h0 =
    if 0 = 0 ∧ l0.length = 3 then c1 (C 113 [(.agg l0), (.c (.int .i64 a1))] h0) fun y_2 h_1 => asC y_2 fun x_3 => c1 (C 114 [(.c x_3), (.agg [Cell.int .i64 0, Cell.int .i64 0, Cell.int .i64 0, Cell.int .i64 0, Cell.int .i64 0])] h_1) fun y_5 h_4 => asA y_5 fun l_6 => if 0 = 0 ∧ [Cell.int .i64 0, Cell.int .i64 0, Cell.int .i64 0, Cell.int .i64 0, Cell.int .i64 0].length = 5 ∧ l_6.length = 5 then if 0 = 0 ∧ l_6.length = 5 then some ([(.agg l_6)], h_4) else none else none else none := by kernel_rfl

/- jacquard/prog.Next: 105 -/
set_option maxRecDepth 100000 in
theorem prog_Next_eq (C : CallF) (L : LoopF) (G : Glo) (l0 : List Cell) (a1 : Int) (l2 : List Cell) (h0 : AHeap) :
    prog_Next.body C L G [(.agg l0), (.c (.int .i64 a1)), (.agg l2)] h0 =
    if 0 = 0 ∧ l0.length = 3 then c1 (C 113 [(.agg l0), (.c (.int .i64 a1))] h0) fun y_2 h_1 => asC y_2 fun x_3 => atK l2 0 fun q_4 => asI .i64 (.c q_4) fun n_5 => scK (decide (n_5 < 0)) false (atK l2 0 fun q_6 => asI .i64 (.c q_6) fun n_7 => lenK x_3 fun n_8 => some ((decide (n_7 ≥ n_8)), h_1)) true h_1 fun b_9 h_10 => if b_9 = true then if 0 = 0 ∧ (List.replicate 9 (Cell.int .i64 0)).length = 9 ∧ (List.replicate 9 (Cell.int .i64 0)).length = 9 then if 0 = 0 ∧ (List.replicate 9 (Cell.int .i64 0)).length = 9 then some ([(.agg (List.replicate 9 (Cell.int .i64 0))), (.c (.bool false))], h_10) else none else none else atK l2 0 fun q_11 => asI .i64 (.c q_11) fun n_12 => idxSK 9 x_3 n_12 fun k_13 N_14 o_15 => rdH h_10 k_13 N_14 fun l_16 => if o_15 + 9 ≤ l_16.length then if 0 = 0 ∧ (List.replicate 9 (Cell.int .i64 0)).length = 9 ∧ ((l_16.drop o_15).take 9).length = 9 then atK ((l_16.drop o_15).take 9) 0 fun q_17 => asI .i64 (.c q_17) fun n_18 => scK (decide (n_18 < 1)) false (atK ((l_16.drop o_15).take 9) 0 fun q_19 => asI .i64 (.c q_19) fun n_20 => some ((decide (n_20 > 4)), h_10)) true h_10 fun b_21 h_22 => if b_21 = true then if 0 = 0 ∧ (List.replicate 9 (Cell.int .i64 0)).length = 9 ∧ (List.replicate 9 (Cell.int .i64 0)).length = 9 then if 0 = 0 ∧ (List.replicate 9 (Cell.int .i64 0)).length = 9 then some ([(.agg (List.replicate 9 (Cell.int .i64 0))), (.c (.bool false))], h_22) else none else none else if 0 = 0 ∧ ((l_16.drop o_15).take 9).length = 9 then if 0 = 0 ∧ (List.replicate 9 (Cell.int .i64 0)).length = 9 ∧ ((l_16.drop o_15).take 9).length = 9 then if 0 = 0 ∧ ((l_16.drop o_15).take 9).length = 9 then some ([(.agg ((l_16.drop o_15).take 9)), (.c (.bool true))], h_22) else none else none else none else none else none else none := by kernel_rfl

/- jacquard/prog.After: 106 -/
set_option maxRecDepth 100000 in
theorem prog_After_eq (C : CallF) (L : LoopF) (G : Glo) (l0 : List Cell) (a1 : Int) (l2 : List Cell) (a3 : Int) (h0 : AHeap) :
    prog_After.body C L G [(.agg l0), (.c (.int .i64 a1)), (.agg l2), (.c (.int .i64 a3))] h0 =
    if 0 = 0 ∧ l0.length = 3 then rdH (h0 ++ [some (Blk.mk true 0 (AV.cells (.agg l2)))]) h0.length ((AV.cells (.agg l2)).length) fun l_1 => if 0 = 0 ∧ l_1.length = 5 then c2 (C 105 [(.agg l0), (.c (.int .i64 a1)), (.agg l_1)] (h0 ++ [some (Blk.mk true 0 (AV.cells (.agg l2)))])) fun y_3 y_4 h_2 => asA y_3 fun l_5 => asB y_4 fun b_6 => if 0 = 0 ∧ (List.replicate 9 (Cell.int .i64 0)).length = 9 ∧ l_5.length = 9 then if (!b_6) = true then rdH h_2 h0.length ((AV.cells (.agg l2)).length) fun l_7 => if 0 = 0 ∧ l_7.length = 5 then if 0 = 0 ∧ [Cell.int .i64 0, Cell.int .i64 0, Cell.int .i64 0, Cell.int .i64 0, Cell.int .i64 0].length = 5 ∧ l_7.length = 5 then if 0 = 0 ∧ l_7.length = 5 then finish true h0 [(.agg l_7)] h_2 else none else none else none else atK l_5 0 fun q_8 => asI .i64 (.c q_8) fun n_9 => scK (n_9 == 2) false (atK l_5 0 fun q_10 => asI .i64 (.c q_10) fun n_11 => some ((n_11 == 4), h_2)) true h_2 fun b_12 h_13 => if b_12 = true then atK l_5 1 fun q_14 => asI .i64 (.c q_14) fun n_15 => c0 (C 124 [(.c (.ptr h0.length ((AV.cells (.agg l2)).length) 0)), (.c (.int .i64 n_15)), (.c (.int .i64 a3))] h_13) fun h_16 => rdH h_16 h0.length ((AV.cells (.agg l2)).length) fun l_17 => atK l_17 0 fun q_18 => asI .i64 (.c q_18) fun n_19 => rdH h_16 h0.length ((AV.cells (.agg l2)).length) fun l_20 => if 0 < l_20.length then putH h_16 h0.length (l_20.set 0 (.int .i64 (G.wrap .i64 (n_19 + 1)))) fun h_21 => if 0 = 0 ∧ l0.length = 3 then c1 (qh h_21 (C 113 [(.agg l0), (.c (.int .i64 a1))] h_21)) fun y_23 h_22 => asC y_23 fun x_24 => rdH h_21 h0.length ((AV.cells (.agg l2)).length) fun l_25 => if 0 = 0 ∧ l_25.length = 5 then c1 (qh h_21 (C 114 [(.c x_24), (.agg l_25)] h_21)) fun y_27 h_26 => asA y_27 fun l_28 => if 0 = 0 ∧ [Cell.int .i64 0, Cell.int .i64 0, Cell.int .i64 0, Cell.int .i64 0, Cell.int .i64 0].length = 5 ∧ l_28.length = 5 then if 0 = 0 ∧ l_28.length = 5 then finish true h0 [(.agg l_28)] h_21 else none else none else none else none else none else rdH h_13 h0.length ((AV.cells (.agg l2)).length) fun l_29 => atK l_29 0 fun q_30 => asI .i64 (.c q_30) fun n_31 => rdH h_13 h0.length ((AV.cells (.agg l2)).length) fun l_32 => if 0 < l_32.length then putH h_13 h0.length (l_32.set 0 (.int .i64 (G.wrap .i64 (n_31 + 1)))) fun h_33 => if 0 = 0 ∧ l0.length = 3 then c1 (qh h_33 (C 113 [(.agg l0), (.c (.int .i64 a1))] h_33)) fun y_35 h_34 => asC y_35 fun x_36 => rdH h_33 h0.length ((AV.cells (.agg l2)).length) fun l_37 => if 0 = 0 ∧ l_37.length = 5 then c1 (qh h_33 (C 114 [(.c x_36), (.agg l_37)] h_33)) fun y_39 h_38 => asA y_39 fun l_40 => if 0 = 0 ∧ [Cell.int .i64 0, Cell.int .i64 0, Cell.int .i64 0, Cell.int .i64 0, Cell.int .i64 0].length = 5 ∧ l_40.length = 5 then if 0 = 0 ∧ l_40.length = 5 then finish true h0 [(.agg l_40)] h_33 else none else none else none else none else none else none else none else none := by kernel_rfl

/- jacquard/prog.Value: 108 -/
set_option maxRecDepth 100000 in
theorem prog_Value_eq (C : CallF) (L : LoopF) (G : Glo) (l0 : List Cell) (l1 : List Cell) (h0 : AHeap) :
    prog_Value.body C L G [(.agg l0), (.agg l1)] h0 =
    atK l0 0 fun q_1 => asI .i64 (.c q_1) fun n_2 => scK (decide (n_2 ≥ 0)) true (atK l0 0 fun q_3 => asI .i64 (.c q_3) fun n_4 => some ((decide (n_4 < 4)), h0)) false h0 fun b_5 h_6 => if b_5 = true then atK l0 0 fun q_7 => asI .i64 (.c q_7) fun n_8 => if 0 ≤ n_8 ∧ n_8 < ((4 : Nat) : Int) then atK l1 (1 + ((Int.toNat n_8) * 1)) fun q_9 => asI .i64 (.c q_9) fun n_10 => some ([(.c (.int .i64 n_10))], h_6) else none else atK l0 1 fun q_11 => asI .i64 (.c q_11) fun n_12 => some ([(.c (.int .i64 n_12))], h_6) := by kernel_rfl

/- jacquard/prog.thread: 113 -/
set_option maxRecDepth 100000 in
theorem prog_thread_eq (C : CallF) (L : LoopF) (G : Glo) (l0 : List Cell) (a1 : Int) (h0 : AHeap) :
    prog_thread.body C L G [(.agg l0), (.c (.int .i64 a1))] h0 =
    scK (decide (a1 < 0)) false (atK l0 2 fun q_1 => lenK q_1 fun n_2 => some ((decide (a1 ≥ n_2)), h0)) true h0 fun b_3 h_4 => if b_3 = true then some ([(.c .nils)], h_4) else atK l0 2 fun q_5 => idxSK 1 q_5 a1 fun k_6 N_7 o_8 => rdH h_4 k_6 N_7 fun l_9 => atK l_9 o_8 fun q_10 => some ([(.c q_10)], h_4) := by kernel_rfl

/- jacquard/prog.normal: 114 -/
def prog_normal_k2 (C : CallF) (L : LoopF) (G : Glo) (h0 : AHeap) : Ex → St → Option (List AV × AHeap) :=
  kSeq (fun st => prog_normal_p1.exec C L G st (prog_normal.fin G h0)) (prog_normal.fin G h0)
def prog_normal_k3 (C : CallF) (L : LoopF) (G : Glo) (h0 : AHeap) : Ex → St → Option (List AV × AHeap) :=
  kBlk 0 (prog_normal_k2 C L G h0)
def prog_normal_s1 (x0 : Cell) (k3 : Nat) (N3 : Nat) (o3 : Nat) (s0 : List Cell) (h : AHeap) : St := ⟨[.v (.c x0), .top, .top, .v (.c (.ptr k3 N3 o3)), .loc 0 0, .top, .top, .top, .top, .top, .top, .top, .top, .top, .top, .top, .top, .top, .top, .top, .top, .top, .top, .top, .top, .top, .top, .top, .top, .top, .top, .top, .top, .top, .top, .top, .top, .top, .top, .top, .top, .top, .top, .top, .top, .top, .top, .top, .top, .top, .top, .top, .top, .top, .top, .top, .top, .top, .top, .top, .top, .top, .top, .top, .top, .top, .top, .top, .top, .top, .top, .top], [some s0, none], h⟩
def prog_normal_F1 (C : CallF) (L : LoopF) (G : Glo) : St → Option (Ex × St) :=
  roundF (fun st f => prog_normal_b1.exec C L G st f) [0, 3, 4] [0] [(0, [4], [0]), (1, [3, 4], [0])]
def prog_normal_x1_0 (s0 : List Cell) (h : AHeap) : St := ⟨[.top, .top, .top, .top, .loc 0 0, .top, .top, .top, .top, .top, .top, .top, .top, .top, .top, .top, .top, .top, .top, .top, .top, .top, .top, .top, .top, .top, .top, .top, .top, .top, .top, .top, .top, .top, .top, .top, .top, .top, .top, .top, .top, .top, .top, .top, .top, .top, .top, .top, .top, .top, .top, .top, .top, .top, .top, .top, .top, .top, .top, .top, .top, .top, .top, .top, .top, .top, .top, .top, .top, .top, .top, .top], [some s0, none], h⟩
def prog_normal_x1_1 (k3 : Nat) (N3 : Nat) (o3 : Nat) (s0 : List Cell) (h : AHeap) : St := ⟨[.top, .top, .top, .v (.c (.ptr k3 N3 o3)), .loc 0 0, .top, .top, .top, .top, .top, .top, .top, .top, .top, .top, .top, .top, .top, .top, .top, .top, .top, .top, .top, .top, .top, .top, .top, .top, .top, .top, .top, .top, .top, .top, .top, .top, .top, .top, .top, .top, .top, .top, .top, .top, .top, .top, .top, .top, .top, .top, .top, .top, .top, .top, .top, .top, .top, .top, .top, .top, .top, .top, .top, .top, .top, .top, .top, .top, .top, .top, .top], [some s0, none], h⟩
theorem prog_normal_r1 (C : CallF) (L : LoopF) (G : Glo) (x0 : Cell) (k3 : Nat) (N3 : Nat) (o3 : Nat) (s0 : List Cell) (h : AHeap) :
    prog_normal_F1 C L G (prog_normal_s1 x0 k3 N3 o3 s0 h) =
    rdH h k3 N3 fun l_1 => atK l_1 (o3 + 0) fun q_2 => asI .i64 (.c q_2) fun n_3 => scK (decide (n_3 ≥ 0)) true (rdH h k3 N3 fun l_4 => atK l_4 (o3 + 0) fun q_5 => asI .i64 (.c q_5) fun n_6 => lenK x0 fun n_7 => some ((decide (n_6 < n_7)), h)) false h fun b_8 h_9 => if b_8 = true then rdH h_9 k3 N3 fun l_10 => atK l_10 (o3 + 0) fun q_11 => asI .i64 (.c q_11) fun n_12 => idxSK 9 x0 n_12 fun k_13 N_14 o_15 => rdH h_9 k_13 N_14 fun l_16 => if o_15 + 9 ≤ l_16.length then if 0 = 0 ∧ (List.replicate 9 (Cell.int .i64 0)).length = 9 ∧ ((l_16.drop o_15).take 9).length = 9 then if 3 + 2 ≤ ((l_16.drop o_15).take 9).length then rdH h_9 k3 N3 fun l_17 => if o3 = 0 ∧ l_17.length = 5 then c1 (qh h_9 (C 108 [(.agg ((((l_16.drop o_15).take 9).drop 3).take 2)), (.agg l_17)] h_9)) fun y_19 h_18 => asI .i64 y_19 fun n_20 => if 6 + 2 ≤ ((l_16.drop o_15).take 9).length then rdH h_9 k3 N3 fun l_21 => if o3 = 0 ∧ l_21.length = 5 then c1 (qh h_9 (C 108 [(.agg ((((l_16.drop o_15).take 9).drop 6).take 2)), (.agg l_21)] h_9)) fun y_23 h_22 => asI .i64 y_23 fun n_24 => atK ((l_16.drop o_15).take 9) 0 fun q_25 => asI .i64 (.c q_25) fun n_26 => if (n_26 == 5) = true then atK ((l_16.drop o_15).take 9) 5 fun q_27 => asI .i64 (.c q_27) fun n_28 => c2 (C 125 [(.c (.int .i64 n_28)), (.c (.int .i64 n_20)), (.c (.int .i64 n_24))] h_9) fun y_30 y_31 h_29 => asI .i64 y_30 fun n_32 => asB y_31 fun b_33 => if b_33 = true then atK ((l_16.drop o_15).take 9) 1 fun q_34 => asI .i64 (.c q_34) fun n_35 => c0 (C 124 [(.c (.ptr k3 N3 o3)), (.c (.int .i64 n_35)), (.c (.int .i64 n_32))] h_29) fun h_36 => rdH h_36 k3 N3 fun l_37 => atK l_37 (o3 + 0) fun q_38 => asI .i64 (.c q_38) fun n_39 => rdH h_36 k3 N3 fun l_40 => if (o3 + 0) < l_40.length then putH h_36 k3 (l_40.set (o3 + 0) (.int .i64 (G.wrap .i64 (n_39 + 1)))) fun h_41 => some (.normal, (prog_normal_s1 x0 k3 N3 o3 s0 h_41)) else none else atK ((l_16.drop o_15).take 9) 1 fun q_42 => asI .i64 (.c q_42) fun n_43 => c0 (C 124 [(.c (.ptr k3 N3 o3)), (.c (.int .i64 n_43)), (.c (.int .i64 n_20))] h_29) fun h_44 => rdH h_44 k3 N3 fun l_45 => atK l_45 (o3 + 0) fun q_46 => asI .i64 (.c q_46) fun n_47 => rdH h_44 k3 N3 fun l_48 => if (o3 + 0) < l_48.length then putH h_44 k3 (l_48.set (o3 + 0) (.int .i64 (G.wrap .i64 (n_47 + 1)))) fun h_49 => some (.normal, (prog_normal_s1 x0 k3 N3 o3 s0 h_49)) else none else if (n_26 == 6) = true then if (n_20 == n_24) = true then rdH h_9 k3 N3 fun l_50 => atK l_50 (o3 + 0) fun q_51 => asI .i64 (.c q_51) fun n_52 => atK ((l_16.drop o_15).take 9) 8 fun q_53 => asI .i64 (.c q_53) fun n_54 => lenK x0 fun n_55 => let v_56 : Int := (if n_55 < (if 0 > n_54 then 0 else n_54) then n_55 else (if 0 > n_54 then 0 else n_54)); rdH h_9 k3 N3 fun l_57 => if (o3 + 0) < l_57.length then putH h_9 k3 (l_57.set (o3 + 0) (.int .i64 (G.wrap .i64 (n_52 + v_56)))) fun h_58 => rdH h_58 k3 N3 fun l_59 => atK l_59 (o3 + 0) fun q_60 => asI .i64 (.c q_60) fun n_61 => rdH h_58 k3 N3 fun l_62 => if (o3 + 0) < l_62.length then putH h_58 k3 (l_62.set (o3 + 0) (.int .i64 (G.wrap .i64 (n_61 + 1)))) fun h_63 => some (.normal, (prog_normal_s1 x0 k3 N3 o3 s0 h_63)) else none else none else rdH h_9 k3 N3 fun l_64 => atK l_64 (o3 + 0) fun q_65 => asI .i64 (.c q_65) fun n_66 => rdH h_9 k3 N3 fun l_67 => if (o3 + 0) < l_67.length then putH h_9 k3 (l_67.set (o3 + 0) (.int .i64 (G.wrap .i64 (n_66 + 1)))) fun h_68 => some (.normal, (prog_normal_s1 x0 k3 N3 o3 s0 h_68)) else none else rdH h_9 k3 N3 fun l_69 => if o3 = 0 ∧ l_69.length = 5 then if 0 = 0 ∧ s0.length = 5 ∧ l_69.length = 5 then some (.ret, (prog_normal_x1_0 l_69 h_9)) else none else none else none else none else none else none else none else none else some ((.exit 0), (prog_normal_x1_1 k3 N3 o3 s0 h_9)) := by kernel_rfl
theorem prog_normal_e1_0 (C : CallF) (L : LoopF) (G : Glo) (h0 : AHeap) (s0 : List Cell) (h : AHeap) :
    (prog_normal_k3 C L G h0) .ret (prog_normal_x1_0 s0 h) =
    if 0 = 0 ∧ s0.length = 5 then finish true h0 [(.agg s0)] h else none := by kernel_rfl
theorem prog_normal_e1_1 (C : CallF) (L : LoopF) (G : Glo) (h0 : AHeap) (k3 : Nat) (N3 : Nat) (o3 : Nat) (s0 : List Cell) (h : AHeap) :
    (prog_normal_k3 C L G h0) (.exit 0) (prog_normal_x1_1 k3 N3 o3 s0 h) =
    rdH h k3 N3 fun l_70 => if o3 = 0 ∧ l_70.length = 5 then if 0 = 0 ∧ s0.length = 5 ∧ l_70.length = 5 then if 0 = 0 ∧ l_70.length = 5 then finish true h0 [(.agg l_70)] h else none else none else none := by kernel_rfl
set_option maxRecDepth 100000 in
theorem prog_normal_eq (C : CallF) (L : LoopF) (G : Glo) (x0 : Cell) (l1 : List Cell) (h0 : AHeap) :
    prog_normal.body C L G [(.c x0), (.agg l1)] h0 =
    (L (prog_normal_F1 C L G) (prog_normal_s1 x0 h0.length ((AV.cells (.agg l1)).length) 0 [Cell.int .i64 0, Cell.int .i64 0, Cell.int .i64 0, Cell.int .i64 0, Cell.int .i64 0] (h0 ++ [some (Blk.mk true 0 (AV.cells (.agg l1)))]))).bind fun p_71 => (prog_normal_k3 C L G h0) p_71.1 p_71.2 := by kernel_rfl

/- jacquard/prog.set: 124 -/
set_option maxRecDepth 100000 in
theorem prog_set_eq (C : CallF) (L : LoopF) (G : Glo) (k0 : Nat) (N0 : Nat) (o0 : Nat) (a1 : Int) (a2 : Int) (h0 : AHeap) :
    prog_set.body C L G [(.c (.ptr k0 N0 o0)), (.c (.int .i64 a1)), (.c (.int .i64 a2))] h0 =
    scK (decide (a1 ≥ 0)) true (some ((decide (a1 < 4)), h0)) false h0 fun b_1 h_2 => if b_1 = true then if 0 ≤ a1 ∧ a1 < ((4 : Nat) : Int) then rdH h_2 k0 N0 fun l_3 => if ((o0 + 1) + ((Int.toNat a1) * 1)) < l_3.length then putH h_2 k0 (l_3.set ((o0 + 1) + ((Int.toNat a1) * 1)) (.int .i64 a2)) fun h_4 => some ([], h_4) else none else none else some ([], h_2) := by kernel_rfl


end Jq

namespace Jq
open Go

/- jacquard/num.Do: 125 -/
set_option maxRecDepth 100000 in
theorem num_Do_eq (C : CallF) (L : LoopF) (G : Glo) (a0 : Int) (a1 : Int) (a2 : Int) (h0 : AHeap) :
    num_Do.body C L G [(.c (.int .i64 a0)), (.c (.int .i64 a1)), (.c (.int .i64 a2))] h0 =
    if (a0 == 1) = true then some ([(.c (.int .i64 (G.wrap .i64 (a1 + a2)))), (.c (.bool true))], h0) else if (a0 == 2) = true then some ([(.c (.int .i64 (G.wrap .i64 (a1 - a2)))), (.c (.bool true))], h0) else if (a0 == 3) = true then some ([(.c (.int .i64 (G.wrap .i64 (a1 * a2)))), (.c (.bool true))], h0) else if (a0 == 4) = true then some ([(.c (.int .i64 (G.band .i64 a1 a2))), (.c (.bool true))], h0) else if (a0 == 5) = true then some ([(.c (.int .i64 (G.bor .i64 a1 a2))), (.c (.bool true))], h0) else if (a0 == 6) = true then some ([(.c (.int .i64 (G.bxor .i64 a1 a2))), (.c (.bool true))], h0) else if (a0 == 7) = true then if (G.rem .u64 (G.wrap .u64 a2) 64) < 0 then none else let v_1 : Int := (G.shl .i64 a1 (G.rem .u64 (G.wrap .u64 a2) 64)); some ([(.c (.int .i64 v_1)), (.c (.bool true))], h0) else if (a0 == 8) = true then if (G.rem .u64 (G.wrap .u64 a2) 64) < 0 then none else let v_2 : Int := (G.shr .i64 a1 (G.rem .u64 (G.wrap .u64 a2) 64)); some ([(.c (.int .i64 v_2)), (.c (.bool true))], h0) else if (a0 == 9) = true then c1 (C 139 [(.c (.bool (a1 == a2)))] h0) fun y_4 h_3 => asI .i64 y_4 fun n_5 => some ([(.c (.int .i64 n_5)), (.c (.bool true))], h_3) else if (a0 == 10) = true then c1 (C 139 [(.c (.bool (a1 != a2)))] h0) fun y_7 h_6 => asI .i64 y_7 fun n_8 => some ([(.c (.int .i64 n_8)), (.c (.bool true))], h_6) else if (a0 == 11) = true then c1 (C 139 [(.c (.bool (decide (a1 < a2))))] h0) fun y_10 h_9 => asI .i64 y_10 fun n_11 => some ([(.c (.int .i64 n_11)), (.c (.bool true))], h_9) else some ([(.c (.int .i64 0)), (.c (.bool false))], h0) := by kernel_rfl

/- jacquard/num.one: 139 -/
set_option maxRecDepth 100000 in
theorem num_one_eq (C : CallF) (L : LoopF) (G : Glo) (b0 : Bool) (h0 : AHeap) :
    num_one.body C L G [(.c (.bool b0))] h0 =
    if b0 = true then some ([(.c (.int .i64 1))], h0) else some ([(.c (.int .i64 0))], h0) := by kernel_rfl


end Jq

/- Programs: instructions, where a thread is; what is done at once. -/
namespace Jq
open Go

structure Opd where
  reg : Int
  val : Int
  deriving DecidableEq
structure Ins where
  kind : Int
  reg : Int
  loc : Int
  a : Opd
  op : Int
  b : Opd
  n : Int
  deriving DecidableEq
structure Lcl where
  pc : Int
  r0 : Int
  r1 : Int
  r2 : Int
  r3 : Int
  deriving DecidableEq

def Opd.cs (o : Opd) : List Cell := [.int .i64 o.reg, .int .i64 o.val]
def Ins.cs (i : Ins) : List Cell := [.int .i64 i.kind, .int .i64 i.reg, .int .i64 i.loc, .int .i64 i.a.reg, .int .i64 i.a.val, .int .i64 i.op, .int .i64 i.b.reg, .int .i64 i.b.val, .int .i64 i.n]
def Lcl.cs (l : Lcl) : List Cell := [.int .i64 l.pc, .int .i64 l.r0, .int .i64 l.r1, .int .i64 l.r2, .int .i64 l.r3]
def codeC (l : List Ins) : List Cell := l.flatMap Ins.cs
def Ins.zero : Ins := ⟨0, 0, 0, ⟨0, 0⟩, 0, ⟨0, 0⟩, 0⟩
def Lcl.zero : Lcl := ⟨0, 0, 0, 0, 0⟩

theorem Ins.len (i : Ins) : i.cs.length = 9 := rfl
theorem Lcl.len (l : Lcl) : l.cs.length = 5 := rfl
theorem zero5 : [Cell.int .i64 0, Cell.int .i64 0, Cell.int .i64 0, Cell.int .i64 0, Cell.int .i64 0] = Lcl.zero.cs := rfl

theorem codeC_len : ∀ l : List Ins, (codeC l).length = l.length * 9
  | [] => rfl
  | s :: l => by simp only [codeC, List.flatMap_cons, List.length_append]; rw [show (l.flatMap _).length = _ from codeC_len l, Ins.len]; simp; omega

theorem codeC_at : ∀ (l : List Ins) (i : Nat) (s : Ins), l[i]? = some s → ((codeC l).drop (i * 9)).take 9 = s.cs
  | [], _, _, h => by simp at h
  | q :: l, 0, s, h => by simp at h; subst h; rfl
  | q :: l, i + 1, s, h => by
    have := codeC_at l i s (by simpa using h)
    have e : codeC (q :: l) = q.cs ++ codeC l := rfl
    rw [e, List.drop_append, List.drop_of_length_le (by rw [Ins.len]; omega), List.nil_append, show (i + 1) * 9 - q.cs.length = i * 9 by rw [Ins.len]; omega]
    exact this

theorem codeC_snoc (l : List Ins) (s : Ins) : codeC (l ++ [s]) = codeC l ++ s.cs := by simp [codeC]

/-- One instruction, wherever it is looked at. -/
theorem SlAt.insG {h : AHeap} {x : Cell} {l : List Ins} (s : SlAt h x 9 (codeC l) l.length) {i : Nat} {q : Ins} (hq : l[i]? = some q) :
    ∃ off cs', (∀ {α : Type} (G : Nat → List Cell → Option α), (idxSK 9 x (i : Int) fun k N o => rdH h k N fun l => G o l) = G off cs') ∧ off + 9 ≤ cs'.length ∧ (cs'.drop off).take 9 = q.cs := by
  have hi : i < l.length := by
    rcases Nat.lt_or_ge i l.length with h | h
    · exact h
    · rw [List.getElem?_eq_none h] at hq; cases hq
  obtain ⟨off, cs', h1, h2, h3⟩ := s.elG hi
  exact ⟨off, cs', h1, h2, h3.trans (codeC_at l i q hq)⟩

/-- A register. -/
def Lcl.reg (l : Lcl) (i : Int) : Int := if i = 0 then l.r0 else if i = 1 then l.r1 else if i = 2 then l.r2 else l.r3
/-- A register set, if there is one. -/
def Lcl.setR (l : Lcl) (i v : Int) : Lcl := if i = 0 then { l with r0 := v } else if i = 1 then { l with r1 := v } else if i = 2 then { l with r2 := v } else if i = 3 then { l with r3 := v } else l
/-- An operand's number. -/
def opV (o : Opd) (l : Lcl) : Int := if 0 ≤ o.reg ∧ o.reg < 4 then l.reg o.reg else o.val

/-- Numbers as they are, no tables. -/
def GN : Glo := Glo.std fun _ => []

/-- What a sign makes of two numbers. -/
def doV (op a b : Int) : Option Int :=
  if op = 1 then some (GN.wrap .i64 (a + b)) else if op = 2 then some (GN.wrap .i64 (a - b)) else if op = 3 then some (GN.wrap .i64 (a * b))
  else if op = 4 then some (GN.band .i64 a b) else if op = 5 then some (GN.bor .i64 a b) else if op = 6 then some (GN.bxor .i64 a b)
  else if op = 7 then some (GN.shl .i64 a (GN.rem .u64 (GN.wrap .u64 b) 64)) else if op = 8 then some (GN.shr .i64 a (GN.rem .u64 (GN.wrap .u64 b) 64))
  else if op = 9 then some (if a = b then 1 else 0) else if op = 10 then some (if a = b then 0 else 1) else if op = 11 then some (if a < b then 1 else 0) else none

/-- One instruction that is done at once, if one comes. -/
def stepI (code : List Ins) (l : Lcl) : Option Lcl :=
  if 0 ≤ l.pc then match code[l.pc.toNat]? with
    | none => none
    | some i =>
      if i.kind = 5 then
        let m := l.setR i.reg ((doV i.op (opV i.a l) (opV i.b l)).getD (opV i.a l))
        some { m with pc := m.pc + 1 }
      else if i.kind = 6 then
        (if opV i.a l = opV i.b l then some { l with pc := l.pc + min (max i.n 0) code.length + 1 } else some { l with pc := l.pc + 1 })
      else none
  else none

def nrm (code : List Ins) : Nat → Lcl → Lcl
  | 0, l => l
  | k + 1, l => match stepI code l with
    | none => l
    | some l' => nrm code k l'

/-- Made normal. -/
def normL (code : List Ins) (l : Lcl) : Lcl := nrm code code.length l

theorem getI_lt {α : Type} {l : List α} {i : Nat} {v : α} (h : l[i]? = some v) : i < l.length := by
  rcases Nat.lt_or_ge i l.length with h1 | h1
  · exact h1
  · rw [List.getElem?_eq_none h1] at h; cases h

theorem Lcl.setR_pc (l : Lcl) (i v : Int) : (l.setR i v).pc = l.pc := by unfold Lcl.setR; repeat' split <;> try rfl

theorem stepI_pc {code : List Ins} {l l' : Lcl} (h : stepI code l = some l') : 0 ≤ l.pc ∧ l.pc < code.length ∧ l.pc < l'.pc ∧ l'.pc ≤ 2 * code.length := by
  unfold stepI at h
  split at h
  · rename_i h0
    cases hi : code[l.pc.toNat]? with
    | none => rw [hi] at h; cases h
    | some i =>
      rw [hi] at h
      have hlt := getI_lt hi
      simp only at h
      split at h
      · cases h
        have := l.setR_pc i.reg ((doV i.op (opV i.a l) (opV i.b l)).getD (opV i.a l))
        refine ⟨h0, by omega, ?_, ?_⟩ <;> simp only [this] <;> omega
      · split at h
        · split at h
          · cases h; refine ⟨h0, by omega, ?_, ?_⟩ <;> simp only <;> omega
          · cases h; refine ⟨h0, by omega, ?_, ?_⟩ <;> simp only <;> omega
        · cases h
  · cases h

section
variable {E : Env}

theorem lcl_get {l : Lcl} {i : Int} (h0 : 0 ≤ i) (h1 : i < 4) : l.cs[1 + Int.toNat i * 1]? = some (.int .i64 (l.reg i)) := by
  have h : i = 0 ∨ i = 1 ∨ i = 2 ∨ i = 3 := by omega
  rcases h with rfl | rfl | rfl | rfl <;> rfl

theorem lcl_set {l : Lcl} {i v : Int} (h0 : 0 ≤ i) (h1 : i < 4) : l.cs.set (1 + Int.toNat i * 1) (.int .i64 v) = (l.setR i v).cs := by
  have h : i = 0 ∨ i = 1 ∨ i = 2 ∨ i = 3 := by omega
  rcases h with rfl | rfl | rfl | rfl <;> rfl

theorem Value_R (hE : prog_Value_In E) (o : Opd) (l : Lcl) (h : AHeap) : R E 108 [.agg o.cs, .agg l.cs] h = some ([.c (.int .i64 (opV o l))], h) := by
  refine R_intro hE.fn ?_
  have a0 : ∀ {α : Type} (f : Cell → Option α), atK o.cs 0 f = f (.int .i64 o.reg) := fun _ => rfl
  have a1 : ∀ {α : Type} (f : Cell → Option α), atK o.cs 1 f = f (.int .i64 o.val) := fun _ => rfl
  unfold opV
  rw [prog_Value_eq]
  simp only [a0, a1, asI_ok, scK_and]
  by_cases h1 : 0 ≤ o.reg ∧ o.reg < 4
  · rw [if_pos (by simp; exact h1), if_pos ⟨h1.1, h1.2⟩, if_pos h1, atK_ok (lcl_get h1.1 h1.2), asI_ok]
  · rw [if_neg (by simp; omega), if_neg h1]

theorem set_R (hE : prog_set_In E) (i v : Int) {l : Lcl} {k : Nat} {h : AHeap} (hk : blk? h k = some ⟨true, 0, l.cs⟩) :
    R E 124 [.c (.ptr k 5 0), .c (.int .i64 i), .c (.int .i64 v)] h = some ([], setBlk h k (some ⟨true, 0, (l.setR i v).cs⟩)) := by
  refine R_intro hE.fn ?_
  rw [prog_set_eq, scK_and]
  by_cases h1 : 0 ≤ i ∧ i < 4
  · rw [if_pos (by simp; exact h1), if_pos ⟨h1.1, h1.2⟩, rdH_ok hk (Lcl.len l), if_pos (by rw [Lcl.len]; omega), show 0 + 1 + Int.toNat i * 1 = 1 + Int.toNat i * 1 by omega, lcl_set h1.1 h1.2, putH_ok hk rfl]
  · have e : l.setR i v = l := by unfold Lcl.setR; rw [if_neg (by omega), if_neg (by omega), if_neg (by omega), if_neg (by omega)]
    have e2 : setBlk h k (some ⟨true, 0, l.cs⟩) = h := by
      refine List.ext_getElem? fun j => ?_
      unfold setBlk
      rw [List.getElem?_set]
      by_cases hj : k = j
      · subst hj
        rw [if_pos rfl, if_pos (blk_lt' hk)]
        unfold blk? at hk
        cases hh : h[k]? with
        | none => rw [hh] at hk; cases hk
        | some b => rw [hh] at hk; simp at hk; rw [hk]
      · rw [if_neg hj]
    rw [if_neg (by simp; omega), e, e2]

theorem one_R (hE : num_one_In E) (b : Bool) (h : AHeap) : R E 139 [.c (.bool b)] h = some ([.c (.int .i64 (if b = true then 1 else 0))], h) := by
  refine R_intro hE.fn ?_
  rw [num_one_eq]
  cases b <;> rfl

theorem Do_R (hE : num_Do_In E) (op a b : Int) (h : AHeap) : R E 125 [.c (.int .i64 op), .c (.int .i64 a), .c (.int .i64 b)] h = some ([.c (.int .i64 ((doV op a b).getD 0)), .c (.bool (doV op a b).isSome)], h) := by
  refine R_intro hE.fn ?_
  rw [num_Do_eq]
  simp only [one_R hE.c139, c1_ok, asI_ok]
  have hr : ∀ x : Int, ¬ E.glob.rem .u64 (E.glob.wrap .u64 x) 64 < 0 := by
    intro x
    show ¬ Int.tmod (IntKind.wrap .u64 x) 64 < 0
    have h0 : 0 ≤ IntKind.wrap .u64 x := by
      simp only [IntKind.wrap, IntKind.signed, IntKind.bits, Bool.false_and, Bool.false_eq_true, if_false]
      exact Int.emod_nonneg _ (by omega)
    rw [Int.tmod_eq_emod_of_nonneg h0]
    have := Int.emod_nonneg (IntKind.wrap .u64 x) (b := 64) (by omega)
    omega
  simp only [hr, if_false]
  unfold doV
  have key : ∀ k : Int, ((op == k) = true) = (op = k) := fun k => by rw [beq_iff_eq]
  simp only [key]
  by_cases h1 : op = 1
  · simp only [if_pos h1]; rfl
  simp only [if_neg h1]
  by_cases h2 : op = 2
  · simp only [if_pos h2]; rfl
  simp only [if_neg h2]
  by_cases h3 : op = 3
  · simp only [if_pos h3]; rfl
  simp only [if_neg h3]
  by_cases h4 : op = 4
  · simp only [if_pos h4]; rfl
  simp only [if_neg h4]
  by_cases h5 : op = 5
  · simp only [if_pos h5]; rfl
  simp only [if_neg h5]
  by_cases h6 : op = 6
  · simp only [if_pos h6]; rfl
  simp only [if_neg h6]
  by_cases h7 : op = 7
  · simp only [if_pos h7]; rfl
  simp only [if_neg h7]
  by_cases h8 : op = 8
  · simp only [if_pos h8]; rfl
  simp only [if_neg h8]
  by_cases h9 : op = 9
  · simp only [if_pos h9]; (by_cases hab : a = b <;> simp [hab])
  simp only [if_neg h9]
  by_cases h10 : op = 10
  · simp only [if_pos h10]; (by_cases hab : a = b <;> simp [hab])
  simp only [if_neg h10]
  by_cases h11 : op = 11
  · simp only [if_pos h11]; (by_cases hab : a < b <;> simp [hab])
  simp only [if_neg h11]
  rfl

end
end Jq

/- RelAlgebra: joining and meeting are the same both ways; turned twice a relation is itself; closed twice it is closed. -/
namespace Jq
open Go

variable {E : Env}

end Jq

/- Relations told once more, by hand: closing, none leading to itself, cutting down, whether two are the same. -/
namespace Jq
open Go

theorem Low_mono {n m : Nat} (hm : n ≤ m) : ∀ {x : Cell}, Low n x → Low m x := by
  intro x h
  unfold Low at *
  split <;> simp_all
  omega

/-- What holds, over r. -/
def ACC (r : Nat) (q : Nat → Nat → Bool) : Nat → Nat := fun a => mkN fun b => decide (a < r) && decide (b < r) && q a b

variable {E : Env}

/-- Up to row i, place j. -/
def upto (i j a b : Nat) : Bool := decide (a < i) || (decide (a = i) && decide (b < j))

end Jq

/- Programs: made normal, begun, gone on. -/
namespace Jq
open Go

section
variable {E : Env}

theorem rdL {α : Type} {h : AHeap} {k : Nat} {l : Lcl} (hk : blk? h k = some ⟨true, 0, l.cs⟩) {F : List Cell → Option α} : rdH h k 5 F = F l.cs := rdH_ok hk rfl
theorem lcl_pc {α : Type} {l : Lcl} {f : Cell → Option α} : atK l.cs 0 f = f (.int .i64 l.pc) := rfl
theorem lcl_pc' {α : Type} {l : Lcl} {f : Cell → Option α} : atK l.cs (0 + 0) f = f (.int .i64 l.pc) := rfl
theorem lcl_setpc {l : Lcl} {v : Int} : l.cs.set 0 (.int .i64 v) = ({ l with pc := v } : Lcl).cs := rfl
theorem lcl_setpc' {l : Lcl} {v : Int} : l.cs.set (0 + 0) (.int .i64 v) = ({ l with pc := v } : Lcl).cs := rfl
theorem ins_kind {α : Type} {i : Ins} {f : Cell → Option α} : atK i.cs 0 f = f (.int .i64 i.kind) := rfl
theorem ins_reg {α : Type} {i : Ins} {f : Cell → Option α} : atK i.cs 1 f = f (.int .i64 i.reg) := rfl
theorem ins_loc {α : Type} {i : Ins} {f : Cell → Option α} : atK i.cs 2 f = f (.int .i64 i.loc) := rfl
theorem ins_op {α : Type} {i : Ins} {f : Cell → Option α} : atK i.cs 5 f = f (.int .i64 i.op) := rfl
theorem ins_n {α : Type} {i : Ins} {f : Cell → Option α} : atK i.cs 8 f = f (.int .i64 i.n) := rfl
theorem ins_a {i : Ins} : (i.cs.drop 3).take 2 = i.a.cs := rfl
theorem ins_b {i : Ins} : (i.cs.drop 6).take 2 = i.b.cs := rfl

theorem avOk_lcl (m : Nat) (l : Lcl) : avOk m (.agg l.cs) = true := by simp [avOk, AV.cells, Lcl.cs, idOk]

theorem normal_round (hE : prog_normal_In E) {x : Cell} {code : List Ins} {h : AHeap} (hlen : code.length < 4000000000000000000) (z : List Cell) (l : Lcl) (hx : SlAt (h ++ [some ⟨true, 0, l.cs⟩]) x 9 (codeC code) code.length) :
    prog_normal_F1 (R E) Lim E.glob (prog_normal_s1 x h.length 5 0 z (h ++ [some ⟨true, 0, l.cs⟩])) = match stepI code l with
      | some l' => some (.normal, prog_normal_s1 x h.length 5 0 z (h ++ [some ⟨true, 0, l'.cs⟩]))
      | none => if 0 ≤ l.pc ∧ l.pc < code.length then (if z.length = 5 then some (.ret, prog_normal_x1_0 l.cs (h ++ [some ⟨true, 0, l.cs⟩])) else none) else some (.exit 0, prog_normal_x1_1 h.length 5 0 z (h ++ [some ⟨true, 0, l.cs⟩])) := by
  have hb : ∀ l : Lcl, blk? (h ++ [some ⟨true, 0, l.cs⟩]) h.length = some ⟨true, 0, l.cs⟩ := fun l => blk_new _ _
  rw [prog_normal_r1, rdL (hb l), lcl_pc', asI_ok]
  by_cases h0 : 0 ≤ l.pc
  · rw [show decide (l.pc ≥ 0) = true from decide_eq_true h0, scK_ok, rdL (hb l), lcl_pc', asI_ok, hx.len, bind_ok]
    dsimp only
    by_cases h1 : l.pc < code.length
    · obtain ⟨p, hp⟩ : ∃ p : Nat, l.pc = (p : Int) := ⟨l.pc.toNat, by omega⟩
      have hpl : p < code.length := by omega
      have hq : code[p]? = some code[p] := List.getElem?_eq_getElem hpl
      generalize code[p] = i at hq
      obtain ⟨off, cs', hG0, hle, hcs⟩ := hx.insG hq
      have hG : ∀ {α : Type} (G : Nat → List Cell → Option α), (idxSK 9 x l.pc fun k N o => rdH (h ++ [some ⟨true, 0, l.cs⟩]) k N fun l => G o l) = G off cs' := by intro α G; rw [hp]; exact hG0 G
      have hst : stepI code l = if i.kind = 5 then
          some { (l.setR i.reg ((doV i.op (opV i.a l) (opV i.b l)).getD (opV i.a l))) with pc := (l.setR i.reg ((doV i.op (opV i.a l) (opV i.b l)).getD (opV i.a l))).pc + 1 }
        else if i.kind = 6 then (if opV i.a l = opV i.b l then some { l with pc := l.pc + min (max i.n 0) code.length + 1 } else some { l with pc := l.pc + 1 }) else none := by
        unfold stepI
        rw [if_pos h0, show l.pc.toNat = p by omega, hq]
      rw [hst, if_pos (decide_eq_true h1), rdL (hb l), lcl_pc', asI_ok, hG, if_pos hle, hcs, if_pos ⟨rfl, rfl, rfl⟩, if_pos (show 3 + 2 ≤ i.cs.length by rw [Ins.len]; omega), rdL (hb l), if_pos ⟨rfl, rfl⟩, ins_a, Value_R hE.c108, qh_ok, c1_ok, asI_ok, if_pos (show 6 + 2 ≤ i.cs.length by rw [Ins.len]; omega), rdL (hb l), if_pos ⟨rfl, rfl⟩, ins_b, Value_R hE.c108, qh_ok, c1_ok, asI_ok, ins_kind, asI_ok]
      by_cases k5 : i.kind = 5
      · rw [if_pos (by rw [k5]; rfl), if_pos k5, ins_op, asI_ok, Do_R hE.c125, c2_ok, asI_ok, asB_ok]
        cases hd : doV i.op (opV i.a l) (opV i.b l) with
        | some v =>
          have hpc := l.setR_pc i.reg v
          rw [show (some v : Option Int).isSome = true from rfl, if_pos rfl, ins_reg, asI_ok, set_R hE.c124 _ _ (hb l), setBlk_last, c0_ok, rdL (hb _), lcl_pc', asI_ok, rdL (hb _), if_pos (by rw [Lcl.len]; omega), lcl_setpc', putH_ok (hb _) rfl, setBlk_last]
          rw [show (some v : Option Int).getD 0 = v from rfl, show (some v : Option Int).getD (opV i.a l) = v from rfl, hpc, g_wrap_i64 (x := l.pc + 1) (by omega) (by omega)]
        | none =>
          have hpc := l.setR_pc i.reg (opV i.a l)
          rw [show (none : Option Int).isSome = false from rfl, if_neg (by simp), ins_reg, asI_ok, set_R hE.c124 _ _ (hb l), setBlk_last, c0_ok, rdL (hb _), lcl_pc', asI_ok, rdL (hb _), if_pos (by rw [Lcl.len]; omega), lcl_setpc', putH_ok (hb _) rfl, setBlk_last]
          rw [show (none : Option Int).getD (opV i.a l) = opV i.a l from rfl, hpc, g_wrap_i64 (x := l.pc + 1) (by omega) (by omega)]
      · rw [if_neg (by rw [beq_iff_eq]; exact k5), if_neg k5]
        by_cases k6 : i.kind = 6
        · rw [if_pos (by rw [k6]; rfl), if_pos k6]
          by_cases hab : opV i.a l = opV i.b l
          · have hv : (if (code.length : Int) < (if 0 > i.n then 0 else i.n) then (code.length : Int) else (if 0 > i.n then 0 else i.n)) = min (max i.n 0) code.length := by
              split <;> split at * <;> omega
            rw [if_pos (by rw [hab]; exact beq_self_eq_true _), if_pos hab, rdL (hb l), lcl_pc', asI_ok, ins_n, asI_ok, hx.len]
            dsimp only
            rw [hv, rdL (hb l), if_pos (by rw [Lcl.len]; omega), lcl_setpc', putH_ok (hb _) rfl, setBlk_last, rdL (hb _), lcl_pc', asI_ok, rdL (hb _), if_pos (by rw [Lcl.len]; omega), lcl_setpc', putH_ok (hb _) rfl, setBlk_last]
            dsimp only
            rw [g_wrap_i64 (x := l.pc + min (max i.n 0) code.length) (by omega) (by omega), g_wrap_i64 (x := l.pc + min (max i.n 0) code.length + 1) (by omega) (by omega)]
          · rw [if_neg (by rw [beq_iff_eq]; exact hab), if_neg hab, rdL (hb l), lcl_pc', asI_ok, rdL (hb l), if_pos (by rw [Lcl.len]; omega), lcl_setpc', putH_ok (hb _) rfl, setBlk_last, g_wrap_i64 (x := l.pc + 1) (by omega) (by omega)]
        · rw [if_neg (by rw [beq_iff_eq]; exact k6), if_neg k6, rdL (hb l), if_pos ⟨rfl, rfl⟩]
          dsimp only
          rw [if_pos (show 0 ≤ l.pc ∧ l.pc < code.length from ⟨h0, h1⟩)]
          by_cases hz : z.length = 5
          · rw [if_pos ⟨rfl, hz, rfl⟩, if_pos hz]
          · rw [if_neg (fun q => hz q.2.1), if_neg hz]
    · have hst : stepI code l = none := by
        unfold stepI
        rw [if_pos h0, List.getElem?_eq_none (by omega)]
      rw [hst, if_neg (by simpa using h1)]
      dsimp only
      rw [if_neg (fun q => h1 q.2)]
  · have hst : stepI code l = none := by unfold stepI; rw [if_neg h0]
    rw [hst, show decide (l.pc ≥ 0) = false from decide_eq_false h0, scK_ft, if_neg (by simp)]
    dsimp only
    rw [if_neg (fun q => h0 q.1)]

theorem normal_R (hE : prog_normal_In E) {x : Cell} {code : List Ins} {h : AHeap} (hlen : code.length < 4000000000000000000) (hx : SlAt h x 9 (codeC code) code.length) (hlow : Low h.length x) (l : Lcl) :
    R E 114 [.c x, .agg l.cs] h = some ([.agg (normL code l).cs], h) := by
  refine R_intro hE.fn ?_
  have hx' : ∀ l : Lcl, SlAt (h ++ [some ⟨true, 0, l.cs⟩]) x 9 (codeC code) code.length := fun l => hx.keep hlow (Kp.app _ (Nat.le_refl _))
  have hb : ∀ l : Lcl, blk? (h ++ [some ⟨true, 0, l.cs⟩]) h.length = some ⟨true, 0, l.cs⟩ := fun l => blk_new _ _
  have loop : ∀ (k : Nat) (l : Lcl), (0 ≤ l.pc → (code.length : Int) ≤ l.pc + k) → (Lim (prog_normal_F1 (R E) Lim E.glob) (prog_normal_s1 x h.length 5 0 Lcl.zero.cs (h ++ [some ⟨true, 0, l.cs⟩]))).bind (fun p => prog_normal_k3 (R E) Lim E.glob h p.1 p.2) = some ([.agg (nrm code k l).cs], h) := by
    intro k
    have stop : ∀ l : Lcl, stepI code l = none → (Lim (prog_normal_F1 (R E) Lim E.glob) (prog_normal_s1 x h.length 5 0 Lcl.zero.cs (h ++ [some ⟨true, 0, l.cs⟩]))).bind (fun p => prog_normal_k3 (R E) Lim E.glob h p.1 p.2) = some ([.agg l.cs], h) := by
      intro l hs
      have hr := normal_round hE hlen Lcl.zero.cs l (hx' l)
      rw [hs] at hr
      dsimp only at hr
      have fin : finish true h [.agg l.cs] (h ++ [some ⟨true, 0, l.cs⟩]) = some ([.agg l.cs], h) := finish_gc (Kp.app _ (Nat.le_refl _)) (by simp [avOk_lcl])
      split at hr
      · rw [if_pos (show Lcl.zero.cs.length = 5 from rfl)] at hr
        rw [Lim_ret hr, bind_ok, prog_normal_e1_0, if_pos ⟨rfl, rfl⟩, fin]
      · rw [Lim_exit hr, bind_ok, prog_normal_e1_1, rdL (hb l), if_pos ⟨rfl, rfl⟩, if_pos ⟨rfl, rfl, rfl⟩, if_pos ⟨rfl, rfl⟩, fin]
    induction k with
    | zero =>
      intro l hk
      rw [nrm]
      refine stop l ?_
      cases hs : stepI code l with
      | none => rfl
      | some l' => have := stepI_pc hs; have := hk this.1; omega
    | succ k ih =>
      intro l hk
      rw [nrm]
      cases hs : stepI code l with
      | none => exact stop l hs
      | some l' =>
        have hr := normal_round hE hlen Lcl.zero.cs l (hx' l)
        rw [hs] at hr
        have h3 := stepI_pc hs
        have := ih l' (fun _ => by have := hk h3.1; omega)
        cases hL : Lim (prog_normal_F1 (R E) Lim E.glob) (prog_normal_s1 x h.length 5 0 Lcl.zero.cs (h ++ [some ⟨true, 0, l'.cs⟩])) with
        | none => rw [hL] at this; cases this
        | some p => rw [Lim_next hr hL]; rw [hL] at this; exact this
  have hc : AV.cells (.agg l.cs) = l.cs := rfl
  rw [prog_normal_eq, hc, Lcl.len]
  exact loop code.length l (fun _ => by omega)

/-- A program, made of its parts. -/
structure PProg where
  locs : List Int
  init : List Int
  thr : List (List Ins)

/-- A program lies there. -/
def ProgAt (h : AHeap) (cs : List Cell) (P : PProg) : Prop :=
  ∃ a b c ts, cs = [a, b, c] ∧ (SlAt h a 1 (intC .u8 P.locs) P.locs.length ∧ Low h.length a) ∧ (SlAt h b 1 (intC .i64 P.init) P.init.length ∧ Low h.length b) ∧ (SlAt h c 1 ts P.thr.length ∧ Low h.length c) ∧
    ∀ (t : Nat) (code : List Ins), P.thr[t]? = some code → ∃ x : Cell, ts[t]? = some x ∧ SlAt h x 9 (codeC code) code.length ∧ Low h.length x

theorem ProgAt.len {h : AHeap} {cs : List Cell} {P : PProg} (p : ProgAt h cs P) : cs.length = 3 := by
  obtain ⟨a, b, c, ts, rfl, _⟩ := p; rfl

theorem ProgAt.keep {h h' : AHeap} {cs : List Cell} {P : PProg} (p : ProgAt h cs P) (hk : Kp h.length h h') : ProgAt h' cs P := by
  obtain ⟨a, b, c, ts, e, ⟨a1, a2⟩, ⟨b1, b2⟩, ⟨c1, c2⟩, ht⟩ := p
  exact ⟨a, b, c, ts, e, ⟨a1.keep a2 hk, Low_mono hk.1 a2⟩, ⟨b1.keep b2 hk, Low_mono hk.1 b2⟩, ⟨c1.keep c2 hk, Low_mono hk.1 c2⟩, fun t code h1 => by
    obtain ⟨x, x1, x2, x3⟩ := ht t code h1
    exact ⟨x, x1, x2.keep x3 hk, Low_mono hk.1 x3⟩⟩

/-- No thread is too long. -/
def PProg.fits (P : PProg) : Prop := P.thr.length < 4000000000000000000 ∧ ∀ code ∈ P.thr, code.length < 4000000000000000000

/-- A thread's instructions, or none. -/
def PProg.code (P : PProg) (t : Int) : List Ins := if 0 ≤ t then P.thr.getD t.toNat [] else []

theorem PProg.code_fits {P : PProg} (hf : P.fits) (t : Int) : (P.code t).length < 4000000000000000000 := by
  unfold PProg.code
  split
  · rw [List.getD_eq_getElem?_getD]
    cases h : P.thr[t.toNat]? with
    | none => show (0 : Nat) < _; omega
    | some c => exact hf.2 c (List.mem_of_getElem? h)
  · show (0 : Nat) < _; omega

theorem thread_R (hE : prog_thread_In E) {cs : List Cell} {P : PProg} {h : AHeap} (p : ProgAt h cs P) (t : Int) :
    ∃ x, R E 113 [.agg cs, .c (.int .i64 t)] h = some ([.c x], h) ∧ SlAt h x 9 (codeC (P.code t)) (P.code t).length ∧ Low h.length x := by
  obtain ⟨a, b, c, ts, rfl, _, _, ⟨hc, hcl⟩, ht⟩ := p
  have a2 : ∀ {α : Type} (f : Cell → Option α), atK [a, b, c] 2 f = f c := fun _ => rfl
  by_cases h0 : 0 ≤ t
  · by_cases h1 : t.toNat < P.thr.length
    · have hg : P.thr[t.toNat]? = some P.thr[t.toNat] := List.getElem?_eq_getElem h1
      generalize P.thr[t.toNat] = code at hg
      obtain ⟨x, x1, x2, x3⟩ := ht _ _ hg
      have hcode : P.code t = code := by unfold PProg.code; rw [if_pos h0, List.getD_eq_getElem?_getD, hg]; rfl
      rw [hcode]
      refine ⟨x, R_intro hE.fn ?_, x2, x3⟩
      have hti : t = ((t.toNat : Nat) : Int) := by omega
      rw [prog_thread_eq, show decide (t < 0) = false from decide_eq_false (by omega), scK_ok, a2, hc.len, show decide (t ≥ (P.thr.length : Int)) = false from decide_eq_false (by omega), bind_ok]
      dsimp only
      rw [if_neg (by simp), a2, hc.getAt t.toNat hti h1 x1]
    · have hcode : P.code t = [] := by unfold PProg.code; rw [if_pos h0, List.getD_eq_getElem?_getD, List.getElem?_eq_none (by omega)]; rfl
      rw [hcode]
      refine ⟨.nils, R_intro hE.fn ?_, ⟨rfl, .inl ⟨rfl, rfl⟩⟩, trivial⟩
      rw [prog_thread_eq, show decide (t < 0) = false from decide_eq_false (by omega), scK_ok, a2, hc.len, show decide (t ≥ (P.thr.length : Int)) = true from decide_eq_true (by omega), bind_ok]
      dsimp only
      rw [if_pos rfl]
  · have hcode : P.code t = [] := by unfold PProg.code; rw [if_neg h0]
    rw [hcode]
    refine ⟨.nils, R_intro hE.fn ?_, ⟨rfl, .inl ⟨rfl, rfl⟩⟩, trivial⟩
    rw [prog_thread_eq, show decide (t < 0) = true from decide_eq_true (by omega), scK_tf, if_pos rfl]

def startL (P : PProg) (t : Int) : Lcl := normL (P.code t) Lcl.zero

theorem PStart_R (hE : prog_Start_In E) {cs : List Cell} {P : PProg} {h : AHeap} (hf : P.fits) (p : ProgAt h cs P) (t : Int) :
    R E 94 [.agg cs, .c (.int .i64 t)] h = some ([.agg (startL P t).cs], h) := by
  refine R_intro hE.fn ?_
  obtain ⟨x, hr, hx, hl⟩ := thread_R hE.c113 p t
  rw [prog_Start_eq, if_pos ⟨rfl, p.len⟩, hr, c1_ok, asC_ok, zero5, normal_R hE.c114 (PProg.code_fits hf t) hx hl, c1_ok, asA_ok, if_pos ⟨rfl, rfl, rfl⟩, if_pos ⟨rfl, rfl⟩]
  rfl

/-- The instruction that comes, if one comes that touches memory. -/
def nextI (code : List Ins) (l : Lcl) : Option Ins :=
  if 0 ≤ l.pc then match code[l.pc.toNat]? with
    | none => none
    | some i => if 1 ≤ i.kind ∧ i.kind ≤ 4 then some i else none
  else none

theorem nextI_kind {code : List Ins} {l : Lcl} {i : Ins} (h : nextI code l = some i) : 0 ≤ l.pc ∧ l.pc < code.length ∧ code[l.pc.toNat]? = some i ∧ 1 ≤ i.kind ∧ i.kind ≤ 4 := by
  unfold nextI at h
  split at h
  · rename_i h0
    cases hi : code[l.pc.toNat]? with
    | none => rw [hi] at h; cases h
    | some j =>
      rw [hi] at h
      simp only at h
      split at h
      · cases h
        have := getI_lt hi
        rename_i hk
        exact ⟨h0, by omega, rfl, hk⟩
      · cases h
  · cases h

theorem PNext_R (hE : prog_Next_In E) {cs : List Cell} {P : PProg} {h : AHeap} (p : ProgAt h cs P) (t : Int) (l : Lcl) :
    R E 105 [.agg cs, .c (.int .i64 t), .agg l.cs] h = some ([.agg ((nextI (P.code t) l).getD Ins.zero).cs, .c (.bool (nextI (P.code t) l).isSome)], h) := by
  refine R_intro hE.fn ?_
  obtain ⟨x, hr, hx, hlo⟩ := thread_R hE.c113 p t
  generalize P.code t = code at *
  rw [prog_Next_eq, if_pos ⟨rfl, p.len⟩, hr, c1_ok, asC_ok, lcl_pc, asI_ok]
  by_cases h0 : 0 ≤ l.pc
  · rw [show decide (l.pc < 0) = false from decide_eq_false (by omega), scK_ok, lcl_pc, asI_ok, hx.len, bind_ok]
    dsimp only
    by_cases h1 : l.pc < code.length
    · obtain ⟨q, hq⟩ : ∃ q : Nat, l.pc = (q : Int) := ⟨l.pc.toNat, by omega⟩
      have hql : q < code.length := by omega
      have hg : code[q]? = some code[q] := List.getElem?_eq_getElem hql
      generalize code[q] = i at hg
      obtain ⟨off, cs', hG0, hle, hcs⟩ := hx.insG hg
      have hG : ∀ {α : Type} (G : Nat → List Cell → Option α), (idxSK 9 x l.pc fun k N o => rdH h k N fun l => G o l) = G off cs' := by intro α G; rw [hq]; exact hG0 G
      have hn : nextI code l = if 1 ≤ i.kind ∧ i.kind ≤ 4 then some i else none := by
        unfold nextI
        rw [if_pos h0, show l.pc.toNat = q by omega, hg]
      rw [show decide (l.pc ≥ (code.length : Int)) = false from decide_eq_false (by omega), if_neg (by simp), lcl_pc, asI_ok, hG, if_pos hle, hcs, if_pos ⟨rfl, rfl, rfl⟩, ins_kind, asI_ok, ins_kind, asI_ok, scK_or, hn]
      by_cases hk : 1 ≤ i.kind ∧ i.kind ≤ 4
      · rw [if_neg (by simp; omega), if_pos hk, if_pos ⟨rfl, rfl⟩, if_pos ⟨rfl, rfl, rfl⟩, if_pos ⟨rfl, rfl⟩]; rfl
      · rw [if_pos (by simp; omega), if_neg hk, if_pos ⟨rfl, rfl, rfl⟩, if_pos ⟨rfl, rfl⟩]; rfl
    · have hn : nextI code l = none := by unfold nextI; rw [if_pos h0, List.getElem?_eq_none (by omega)]
      rw [show decide (l.pc ≥ (code.length : Int)) = true from decide_eq_true (by omega), if_pos rfl, hn, if_pos ⟨rfl, rfl, rfl⟩, if_pos ⟨rfl, rfl⟩]; rfl
  · have hn : nextI code l = none := by unfold nextI; rw [if_neg h0]
    rw [show decide (l.pc < 0) = true from decide_eq_true (by omega), scK_tf, if_pos rfl, hn, if_pos ⟨rfl, rfl, rfl⟩, if_pos ⟨rfl, rfl⟩]; rfl

/-- Where a thread is behind an instruction that reads a value. -/
def afterL (code : List Ins) (l : Lcl) (v : Int) : Lcl := match nextI code l with
  | none => l
  | some i => normL code { (if i.kind = 2 ∨ i.kind = 4 then l.setR i.reg v else l) with pc := l.pc + 1 }

theorem PAfter_R (hE : prog_After_In E) {cs : List Cell} {P : PProg} {h : AHeap} (hf : P.fits) (p : ProgAt h cs P) (t : Int) (l : Lcl) (v : Int) :
    R E 106 [.agg cs, .c (.int .i64 t), .agg l.cs, .c (.int .i64 v)] h = some ([.agg (afterL (P.code t) l v).cs], h) := by
  refine R_intro hE.fn ?_
  have hK : ∀ b, Kp h.length h (h ++ [some b]) := fun b => Kp.app _ (Nat.le_refl _)
  have p' : ∀ b, ProgAt (h ++ [some b]) cs P := fun b => p.keep (hK b)
  have hb : ∀ l : Lcl, blk? (h ++ [some ⟨true, 0, l.cs⟩]) h.length = some ⟨true, 0, l.cs⟩ := fun l => blk_new _ _
  have fin : ∀ (m l : Lcl), finish true h [.agg m.cs] (h ++ [some ⟨true, 0, l.cs⟩]) = some ([.agg m.cs], h) := fun m l => finish_gc (hK _) (by simp [avOk_lcl])
  have hc : AV.cells (.agg l.cs) = l.cs := rfl
  have hfit := PProg.code_fits hf t
  rw [prog_After_eq, if_pos ⟨rfl, p.len⟩, hc, Lcl.len, rdL (hb l), if_pos ⟨rfl, rfl⟩, PNext_R hE.c105 (p' _), c2_ok, asA_ok, asB_ok, if_pos ⟨rfl, rfl, rfl⟩]
  unfold afterL
  cases hn : nextI (P.code t) l with
  | none =>
    rw [show (none : Option Ins).isSome = false from rfl, if_pos (show (!false) = true from rfl), rdL (hb l), if_pos ⟨rfl, rfl⟩, if_pos ⟨rfl, rfl, rfl⟩, if_pos ⟨rfl, rfl⟩, fin]
  | some i =>
    obtain ⟨n0, n1, n2, n3, n4⟩ := nextI_kind hn
    rw [show (some i : Option Ins).isSome = true from rfl, if_neg (by simp), show (some i : Option Ins).getD Ins.zero = i from rfl, ins_kind, asI_ok, ins_kind, asI_ok, scK_or]
    by_cases hk : i.kind = 2 ∨ i.kind = 4
    · have hpc := l.setR_pc i.reg v
      obtain ⟨x, hr, hx, hlo⟩ := thread_R hE.c113 (p' ⟨true, 0, ({ (l.setR i.reg v) with pc := l.pc + 1 } : Lcl).cs⟩) t
      rw [if_pos (by rw [Bool.or_eq_true, beq_iff_eq, beq_iff_eq]; exact hk), ins_reg, asI_ok, set_R hE.c124 _ _ (hb l), setBlk_last, c0_ok, rdL (hb _), lcl_pc, asI_ok, rdL (hb _), if_pos (by rw [Lcl.len]; omega), lcl_setpc, putH_ok (hb _) rfl, setBlk_last, if_pos ⟨rfl, p.len⟩, hpc, g_wrap_i64 (x := l.pc + 1) (by omega) (by omega), hr, qh_ok, c1_ok, asC_ok, rdL (hb _), if_pos ⟨rfl, rfl⟩, normal_R hE.c114 hfit hx hlo, qh_ok, c1_ok, asA_ok, if_pos ⟨rfl, rfl, rfl⟩, if_pos ⟨rfl, rfl⟩, fin]
      dsimp only
      rw [if_pos hk]
    · obtain ⟨x, hr, hx, hlo⟩ := thread_R hE.c113 (p' ⟨true, 0, ({ l with pc := l.pc + 1 } : Lcl).cs⟩) t
      rw [if_neg (by rw [Bool.or_eq_true, beq_iff_eq, beq_iff_eq]; exact hk), rdL (hb _), lcl_pc, asI_ok, rdL (hb _), if_pos (by rw [Lcl.len]; omega), lcl_setpc, putH_ok (hb _) rfl, setBlk_last, if_pos ⟨rfl, p.len⟩, g_wrap_i64 (x := l.pc + 1) (by omega) (by omega), hr, qh_ok, c1_ok, asC_ok, rdL (hb _), if_pos ⟨rfl, rfl⟩, normal_R hE.c114 hfit hx hlo, qh_ok, c1_ok, asA_ok, if_pos ⟨rfl, rfl, rfl⟩, if_pos ⟨rfl, rfl⟩, fin]
      dsimp only
      rw [if_neg hk]

end
end Jq

namespace Jq
open Go

/- jacquard/jacquardref2.Do: 93 -/
set_option maxRecDepth 100000 in
theorem jacquardref2_Do_eq (C : CallF) (L : LoopF) (G : Glo) (a0 : Int) (a1 : Int) (a2 : Int) (h0 : AHeap) :
    jacquardref2_Do.body C L G [(.c (.int .i64 a0)), (.c (.int .i64 a1)), (.c (.int .i64 a2))] h0 =
    if (a0 == 1) = true then let v_1 : Int := (G.wrap .u64 ((G.wrap .u64 a1) + (G.wrap .u64 a2))); some ([(.c (.int .i64 (G.wrap .i64 v_1))), (.c (.bool true))], h0) else if (a0 == 2) = true then let v_2 : Int := (G.wrap .u64 ((G.wrap .u64 a1) - (G.wrap .u64 a2))); some ([(.c (.int .i64 (G.wrap .i64 v_2))), (.c (.bool true))], h0) else if (a0 == 3) = true then let v_3 : Int := (G.wrap .u64 ((G.wrap .u64 a1) * (G.wrap .u64 a2))); some ([(.c (.int .i64 (G.wrap .i64 v_3))), (.c (.bool true))], h0) else if (a0 == 4) = true then some ([(.c (.int .i64 (G.band .i64 a1 a2))), (.c (.bool true))], h0) else if (a0 == 5) = true then some ([(.c (.int .i64 (G.bor .i64 a1 a2))), (.c (.bool true))], h0) else if (a0 == 6) = true then some ([(.c (.int .i64 (G.bxor .i64 a1 a2))), (.c (.bool true))], h0) else if (a0 == 7) = true then if (G.rem .u64 (G.wrap .u64 a2) 64) < 0 then none else let v_4 : Int := (G.shl .u64 (G.wrap .u64 a1) (G.rem .u64 (G.wrap .u64 a2) 64)); some ([(.c (.int .i64 (G.wrap .i64 v_4))), (.c (.bool true))], h0) else if (a0 == 8) = true then if (G.rem .u64 (G.wrap .u64 a2) 64) < 0 then none else let v_5 : Int := (G.shr .i64 a1 (G.rem .u64 (G.wrap .u64 a2) 64)); some ([(.c (.int .i64 v_5)), (.c (.bool true))], h0) else if (a0 == 9) = true then if (a1 == a2) = true then some ([(.c (.int .i64 1)), (.c (.bool true))], h0) else some ([(.c (.int .i64 0)), (.c (.bool true))], h0) else if (a0 == 10) = true then if (a1 != a2) = true then some ([(.c (.int .i64 1)), (.c (.bool true))], h0) else some ([(.c (.int .i64 0)), (.c (.bool true))], h0) else if (a0 == 11) = true then if (decide (a1 < a2)) = true then some ([(.c (.int .i64 1)), (.c (.bool true))], h0) else some ([(.c (.int .i64 0)), (.c (.bool true))], h0) else some ([(.c (.int .i64 0)), (.c (.bool false))], h0) := by kernel_rfl

/- jacquard/jacquardref2.Locs: 121 -/
def jacquardref2_Locs_k2 (C : CallF) (L : LoopF) (G : Glo) (h0 : AHeap) : Ex → St → Option (List AV × AHeap) :=
  kSeq (fun st => jacquardref2_Locs_p1.exec C L G st (jacquardref2_Locs.fin G h0)) (jacquardref2_Locs.fin G h0)
def jacquardref2_Locs_k3 (C : CallF) (L : LoopF) (G : Glo) (h0 : AHeap) : Ex → St → Option (List AV × AHeap) :=
  kBlk 0 (jacquardref2_Locs_k2 C L G h0)
def jacquardref2_Locs_s1 (a4 : Int) (s0 : List Cell) (s1 : List Cell) (h : AHeap) : St := ⟨[.top, .loc 0 0, .top, .loc 1 0, .v (.c (.int .i64 a4)), .top, .top, .top, .top, .top, .top, .top, .top, .top, .top, .top, .top, .top, .top, .top, .top, .top, .top, .top, .top, .top, .top, .top, .top, .top, .top, .top, .top, .top, .top, .top, .top, .top, .top, .top, .top, .top, .top, .top, .top, .top, .top, .top, .top, .top, .top, .top, .top, .top, .top, .top, .top, .top, .top, .top, .top, .top, .top, .top, .top, .top, .top, .top, .top, .top, .top, .top, .top, .top, .top, .top, .top, .top, .top, .top, .top, .top, .top, .top, .top, .top, .top, .top, .top, .top, .top, .top, .top, .top, .top, .top, .top, .top], [some s0, some s1], h⟩
def jacquardref2_Locs_F1 (C : CallF) (L : LoopF) (G : Glo) : St → Option (Ex × St) :=
  roundF (fun st f => jacquardref2_Locs_b1.exec C L G st f) [1, 3, 4] [0, 1] [(1, [1, 3], [0, 1])]
def jacquardref2_Locs_x1_1 (s0 : List Cell) (s1 : List Cell) (h : AHeap) : St := ⟨[.top, .loc 0 0, .top, .loc 1 0, .top, .top, .top, .top, .top, .top, .top, .top, .top, .top, .top, .top, .top, .top, .top, .top, .top, .top, .top, .top, .top, .top, .top, .top, .top, .top, .top, .top, .top, .top, .top, .top, .top, .top, .top, .top, .top, .top, .top, .top, .top, .top, .top, .top, .top, .top, .top, .top, .top, .top, .top, .top, .top, .top, .top, .top, .top, .top, .top, .top, .top, .top, .top, .top, .top, .top, .top, .top, .top, .top, .top, .top, .top, .top, .top, .top, .top, .top, .top, .top, .top, .top, .top, .top, .top, .top, .top, .top, .top, .top, .top, .top, .top, .top], [some s0, some s1], h⟩
def jacquardref2_Locs_k4 (C : CallF) (L : LoopF) (G : Glo) (h0 : AHeap) : Ex → St → Option (List AV × AHeap) :=
  kSeq (fun st => jacquardref2_Locs_p2.exec C L G st (jacquardref2_Locs.fin G h0)) (jacquardref2_Locs.fin G h0)
def jacquardref2_Locs_k5 (C : CallF) (L : LoopF) (G : Glo) (h0 : AHeap) : Ex → St → Option (List AV × AHeap) :=
  kBlk 2 (jacquardref2_Locs_k4 C L G h0)
def jacquardref2_Locs_s3 (a5 : Int) (s0 : List Cell) (s1 : List Cell) (h : AHeap) : St := ⟨[.top, .loc 0 0, .top, .loc 1 0, .top, .v (.c (.int .i64 a5)), .top, .top, .top, .top, .top, .top, .top, .top, .top, .top, .top, .top, .top, .top, .top, .top, .top, .top, .top, .top, .top, .top, .top, .top, .top, .top, .top, .top, .top, .top, .top, .top, .top, .top, .top, .top, .top, .top, .top, .top, .top, .top, .top, .top, .top, .top, .top, .top, .top, .top, .top, .top, .top, .top, .top, .top, .top, .top, .top, .top, .top, .top, .top, .top, .top, .top, .top, .top, .top, .top, .top, .top, .top, .top, .top, .top, .top, .top, .top, .top, .top, .top, .top, .top, .top, .top, .top, .top, .top, .top, .top, .top], [some s0, some s1], h⟩
def jacquardref2_Locs_F3 (C : CallF) (L : LoopF) (G : Glo) : St → Option (Ex × St) :=
  roundF (fun st f => jacquardref2_Locs_b3.exec C L G st f) [1, 3, 5] [0, 1] [(3, [1, 3], [0, 1])]
def jacquardref2_Locs_k6 (C : CallF) (L : LoopF) (G : Glo) : Ex → St → Option (Ex × St) :=
  kSeq (fun st => jacquardref2_Locs_p3.exec C L G st (kLoop [1, 3, 5] [0, 1] [(3, [1, 3], [0, 1])])) (kLoop [1, 3, 5] [0, 1] [(3, [1, 3], [0, 1])])
def jacquardref2_Locs_k7 (C : CallF) (L : LoopF) (G : Glo) : Ex → St → Option (Ex × St) :=
  kBlk 3 (jacquardref2_Locs_k6 C L G)
def jacquardref2_Locs_k8 (C : CallF) (L : LoopF) (G : Glo) : Ex → St → Option (Ex × St) :=
  kBlk 4 (jacquardref2_Locs_k7 C L G)
def jacquardref2_Locs_s2 (a5 : Int) (a6 : Int) (s0 : List Cell) (s1 : List Cell) (h : AHeap) : St := ⟨[.top, .loc 0 0, .top, .loc 1 0, .top, .v (.c (.int .i64 a5)), .v (.c (.int .i64 a6)), .top, .top, .top, .top, .top, .top, .top, .top, .top, .top, .top, .top, .top, .top, .top, .top, .top, .top, .top, .top, .top, .top, .top, .top, .top, .top, .top, .top, .top, .top, .top, .top, .top, .top, .top, .top, .top, .top, .top, .top, .top, .top, .top, .top, .top, .top, .top, .top, .top, .top, .top, .top, .top, .top, .top, .top, .top, .top, .top, .top, .top, .top, .top, .top, .top, .top, .top, .top, .top, .top, .top, .top, .top, .top, .top, .top, .top, .top, .top, .top, .top, .top, .top, .top, .top, .top, .top, .top, .top, .top, .top], [some s0, some s1], h⟩
def jacquardref2_Locs_F2 (C : CallF) (L : LoopF) (G : Glo) : St → Option (Ex × St) :=
  roundF (fun st f => jacquardref2_Locs_b2.exec C L G st f) [1, 3, 5, 6] [0, 1] [(5, [1, 3, 5], [0, 1])]
def jacquardref2_Locs_x2_5 (a5 : Int) (s0 : List Cell) (s1 : List Cell) (h : AHeap) : St := ⟨[.top, .loc 0 0, .top, .loc 1 0, .top, .v (.c (.int .i64 a5)), .top, .top, .top, .top, .top, .top, .top, .top, .top, .top, .top, .top, .top, .top, .top, .top, .top, .top, .top, .top, .top, .top, .top, .top, .top, .top, .top, .top, .top, .top, .top, .top, .top, .top, .top, .top, .top, .top, .top, .top, .top, .top, .top, .top, .top, .top, .top, .top, .top, .top, .top, .top, .top, .top, .top, .top, .top, .top, .top, .top, .top, .top, .top, .top, .top, .top, .top, .top, .top, .top, .top, .top, .top, .top, .top, .top, .top, .top, .top, .top, .top, .top, .top, .top, .top, .top, .top, .top, .top, .top, .top, .top], [some s0, some s1], h⟩
def jacquardref2_Locs_x3_3 (s0 : List Cell) (s1 : List Cell) (h : AHeap) : St := ⟨[.top, .loc 0 0, .top, .loc 1 0, .top, .top, .top, .top, .top, .top, .top, .top, .top, .top, .top, .top, .top, .top, .top, .top, .top, .top, .top, .top, .top, .top, .top, .top, .top, .top, .top, .top, .top, .top, .top, .top, .top, .top, .top, .top, .top, .top, .top, .top, .top, .top, .top, .top, .top, .top, .top, .top, .top, .top, .top, .top, .top, .top, .top, .top, .top, .top, .top, .top, .top, .top, .top, .top, .top, .top, .top, .top, .top, .top, .top, .top, .top, .top, .top, .top, .top, .top, .top, .top, .top, .top, .top, .top, .top, .top, .top, .top, .top, .top, .top, .top, .top, .top], [some s0, some s1], h⟩
def jacquardref2_Locs_k9 (C : CallF) (L : LoopF) (G : Glo) (h0 : AHeap) : Ex → St → Option (List AV × AHeap) :=
  kSeq (fun st => jacquardref2_Locs_p4.exec C L G st (jacquardref2_Locs.fin G h0)) (jacquardref2_Locs.fin G h0)
def jacquardref2_Locs_k10 (C : CallF) (L : LoopF) (G : Glo) (h0 : AHeap) : Ex → St → Option (List AV × AHeap) :=
  kBlk 6 (jacquardref2_Locs_k9 C L G h0)
def jacquardref2_Locs_s5 (a7 : Int) (s0 : List Cell) (s1 : List Cell) (h : AHeap) : St := ⟨[.top, .loc 0 0, .top, .loc 1 0, .top, .top, .top, .v (.c (.int .i64 a7)), .top, .top, .top, .top, .top, .top, .top, .top, .top, .top, .top, .top, .top, .top, .top, .top, .top, .top, .top, .top, .top, .top, .top, .top, .top, .top, .top, .top, .top, .top, .top, .top, .top, .top, .top, .top, .top, .top, .top, .top, .top, .top, .top, .top, .top, .top, .top, .top, .top, .top, .top, .top, .top, .top, .top, .top, .top, .top, .top, .top, .top, .top, .top, .top, .top, .top, .top, .top, .top, .top, .top, .top, .top, .top, .top, .top, .top, .top, .top, .top, .top, .top, .top, .top, .top, .top, .top, .top, .top, .top], [some s0, some s1], h⟩
def jacquardref2_Locs_F5 (C : CallF) (L : LoopF) (G : Glo) : St → Option (Ex × St) :=
  roundF (fun st f => jacquardref2_Locs_b5.exec C L G st f) [1, 3, 7] [0, 1] [(7, [3], [1])]
def jacquardref2_Locs_k11 (C : CallF) (L : LoopF) (G : Glo) : Ex → St → Option (Ex × St) :=
  kSeq (fun st => jacquardref2_Locs_p5.exec C L G st (kLoop [1, 3, 7] [0, 1] [(7, [3], [1])])) (kLoop [1, 3, 7] [0, 1] [(7, [3], [1])])
def jacquardref2_Locs_k12 (C : CallF) (L : LoopF) (G : Glo) : Ex → St → Option (Ex × St) :=
  kBlk 7 (jacquardref2_Locs_k11 C L G)
def jacquardref2_Locs_k13 (C : CallF) (L : LoopF) (G : Glo) : Ex → St → Option (Ex × St) :=
  kBlk 8 (jacquardref2_Locs_k12 C L G)
def jacquardref2_Locs_s4 (a7 : Int) (a8 : Int) (s0 : List Cell) (s1 : List Cell) (h : AHeap) : St := ⟨[.top, .loc 0 0, .top, .loc 1 0, .top, .top, .top, .v (.c (.int .i64 a7)), .v (.c (.int .i64 a8)), .top, .top, .top, .top, .top, .top, .top, .top, .top, .top, .top, .top, .top, .top, .top, .top, .top, .top, .top, .top, .top, .top, .top, .top, .top, .top, .top, .top, .top, .top, .top, .top, .top, .top, .top, .top, .top, .top, .top, .top, .top, .top, .top, .top, .top, .top, .top, .top, .top, .top, .top, .top, .top, .top, .top, .top, .top, .top, .top, .top, .top, .top, .top, .top, .top, .top, .top, .top, .top, .top, .top, .top, .top, .top, .top, .top, .top, .top, .top, .top, .top, .top, .top, .top, .top, .top, .top, .top, .top], [some s0, some s1], h⟩
def jacquardref2_Locs_F4 (C : CallF) (L : LoopF) (G : Glo) : St → Option (Ex × St) :=
  roundF (fun st f => jacquardref2_Locs_b4.exec C L G st f) [1, 3, 7, 8] [0, 1] [(9, [1, 3, 7], [0, 1])]
def jacquardref2_Locs_x4_9 (a7 : Int) (s0 : List Cell) (s1 : List Cell) (h : AHeap) : St := ⟨[.top, .loc 0 0, .top, .loc 1 0, .top, .top, .top, .v (.c (.int .i64 a7)), .top, .top, .top, .top, .top, .top, .top, .top, .top, .top, .top, .top, .top, .top, .top, .top, .top, .top, .top, .top, .top, .top, .top, .top, .top, .top, .top, .top, .top, .top, .top, .top, .top, .top, .top, .top, .top, .top, .top, .top, .top, .top, .top, .top, .top, .top, .top, .top, .top, .top, .top, .top, .top, .top, .top, .top, .top, .top, .top, .top, .top, .top, .top, .top, .top, .top, .top, .top, .top, .top, .top, .top, .top, .top, .top, .top, .top, .top, .top, .top, .top, .top, .top, .top, .top, .top, .top, .top, .top, .top], [some s0, some s1], h⟩
def jacquardref2_Locs_x5_7 (s1 : List Cell) (h : AHeap) : St := ⟨[.top, .top, .top, .loc 1 0, .top, .top, .top, .top, .top, .top, .top, .top, .top, .top, .top, .top, .top, .top, .top, .top, .top, .top, .top, .top, .top, .top, .top, .top, .top, .top, .top, .top, .top, .top, .top, .top, .top, .top, .top, .top, .top, .top, .top, .top, .top, .top, .top, .top, .top, .top, .top, .top, .top, .top, .top, .top, .top, .top, .top, .top, .top, .top, .top, .top, .top, .top, .top, .top, .top, .top, .top, .top, .top, .top, .top, .top, .top, .top, .top, .top, .top, .top, .top, .top, .top, .top, .top, .top, .top, .top, .top, .top, .top, .top, .top, .top, .top, .top], [none, some s1], h⟩
def jacquardref2_Locs_k14 (C : CallF) (L : LoopF) (G : Glo) (h0 : AHeap) : Ex → St → Option (List AV × AHeap) :=
  kSeq (fun st => jacquardref2_Locs_p6.exec C L G st (jacquardref2_Locs.fin G h0)) (jacquardref2_Locs.fin G h0)
def jacquardref2_Locs_k15 (C : CallF) (L : LoopF) (G : Glo) (h0 : AHeap) : Ex → St → Option (List AV × AHeap) :=
  kBlk 10 (jacquardref2_Locs_k14 C L G h0)
def jacquardref2_Locs_s6 (x9 : Cell) (a10 : Int) (s1 : List Cell) (h : AHeap) : St := ⟨[.top, .top, .top, .loc 1 0, .top, .top, .top, .top, .top, .v (.c x9), .v (.c (.int .i32 a10)), .top, .top, .top, .top, .top, .top, .top, .top, .top, .top, .top, .top, .top, .top, .top, .top, .top, .top, .top, .top, .top, .top, .top, .top, .top, .top, .top, .top, .top, .top, .top, .top, .top, .top, .top, .top, .top, .top, .top, .top, .top, .top, .top, .top, .top, .top, .top, .top, .top, .top, .top, .top, .top, .top, .top, .top, .top, .top, .top, .top, .top, .top, .top, .top, .top, .top, .top, .top, .top, .top, .top, .top, .top, .top, .top, .top, .top, .top, .top, .top, .top, .top, .top, .top, .top, .top, .top], [none, some s1], h⟩
def jacquardref2_Locs_F6 (C : CallF) (L : LoopF) (G : Glo) : St → Option (Ex × St) :=
  roundF (fun st f => jacquardref2_Locs_b6.exec C L G st f) [3, 9, 10] [1] [(11, [9], [])]
def jacquardref2_Locs_x6_11 (x9 : Cell) (h : AHeap) : St := ⟨[.top, .top, .top, .top, .top, .top, .top, .top, .top, .v (.c x9), .top, .top, .top, .top, .top, .top, .top, .top, .top, .top, .top, .top, .top, .top, .top, .top, .top, .top, .top, .top, .top, .top, .top, .top, .top, .top, .top, .top, .top, .top, .top, .top, .top, .top, .top, .top, .top, .top, .top, .top, .top, .top, .top, .top, .top, .top, .top, .top, .top, .top, .top, .top, .top, .top, .top, .top, .top, .top, .top, .top, .top, .top, .top, .top, .top, .top, .top, .top, .top, .top, .top, .top, .top, .top, .top, .top, .top, .top, .top, .top, .top, .top, .top, .top, .top, .top, .top, .top], [none, none], h⟩
theorem jacquardref2_Locs_r1 (C : CallF) (L : LoopF) (G : Glo) (a4 : Int) (s0 : List Cell) (s1 : List Cell) (h : AHeap) :
    jacquardref2_Locs_F1 C L G (jacquardref2_Locs_s1 a4 s0 s1 h) =
    atK s0 1 fun q_1 => lenK q_1 fun n_2 => if (decide (a4 < n_2)) = true then atK s0 1 fun q_3 => idxSK 2 q_3 a4 fun k_4 N_5 o_6 => rdH h k_4 N_5 fun l_7 => atK l_7 (o_6 + 0) fun q_8 => asI .i64 (.c q_8) fun n_9 => if 0 ≤ (G.band .i64 n_9 255) ∧ (G.band .i64 n_9 255) < ((256 : Nat) : Int) then if (0 + ((Int.toNat (G.band .i64 n_9 255)) * 1)) < s1.length then some (.normal, (jacquardref2_Locs_s1 (G.wrap .i64 (a4 + 1)) s0 (s1.set (0 + ((Int.toNat (G.band .i64 n_9 255)) * 1)) (.bool true)) h)) else none else none else some ((.exit 0), (jacquardref2_Locs_x1_1 s0 s1 h)) := by kernel_rfl
theorem jacquardref2_Locs_r2 (C : CallF) (L : LoopF) (G : Glo) (a5 : Int) (a6 : Int) (s0 : List Cell) (s1 : List Cell) (h : AHeap) :
    jacquardref2_Locs_F2 C L G (jacquardref2_Locs_s2 a5 a6 s0 s1 h) =
    atK s0 2 fun q_12 => idxSK 1 q_12 a5 fun k_13 N_14 o_15 => rdH h k_13 N_14 fun l_16 => atK l_16 o_15 fun q_17 => lenK q_17 fun n_18 => if (decide (a6 < n_18)) = true then atK s0 2 fun q_19 => idxSK 1 q_19 a5 fun k_20 N_21 o_22 => rdH h k_20 N_21 fun l_23 => atK l_23 o_22 fun q_24 => idxSK 9 q_24 a6 fun k_25 N_26 o_27 => rdH h k_25 N_26 fun l_28 => atK l_28 (o_27 + 2) fun q_29 => asI .i64 (.c q_29) fun n_30 => if 0 ≤ (G.band .i64 n_30 255) ∧ (G.band .i64 n_30 255) < ((256 : Nat) : Int) then if (0 + ((Int.toNat (G.band .i64 n_30 255)) * 1)) < s1.length then some (.normal, (jacquardref2_Locs_s2 a5 (G.wrap .i64 (a6 + 1)) s0 (s1.set (0 + ((Int.toNat (G.band .i64 n_30 255)) * 1)) (.bool true)) h)) else none else none else some ((.exit 4), (jacquardref2_Locs_x2_5 a5 s0 s1 h)) := by kernel_rfl
theorem jacquardref2_Locs_e2_5 (C : CallF) (L : LoopF) (G : Glo) (a5 : Int) (s0 : List Cell) (s1 : List Cell) (h : AHeap) :
    (jacquardref2_Locs_k8 C L G) (.exit 4) (jacquardref2_Locs_x2_5 a5 s0 s1 h) =
    some (.normal, (jacquardref2_Locs_s3 (G.wrap .i64 (a5 + 1)) s0 s1 h)) := by kernel_rfl
theorem jacquardref2_Locs_r3 (C : CallF) (L : LoopF) (G : Glo) (a5 : Int) (s0 : List Cell) (s1 : List Cell) (h : AHeap) :
    jacquardref2_Locs_F3 C L G (jacquardref2_Locs_s3 a5 s0 s1 h) =
    atK s0 2 fun q_10 => lenK q_10 fun n_11 => if (decide (a5 < n_11)) = true then (L (jacquardref2_Locs_F2 C L G) (jacquardref2_Locs_s2 a5 0 s0 s1 h)).bind fun p_31 => (jacquardref2_Locs_k8 C L G) p_31.1 p_31.2 else some ((.exit 2), (jacquardref2_Locs_x3_3 s0 s1 h)) := by kernel_rfl
theorem jacquardref2_Locs_r4 (C : CallF) (L : LoopF) (G : Glo) (a7 : Int) (a8 : Int) (s0 : List Cell) (s1 : List Cell) (h : AHeap) :
    jacquardref2_Locs_F4 C L G (jacquardref2_Locs_s4 a7 a8 s0 s1 h) =
    atK s0 4 fun q_34 => idxSK 1 q_34 a7 fun k_35 N_36 o_37 => rdH h k_35 N_36 fun l_38 => atK l_38 o_37 fun q_39 => lenK q_39 fun n_40 => if (decide (a8 < n_40)) = true then atK s0 4 fun q_41 => idxSK 1 q_41 a7 fun k_42 N_43 o_44 => rdH h k_42 N_43 fun l_45 => atK l_45 o_44 fun q_46 => idxSK 4 q_46 a8 fun k_47 N_48 o_49 => rdH h k_47 N_48 fun l_50 => atK l_50 (o_49 + 2) fun q_51 => asI .i64 (.c q_51) fun n_52 => if 0 ≤ (G.band .i64 n_52 255) ∧ (G.band .i64 n_52 255) < ((256 : Nat) : Int) then if (0 + ((Int.toNat (G.band .i64 n_52 255)) * 1)) < s1.length then some (.normal, (jacquardref2_Locs_s4 a7 (G.wrap .i64 (a8 + 1)) s0 (s1.set (0 + ((Int.toNat (G.band .i64 n_52 255)) * 1)) (.bool true)) h)) else none else none else some ((.exit 8), (jacquardref2_Locs_x4_9 a7 s0 s1 h)) := by kernel_rfl
theorem jacquardref2_Locs_e4_9 (C : CallF) (L : LoopF) (G : Glo) (a7 : Int) (s0 : List Cell) (s1 : List Cell) (h : AHeap) :
    (jacquardref2_Locs_k13 C L G) (.exit 8) (jacquardref2_Locs_x4_9 a7 s0 s1 h) =
    some (.normal, (jacquardref2_Locs_s5 (G.wrap .i64 (a7 + 1)) s0 s1 h)) := by kernel_rfl
theorem jacquardref2_Locs_r5 (C : CallF) (L : LoopF) (G : Glo) (a7 : Int) (s0 : List Cell) (s1 : List Cell) (h : AHeap) :
    jacquardref2_Locs_F5 C L G (jacquardref2_Locs_s5 a7 s0 s1 h) =
    atK s0 4 fun q_32 => lenK q_32 fun n_33 => if (decide (a7 < n_33)) = true then (L (jacquardref2_Locs_F4 C L G) (jacquardref2_Locs_s4 a7 0 s0 s1 h)).bind fun p_53 => (jacquardref2_Locs_k13 C L G) p_53.1 p_53.2 else some ((.exit 6), (jacquardref2_Locs_x5_7 s1 h)) := by kernel_rfl
theorem jacquardref2_Locs_r6 (C : CallF) (L : LoopF) (G : Glo) (x9 : Cell) (a10 : Int) (s1 : List Cell) (h : AHeap) :
    jacquardref2_Locs_F6 C L G (jacquardref2_Locs_s6 x9 a10 s1 h) =
    if (decide (a10 ≤ 122)) = true then if 0 ≤ a10 ∧ a10 < ((256 : Nat) : Int) then atK s1 (0 + ((Int.toNat a10) * 1)) fun q_54 => asB (.c q_54) fun b_55 => if b_55 = true then if (splice [Cell.int .u8 0] 0 ([(.int .u8 (G.wrap .u8 a10))] : List Cell)).length = 1 * 1 then appK 1 1 x9 (splice [Cell.int .u8 0] 0 ([(.int .u8 (G.wrap .u8 a10))] : List Cell)) h fun x_56 h_57 => some (.normal, (jacquardref2_Locs_s6 x_56 (G.wrap .i32 (a10 + 1)) s1 h_57)) else none else some (.normal, (jacquardref2_Locs_s6 x9 (G.wrap .i32 (a10 + 1)) s1 h)) else none else some ((.exit 10), (jacquardref2_Locs_x6_11 x9 h)) := by kernel_rfl
theorem jacquardref2_Locs_e6_11 (C : CallF) (L : LoopF) (G : Glo) (h0 : AHeap) (x9 : Cell) (h : AHeap) :
    (jacquardref2_Locs_k15 C L G h0) (.exit 10) (jacquardref2_Locs_x6_11 x9 h) =
    some ([(.c x9)], h) := by kernel_rfl
theorem jacquardref2_Locs_e5_7 (C : CallF) (L : LoopF) (G : Glo) (h0 : AHeap) (s1 : List Cell) (h : AHeap) :
    (jacquardref2_Locs_k10 C L G h0) (.exit 6) (jacquardref2_Locs_x5_7 s1 h) =
    (L (jacquardref2_Locs_F6 C L G) (jacquardref2_Locs_s6 .nils 97 s1 h)).bind fun p_58 => (jacquardref2_Locs_k15 C L G h0) p_58.1 p_58.2 := by kernel_rfl
theorem jacquardref2_Locs_e3_3 (C : CallF) (L : LoopF) (G : Glo) (h0 : AHeap) (s0 : List Cell) (s1 : List Cell) (h : AHeap) :
    (jacquardref2_Locs_k5 C L G h0) (.exit 2) (jacquardref2_Locs_x3_3 s0 s1 h) =
    (L (jacquardref2_Locs_F5 C L G) (jacquardref2_Locs_s5 0 s0 s1 h)).bind fun p_59 => (jacquardref2_Locs_k10 C L G h0) p_59.1 p_59.2 := by kernel_rfl
theorem jacquardref2_Locs_e1_1 (C : CallF) (L : LoopF) (G : Glo) (h0 : AHeap) (s0 : List Cell) (s1 : List Cell) (h : AHeap) :
    (jacquardref2_Locs_k3 C L G h0) (.exit 0) (jacquardref2_Locs_x1_1 s0 s1 h) =
    (L (jacquardref2_Locs_F3 C L G) (jacquardref2_Locs_s3 0 s0 s1 h)).bind fun p_60 => (jacquardref2_Locs_k5 C L G h0) p_60.1 p_60.2 := by kernel_rfl
set_option maxRecDepth 100000 in
theorem jacquardref2_Locs_eq (C : CallF) (L : LoopF) (G : Glo) (l0 : List Cell) (h0 : AHeap) :
    jacquardref2_Locs.body C L G [(.agg l0)] h0 =
    (L (jacquardref2_Locs_F1 C L G) (jacquardref2_Locs_s1 0 l0 (List.replicate 256 (Cell.bool false)) h0)).bind fun p_61 => (jacquardref2_Locs_k3 C L G h0) p_61.1 p_61.2 := by kernel_rfl


end Jq

