/- YtlfhmbifgdhckaaDoorPlayTextsA: a part of the proof; no conditions of its own. -/
import Derived.KernelRfl
import Derived.Lib.TrailingZeros
import Derived.Test.YtlfhmbifgdhckaaDoorCoreC
set_option linter.unusedVariables false
set_option linter.unusedSimpArgs false

namespace Jq
open Go

/- jacquard/buf.New: 190 -/
def buf_New : Fn := { np := 1, nt := 11, ns := 1, res := [.all (.slot 0) 2 74], gc := false, code :=
  (.seq (.reg 0 false (.al 2 0 (List.replicate 74 (Cell.int .i64 0))
    .nil))
  (.seq (.seq (.reg 1 false (.op (some 3) .mov [(.t 0)]
    (.op (some 4) (.bin .neq) [(.t 3), (.k (.c (.int .i64 2)))]
    (.op (some 5) .mov [(.t 4)]
    (.sc 5 true (.op (some 6) .mov [(.t 0)]
    (.op (some 7) (.bin .neq) [(.t 6), (.k (.c (.int .i64 3)))]
    .nil)) 7 8 false
    .nil)))))
  (.cond (.t 8)
  (.reg 2 false (.op (some 0) .mov [(.k (.c (.int .i64 0)))]
    .nil))
  .skip))
  (.seq (.reg 3 false (.op (some 9) .mov [(.t 0)]
    (.op (some 10) (.build (List.replicate 74 (Cell.int .i64 0)) [(0, 1)]) [(.t 9)]
    (.op none (.stAll (.slot 0) 74) [(.t 2), (.t 10)]
    .nil))))
  .ret))) }

/- (jacquard/buf.Buf).Empty: 191 -/
def buf_Buf_Empty : Fn := { np := 1, nt := 6, ns := 1, res := [.t 2 .b], gc := false, code :=
  (.seq (.reg 0 false (.box 1 0 (.t 0)
    (.op (some 2) .mov [(.k (.c (.bool false)))]
    .nil)))
  (.seq (.reg 1 false (.op (some 3) (.addr 1) [(.t 1)]
    (.op (some 4) (.ld (.slot 0) (.i .i64)) [(.t 3)]
    (.op (some 5) (.bin .eql) [(.t 4), (.k (.c (.int .i64 0)))]
    (.op (some 2) .mov [(.t 5)]
    .nil)))))
  .ret)) }

/- (jacquard/buf.Buf).Oldest: 192 -/
def buf_Buf_Oldest : Fn := { np := 2, nt := 29, ns := 1, res := [.t 4 (.i .i64), .t 5 (.i .i64), .t 6 (.i .i64), .t 7 .b], gc := false, code :=
  (.seq (.reg 0 false (.box 2 0 (.t 0)
    (.op (some 4) .mov [(.k (.c (.int .i64 0)))]
    (.op (some 5) .mov [(.k (.c (.int .i64 0)))]
    (.op (some 6) .mov [(.k (.c (.int .i64 0)))]
    (.op (some 7) .mov [(.k (.c (.bool false)))]
    .nil))))))
  (.seq (.reg 1 false (.op (some 9) (.ldAll (.slot 0) 74) [(.t 2)]
    (.op (some 10) .mov [(.t 1)]
    (.op (some 11) (.call 204 [(.i .i64)]) [(.t 9), (.t 10)]
    (.op (some 8) .mov [(.t 11)]
    .nil)))))
  (.seq (.seq (.reg 2 false (.op (some 12) .mov [(.t 8)]
    (.op (some 13) (.bin .lss) [(.t 12), (.k (.c (.int .i64 0)))]
    .nil)))
  (.cond (.t 13)
  (.seq (.reg 3 false (.op (some 4) .mov [(.k (.c (.int .i64 0)))]
    (.op (some 5) .mov [(.k (.c (.int .i64 0)))]
    (.op (some 6) .mov [(.k (.c (.int .i64 0)))]
    (.op (some 7) .mov [(.k (.c (.bool false)))]
    .nil)))))
  .ret)
  .skip))
  (.seq (.reg 4 true (.op (some 14) .mov [(.t 8)]
    (.op (some 15) (.addr 2) [(.t 2)]
    (.op (some 16) (.idxA 24 3) [(.t 15), (.t 14)]
    (.op (some 17) (.addr 0) [(.t 16)]
    (.op (some 18) (.ld (.slot 0) (.i .i64)) [(.t 17)]
    (.op (some 19) .mov [(.t 8)]
    (.op (some 20) (.addr 2) [(.t 2)]
    (.op (some 21) (.idxA 24 3) [(.t 20), (.t 19)]
    (.op (some 22) (.addr 1) [(.t 21)]
    (.op (some 23) (.ld (.slot 0) (.i .i64)) [(.t 22)]
    (.op (some 24) .mov [(.t 8)]
    (.op (some 25) (.addr 2) [(.t 2)]
    (.op (some 26) (.idxA 24 3) [(.t 25), (.t 24)]
    (.op (some 27) (.addr 2) [(.t 26)]
    (.op (some 28) (.ld (.slot 0) (.i .i64)) [(.t 27)]
    (.op (some 4) .mov [(.t 18)]
    (.op (some 5) .mov [(.t 23)]
    (.op (some 6) .mov [(.t 28)]
    (.op (some 7) .mov [(.k (.c (.bool true)))]
    .nil))))))))))))))))))))
  .ret)))) }

/- (jacquard/buf.Buf).oldest: 204 -/
def buf_Buf_oldest_b1 : IC :=
  (.seq (.reg 2 false (.op (some 9) (.bin .lss) [(.t 8), (.t 7)]
    .nil))
  (.seq (.cond (.t 9)
  .skip
  (.exit 0))
  (.seq (.blk 1 (.seq (.reg 3 false (.op (some 10) .mov [(.t 8)]
    (.op (some 5) .mov [(.t 10)]
    .nil)))
  (.seq (.reg 4 false (.op (some 11) (.addr 0) [(.t 2)]
    (.op (some 12) (.ld (.slot 0) (.i .i64)) [(.t 11)]
    (.op (some 13) (.bin .eql) [(.t 12), (.k (.c (.int .i64 2)))]
    (.op (some 14) .mov [(.t 13)]
    (.sc 14 false (.op (some 15) .mov [(.t 5)]
    (.op (some 16) (.addr 2) [(.t 2)]
    (.op (some 17) (.idxA 24 3) [(.t 16), (.t 15)]
    (.op (some 18) (.addr 0) [(.t 17)]
    (.op (some 19) (.ld (.slot 0) (.i .i64)) [(.t 18)]
    (.op (some 20) .mov [(.t 1)]
    (.op (some 21) (.bin .eql) [(.t 19), (.t 20)]
    .nil))))))) 21 22 true
    .nil))))))
  (.cond (.t 22)
  (.seq (.reg 5 false (.op (some 23) .mov [(.t 5)]
    (.op (some 4) .mov [(.t 23)]
    .nil)))
  .ret)
  .skip))))
  (.reg 6 false (.op (some 24) (.bin .add) [(.t 8), (.k (.c (.int .i64 1)))]
    (.op (some 8) .mov [(.t 24)]
    .nil))))))
def buf_Buf_oldest_p1 : IC :=
  (.seq (.reg 7 false (.op (some 4) .mov [(.k (.c (.int .i64 (-1))))]
    .nil))
  .ret)
def buf_Buf_oldest : Fn := { np := 2, nt := 25, ns := 1, res := [.t 4 (.i .i64)], gc := false, code :=
  (.seq (.reg 0 false (.box 2 0 (.t 0)
    (.op (some 4) .mov [(.k (.c (.int .i64 0)))]
    .nil)))
  (.seq (.seq (.reg 1 false (.op (some 6) (.addr 1) [(.t 2)]
    (.op (some 7) (.ld (.slot 0) (.i .i64)) [(.t 6)]
    (.op (some 8) .mov [(.k (.c (.int .i64 0)))]
    .nil))))
  (.blk 0 (.loop [1, 2, 7, 8] [0] [(0, [4], []), (1, [], [])] buf_Buf_oldest_b1)))
  buf_Buf_oldest_p1)) }

/- (jacquard/buf.Buf).Newest: 205 -/
def buf_Buf_Newest_b1 : IC :=
  (.seq (.seq (.reg 2 false (.op (some 11) .mov [(.t 7)]
    (.op (some 12) (.bin .geq) [(.t 11), (.k (.c (.int .i64 0)))]
    .nil)))
  (.cond (.t 12)
  .skip
  (.exit 0)))
  (.seq (.blk 1 (.seq (.reg 4 false (.op (some 15) .mov [(.t 7)]
    (.op (some 16) (.addr 2) [(.t 2)]
    (.op (some 17) (.idxA 24 3) [(.t 16), (.t 15)]
    (.op (some 18) (.addr 0) [(.t 17)]
    (.op (some 19) (.ld (.slot 0) (.i .i64)) [(.t 18)]
    (.op (some 20) .mov [(.t 1)]
    (.op (some 21) (.bin .eql) [(.t 19), (.t 20)]
    .nil))))))))
  (.cond (.t 21)
  (.seq (.reg 5 true (.op (some 22) .mov [(.t 7)]
    (.op (some 23) (.addr 2) [(.t 2)]
    (.op (some 24) (.idxA 24 3) [(.t 23), (.t 22)]
    (.op (some 25) (.addr 1) [(.t 24)]
    (.op (some 26) (.ld (.slot 0) (.i .i64)) [(.t 25)]
    (.op (some 27) .mov [(.t 7)]
    (.op (some 28) (.addr 2) [(.t 2)]
    (.op (some 29) (.idxA 24 3) [(.t 28), (.t 27)]
    (.op (some 30) (.addr 2) [(.t 29)]
    (.op (some 31) (.ld (.slot 0) (.i .i64)) [(.t 30)]
    (.op (some 4) .mov [(.t 26)]
    (.op (some 5) .mov [(.t 31)]
    (.op (some 6) .mov [(.k (.c (.bool true)))]
    .nil))))))))))))))
  .ret)
  .skip)))
  (.reg 3 false (.op (some 13) .mov [(.t 7)]
    (.op (some 14) (.bin .sub) [(.t 13), (.k (.c (.int .i64 1)))]
    (.op (some 7) .mov [(.t 14)]
    .nil))))))
def buf_Buf_Newest_p1 : IC :=
  (.seq (.reg 6 false (.op (some 4) .mov [(.k (.c (.int .i64 0)))]
    (.op (some 5) .mov [(.k (.c (.int .i64 0)))]
    (.op (some 6) .mov [(.k (.c (.bool false)))]
    .nil))))
  .ret)
def buf_Buf_Newest : Fn := { np := 2, nt := 32, ns := 1, res := [.t 4 (.i .i64), .t 5 (.i .i64), .t 6 .b], gc := false, code :=
  (.seq (.reg 0 false (.box 2 0 (.t 0)
    (.op (some 4) .mov [(.k (.c (.int .i64 0)))]
    (.op (some 5) .mov [(.k (.c (.int .i64 0)))]
    (.op (some 6) .mov [(.k (.c (.bool false)))]
    .nil)))))
  (.seq (.seq (.reg 1 false (.op (some 8) (.addr 1) [(.t 2)]
    (.op (some 9) (.ld (.slot 0) (.i .i64)) [(.t 8)]
    (.op (some 10) (.bin .sub) [(.t 9), (.k (.c (.int .i64 1)))]
    (.op (some 7) .mov [(.t 10)]
    .nil)))))
  (.blk 0 (.loop [1, 2, 7] [0] [(0, [4, 5, 6], []), (1, [], [])] buf_Buf_Newest_b1)))
  buf_Buf_Newest_p1)) }

/- (jacquard/buf.Buf).Put: 206 -/
def buf_Buf_Put : Fn := { np := 4, nt := 39, ns := 2, res := [.all (.slot 1) 8 74], gc := false, code :=
  (.seq (.reg 0 false (.box 4 0 (.t 0)
    (.al 8 1 (List.replicate 74 (Cell.int .i64 0))
    .nil)))
  (.seq (.seq (.reg 1 false (.op (some 9) (.addr 0) [(.t 4)]
    (.op (some 10) (.ld (.slot 0) (.i .i64)) [(.t 9)]
    (.op (some 11) (.bin .eql) [(.t 10), (.k (.c (.int .i64 0)))]
    (.op (some 12) .mov [(.t 11)]
    (.sc 12 false (.op (some 13) .mov [(.t 1)]
    (.op (some 14) (.bin .lss) [(.t 13), (.k (.c (.int .i64 0)))]
    .nil)) 14 15 true
    (.op (some 16) .mov [(.t 15)]
    (.sc 16 false (.op (some 17) .mov [(.t 1)]
    (.op (some 18) (.bin .geq) [(.t 17), (.k (.c (.int .i64 4)))]
    .nil)) 18 19 true
    (.op (some 20) .mov [(.t 19)]
    (.sc 20 false (.op (some 21) (.addr 1) [(.t 4)]
    (.op (some 22) (.ld (.slot 0) (.i .i64)) [(.t 21)]
    (.op (some 23) (.bin .geq) [(.t 22), (.k (.c (.int .i64 24)))]
    .nil))) 23 24 true
    .nil))))))))))
  (.cond (.t 24)
  (.seq (.reg 2 false (.op (some 25) (.ldAll (.slot 0) 74) [(.t 4)]
    (.op none (.stAll (.slot 1) 74) [(.t 8), (.t 25)]
    .nil)))
  .ret)
  .skip))
  (.seq (.reg 3 false (.op (some 26) (.addr 1) [(.t 4)]
    (.op (some 27) (.ld (.slot 0) (.i .i64)) [(.t 26)]
    (.op (some 28) .mov [(.t 1)]
    (.op (some 29) .mov [(.t 2)]
    (.op (some 30) .mov [(.t 3)]
    (.op (some 31) (.build ([Cell.int .i64 0, Cell.int .i64 0, Cell.int .i64 0]) [(0, 1), (1, 1), (2, 1)]) [(.t 28), (.t 29), (.t 30)]
    (.op (some 32) (.addr 2) [(.t 4)]
    (.op (some 33) (.idxA 24 3) [(.t 32), (.t 27)]
    (.op none (.stN (.slot 0) 3) [(.t 33), (.t 31)]
    .nil))))))))))
  (.seq (.reg 4 false (.op (some 34) (.addr 1) [(.t 4)]
    (.op (some 35) (.ld (.slot 0) (.i .i64)) [(.t 34)]
    (.op (some 36) (.bin .add) [(.t 35), (.k (.c (.int .i64 1)))]
    (.op (some 37) (.addr 1) [(.t 4)]
    (.op none (.st (.slot 0)) [(.t 37), (.t 36)]
    .nil))))))
  (.seq (.reg 5 false (.op (some 38) (.ldAll (.slot 0) 74) [(.t 4)]
    (.op none (.stAll (.slot 1) 74) [(.t 8), (.t 38)]
    .nil)))
  .ret))))) }

/- (jacquard/buf.Buf).Drop: 207 -/
def buf_Buf_Drop : Fn := { np := 2, nt := 30, ns := 1, res := [.all (.slot 0) 4 74], gc := true, code :=
  (.seq (.reg 0 false (.op (some 2) .boxH [(.t 0)]
    (.al 4 0 (List.replicate 74 (Cell.int .i64 0))
    .nil)))
  (.seq (.reg 1 false (.op (some 6) (.ldAll .heap 74) [(.t 2)]
    (.op (some 7) .mov [(.t 1)]
    (.op (some 8) (.call 204 [(.i .i64)]) [(.t 6), (.t 7)]
    (.op (some 5) .mov [(.t 8)]
    .nil)))))
  (.seq (.seq (.reg 2 false (.op (some 9) .mov [(.t 5)]
    (.op (some 10) (.bin .lss) [(.t 9), (.k (.c (.int .i64 0)))]
    .nil)))
  (.cond (.t 10)
  (.seq (.reg 3 false (.op (some 11) (.ldAll .heap 74) [(.t 2)]
    (.op none (.stAll (.slot 0) 74) [(.t 4), (.t 11)]
    .nil)))
  .ret)
  .skip))
  (.seq (.reg 4 true (.op (some 12) (.addr 2) [(.t 2)]
    (.op (some 13) .mov [(.t 5)]
    (.op (some 14) (.slcA 24 3 true false) [(.t 12), (.t 13)]
    (.op (some 15) (.addr 2) [(.t 2)]
    (.op (some 16) .mov [(.t 5)]
    (.op (some 17) (.bin .add) [(.t 16), (.k (.c (.int .i64 1)))]
    (.op (some 18) (.slcA 24 3 true false) [(.t 15), (.t 17)]
    (.op (some 19) (.copy 3) [(.t 14), (.t 18)]
    .nil)))))))))
  (.seq (.reg 5 false (.op (some 20) (.addr 1) [(.t 2)]
    (.op (some 21) (.ld .heap (.i .i64)) [(.t 20)]
    (.op (some 22) (.bin .sub) [(.t 21), (.k (.c (.int .i64 1)))]
    (.op (some 23) (.addr 1) [(.t 2)]
    (.op none (.st .heap) [(.t 23), (.t 22)]
    .nil))))))
  (.seq (.reg 6 false (.op (some 24) (.addr 1) [(.t 2)]
    (.op (some 25) (.ld .heap (.i .i64)) [(.t 24)]
    (.op (some 26) (.build ([Cell.int .i64 0, Cell.int .i64 0, Cell.int .i64 0]) []) []
    (.op (some 27) (.addr 2) [(.t 2)]
    (.op (some 28) (.idxA 24 3) [(.t 27), (.t 25)]
    (.op none (.stN .heap 3) [(.t 28), (.t 26)]
    .nil)))))))
  (.seq (.reg 7 false (.op (some 29) (.ldAll .heap 74) [(.t 2)]
    (.op none (.stAll (.slot 0) 74) [(.t 4), (.t 29)]
    .nil)))
  .ret))))))) }


end Jq

/- What a function needs of an environment. -/
namespace Jq
open Go

structure buf_New_In (E : Env) : Prop where
  fn : E.fn 190 = some buf_New

structure buf_Buf_Empty_In (E : Env) : Prop where
  fn : E.fn 191 = some buf_Buf_Empty

structure buf_Buf_oldest_In (E : Env) : Prop where
  fn : E.fn 204 = some buf_Buf_oldest

structure buf_Buf_Oldest_In (E : Env) : Prop where
  fn : E.fn 192 = some buf_Buf_Oldest
  c204 : buf_Buf_oldest_In E

structure buf_Buf_Newest_In (E : Env) : Prop where
  fn : E.fn 205 = some buf_Buf_Newest

structure buf_Buf_Put_In (E : Env) : Prop where
  fn : E.fn 206 = some buf_Buf_Put

structure buf_Buf_Drop_In (E : Env) : Prop where
  fn : E.fn 207 = some buf_Buf_Drop
  c204 : buf_Buf_oldest_In E

end Jq

namespace Jq
open Go

/- jacquard/event.Writes: 80 -/
def event_Writes : Fn := { np := 1, nt := 11, ns := 1, res := [.t 2 .b], gc := false, code :=
  (.seq (.reg 0 false (.box 1 0 (.t 0)
    (.op (some 2) .mov [(.k (.c (.bool false)))]
    .nil)))
  (.seq (.reg 1 false (.op (some 3) (.addr 2) [(.t 1)]
    (.op (some 4) (.ld (.slot 0) (.i .i64)) [(.t 3)]
    (.op (some 5) (.bin .eql) [(.t 4), (.k (.c (.int .i64 2)))]
    (.op (some 6) .mov [(.t 5)]
    (.sc 6 false (.op (some 7) (.addr 2) [(.t 1)]
    (.op (some 8) (.ld (.slot 0) (.i .i64)) [(.t 7)]
    (.op (some 9) (.bin .eql) [(.t 8), (.k (.c (.int .i64 4)))]
    .nil))) 9 10 true
    (.op (some 2) .mov [(.t 10)]
    .nil)))))))
  .ret)) }

/- jacquard/event.Of: 109 -/
def event_Of : Fn := { np := 3, nt := 46, ns := 3, res := [.all (.slot 2) 6 6, .t 7 .b], gc := false, code :=
  (.seq (.reg 0 false (.box 3 0 (.t 0)
    (.box 4 1 (.t 1)
    (.al 6 2 ([Cell.int .i64 0, Cell.int .i64 0, Cell.int .i64 0, Cell.int .i64 0, Cell.int .i64 0, Cell.int .i64 0])
    (.op (some 7) .mov [(.k (.c (.bool false)))]
    .nil)))))
  (.seq (.seq (.reg 1 false (.op (some 8) (.addr 0) [(.t 3)]
    (.op (some 9) (.ld (.slot 0) (.i .i64)) [(.t 8)]
    .nil)))
  (.blk 0 (.seq (.reg 2 false (.op (some 11) (.bin .eql) [(.t 9), (.k (.c (.int .i64 1)))]
    (.op (some 10) .mov [(.t 11)]
    .nil)))
  (.cond (.t 10)
  (.seq (.reg 3 true (.op (some 12) (.addr 2) [(.t 3)]
    (.op (some 13) (.ld (.slot 0) (.i .i64)) [(.t 12)]
    (.op (some 14) (.addr 3) [(.t 3)]
    (.op (some 15) (.ldN (.slot 0) 2) [(.t 14)]
    (.op (some 16) (.ldAll (.slot 1) 5) [(.t 4)]
    (.op (some 17) (.qcall 108 [(.i .i64)]) [(.t 15), (.t 16)]
    (.op (some 18) (.build ([Cell.int .i64 0, Cell.int .i64 0, Cell.int .i64 0, Cell.int .i64 0, Cell.int .i64 0, Cell.int .i64 0]) [(2, 1), (3, 1), (5, 1)]) [(.k (.c (.int .i64 2))), (.t 13), (.t 17)]
    (.op none (.stAll (.slot 2) 6) [(.t 6), (.t 18)]
    (.op (some 7) .mov [(.k (.c (.bool false)))]
    .nil))))))))))
  .ret)
  (.seq (.reg 4 false (.op (some 20) (.bin .eql) [(.t 9), (.k (.c (.int .i64 2)))]
    (.op (some 19) .mov [(.t 20)]
    .nil)))
  (.cond (.t 19)
  (.seq (.reg 5 false (.op (some 21) (.addr 2) [(.t 3)]
    (.op (some 22) (.ld (.slot 0) (.i .i64)) [(.t 21)]
    (.op (some 23) .mov [(.t 2)]
    (.op (some 24) (.build ([Cell.int .i64 0, Cell.int .i64 0, Cell.int .i64 0, Cell.int .i64 0, Cell.int .i64 0, Cell.int .i64 0]) [(2, 1), (3, 1), (4, 1)]) [(.k (.c (.int .i64 1))), (.t 22), (.t 23)]
    (.op none (.stAll (.slot 2) 6) [(.t 6), (.t 24)]
    (.op (some 7) .mov [(.k (.c (.bool true)))]
    .nil)))))))
  .ret)
  (.seq (.reg 6 false (.op (some 26) (.bin .eql) [(.t 9), (.k (.c (.int .i64 4)))]
    (.op (some 25) .mov [(.t 26)]
    .nil)))
  (.cond (.t 25)
  (.seq (.seq (.reg 7 false (.op (some 27) (.addr 3) [(.t 3)]
    (.op (some 28) (.ldN (.slot 0) 2) [(.t 27)]
    (.op (some 29) (.ldAll (.slot 1) 5) [(.t 4)]
    (.op (some 30) (.call 108 [(.i .i64)]) [(.t 28), (.t 29)]
    (.op (some 31) .mov [(.t 2)]
    (.op (some 32) (.bin .eql) [(.t 30), (.t 31)]
    .nil)))))))
  (.cond (.t 32)
  (.seq (.reg 8 true (.op (some 33) (.addr 2) [(.t 3)]
    (.op (some 34) (.ld (.slot 0) (.i .i64)) [(.t 33)]
    (.op (some 35) .mov [(.t 2)]
    (.op (some 36) (.addr 6) [(.t 3)]
    (.op (some 37) (.ldN (.slot 0) 2) [(.t 36)]
    (.op (some 38) (.ldAll (.slot 1) 5) [(.t 4)]
    (.op (some 39) (.qcall 108 [(.i .i64)]) [(.t 37), (.t 38)]
    (.op (some 40) (.build ([Cell.int .i64 0, Cell.int .i64 0, Cell.int .i64 0, Cell.int .i64 0, Cell.int .i64 0, Cell.int .i64 0]) [(2, 1), (3, 1), (4, 1), (5, 1)]) [(.k (.c (.int .i64 4))), (.t 34), (.t 35), (.t 39)]
    (.op none (.stAll (.slot 2) 6) [(.t 6), (.t 40)]
    (.op (some 7) .mov [(.k (.c (.bool true)))]
    .nil)))))))))))
  .ret)
  .skip))
  (.seq (.reg 9 false (.op (some 41) (.addr 2) [(.t 3)]
    (.op (some 42) (.ld (.slot 0) (.i .i64)) [(.t 41)]
    (.op (some 43) .mov [(.t 2)]
    (.op (some 44) (.build ([Cell.int .i64 0, Cell.int .i64 0, Cell.int .i64 0, Cell.int .i64 0, Cell.int .i64 0, Cell.int .i64 0]) [(2, 1), (3, 1), (4, 1)]) [(.k (.c (.int .i64 5))), (.t 42), (.t 43)]
    (.op none (.stAll (.slot 2) 6) [(.t 6), (.t 44)]
    (.op (some 7) .mov [(.k (.c (.bool true)))]
    .nil)))))))
  .ret))
  .skip))))))))
  (.seq (.reg 10 false (.op (some 45) (.build ([Cell.int .i64 0, Cell.int .i64 0, Cell.int .i64 0, Cell.int .i64 0, Cell.int .i64 0, Cell.int .i64 0]) [(2, 1)]) [(.k (.c (.int .i64 3)))]
    (.op none (.stAll (.slot 2) 6) [(.t 6), (.t 45)]
    (.op (some 7) .mov [(.k (.c (.bool false)))]
    .nil))))
  .ret))) }


end Jq

namespace Jq
open Go

/- jacquard/prog.Start: 94 -/
def prog_Start : Fn := { np := 2, nt := 10, ns := 2, res := [.all (.slot 1) 4 5], gc := false, code :=
  (.seq (.reg 0 false (.box 2 0 (.t 0)
    (.al 4 1 ([Cell.int .i64 0, Cell.int .i64 0, Cell.int .i64 0, Cell.int .i64 0, Cell.int .i64 0])
    .nil)))
  (.seq (.reg 1 false (.op (some 5) (.ldAll (.slot 0) 3) [(.t 2)]
    (.op (some 6) .mov [(.t 1)]
    (.op (some 7) (.call 113 [.any]) [(.t 5), (.t 6)]
    (.op (some 8) (.build ([Cell.int .i64 0, Cell.int .i64 0, Cell.int .i64 0, Cell.int .i64 0, Cell.int .i64 0]) []) []
    (.op (some 9) (.call 114 [.agg]) [(.t 7), (.t 8)]
    (.op none (.stAll (.slot 1) 5) [(.t 4), (.t 9)]
    .nil)))))))
  .ret)) }

/- jacquard/prog.Size: 102 -/
def prog_Size_b1 : IC :=
  (.seq (.reg 3 false (.op (some 10) (.bin .lss) [(.t 9), (.t 8)]
    .nil))
  (.seq (.cond (.t 10)
  .skip
  (.exit 0))
  (.seq (.blk 1 (.seq (.reg 4 false (.op (some 11) (.idxS 1) [(.t 7), (.t 9)]
    (.op (some 12) (.ld .heap .any) [(.t 11)]
    (.op (some 5) .mov [(.t 12)]
    .nil))))
  (.reg 5 false (.op (some 13) .mov [(.t 3)]
    (.op (some 14) .mov [(.t 5)]
    (.op (some 15) .len [(.t 14)]
    (.op (some 16) (.bin .add) [(.t 13), (.t 15)]
    (.op (some 3) .mov [(.t 16)]
    .nil))))))))
  (.reg 6 false (.op (some 17) (.bin .add) [(.t 9), (.k (.c (.int .i64 1)))]
    (.op (some 9) .mov [(.t 17)]
    .nil))))))
def prog_Size_p1 : IC :=
  (.seq (.reg 7 false (.op (some 18) .mov [(.t 3)]
    (.op (some 2) .mov [(.t 18)]
    .nil)))
  .ret)
def prog_Size : Fn := { np := 1, nt := 19, ns := 1, res := [.t 2 (.i .i64)], gc := false, code :=
  (.seq (.reg 0 false (.box 1 0 (.t 0)
    (.op (some 2) .mov [(.k (.c (.int .i64 0)))]
    .nil)))
  (.seq (.reg 1 false (.op (some 3) .mov [(.k (.c (.int .i64 0)))]
    .nil))
  (.seq (.seq (.reg 2 false (.op (some 6) (.addr 2) [(.t 1)]
    (.op (some 7) (.ld (.slot 0) .any) [(.t 6)]
    (.op (some 8) .len [(.t 7)]
    (.op (some 9) .mov [(.k (.c (.int .i64 0)))]
    .nil)))))
  (.blk 0 (.loop [3, 7, 8, 9] [] [(1, [3], [])] prog_Size_b1)))
  prog_Size_p1))) }

/- jacquard/prog.Next: 105 -/
def prog_Next : Fn := { np := 3, nt := 39, ns := 4, res := [.all (.slot 2) 6 9, .t 7 .b], gc := false, code :=
  (.seq (.reg 0 false (.box 3 0 (.t 0)
    (.box 5 1 (.t 2)
    (.al 6 2 (List.replicate 9 (Cell.int .i64 0))
    (.op (some 7) .mov [(.k (.c (.bool false)))]
    .nil)))))
  (.seq (.reg 1 false (.op (some 10) (.ldAll (.slot 0) 3) [(.t 3)]
    (.op (some 11) .mov [(.t 1)]
    (.op (some 12) (.call 113 [.any]) [(.t 10), (.t 11)]
    (.op (some 8) .mov [(.t 12)]
    .nil)))))
  (.seq (.seq (.reg 2 false (.op (some 13) (.addr 0) [(.t 5)]
    (.op (some 14) (.ld (.slot 1) (.i .i64)) [(.t 13)]
    (.op (some 15) (.bin .lss) [(.t 14), (.k (.c (.int .i64 0)))]
    (.op (some 16) .mov [(.t 15)]
    (.sc 16 false (.op (some 17) (.addr 0) [(.t 5)]
    (.op (some 18) (.ld (.slot 1) (.i .i64)) [(.t 17)]
    (.op (some 19) .mov [(.t 8)]
    (.op (some 20) .len [(.t 19)]
    (.op (some 21) (.bin .geq) [(.t 18), (.t 20)]
    .nil))))) 21 22 true
    .nil))))))
  (.cond (.t 22)
  (.seq (.reg 3 false (.op (some 23) (.build (List.replicate 9 (Cell.int .i64 0)) []) []
    (.op none (.stAll (.slot 2) 9) [(.t 6), (.t 23)]
    (.op (some 7) .mov [(.k (.c (.bool false)))]
    .nil))))
  .ret)
  .skip))
  (.seq (.reg 4 false (.op (some 24) .mov [(.t 8)]
    (.op (some 25) (.addr 0) [(.t 5)]
    (.op (some 26) (.ld (.slot 1) (.i .i64)) [(.t 25)]
    (.op (some 27) (.idxS 9) [(.t 24), (.t 26)]
    (.op (some 28) (.ldN .heap 9) [(.t 27)]
    (.al 9 3 (List.replicate 9 (Cell.int .i64 0))
    (.op none (.stAll (.slot 3) 9) [(.t 9), (.t 28)]
    .nil))))))))
  (.seq (.seq (.reg 5 false (.op (some 29) (.addr 0) [(.t 9)]
    (.op (some 30) (.ld (.slot 3) (.i .i64)) [(.t 29)]
    (.op (some 31) (.bin .lss) [(.t 30), (.k (.c (.int .i64 1)))]
    (.op (some 32) .mov [(.t 31)]
    (.sc 32 false (.op (some 33) (.addr 0) [(.t 9)]
    (.op (some 34) (.ld (.slot 3) (.i .i64)) [(.t 33)]
    (.op (some 35) (.bin .gtr) [(.t 34), (.k (.c (.int .i64 4)))]
    .nil))) 35 36 true
    .nil))))))
  (.cond (.t 36)
  (.seq (.reg 6 false (.op (some 37) (.build (List.replicate 9 (Cell.int .i64 0)) []) []
    (.op none (.stAll (.slot 2) 9) [(.t 6), (.t 37)]
    (.op (some 7) .mov [(.k (.c (.bool false)))]
    .nil))))
  .ret)
  .skip))
  (.seq (.reg 7 false (.op (some 38) (.ldAll (.slot 3) 9) [(.t 9)]
    (.op none (.stAll (.slot 2) 9) [(.t 6), (.t 38)]
    (.op (some 7) .mov [(.k (.c (.bool true)))]
    .nil))))
  .ret)))))) }

/- jacquard/prog.After: 106 -/
def prog_After : Fn := { np := 4, nt := 42, ns := 3, res := [.all (.slot 1) 8 5], gc := true, code :=
  (.seq (.reg 0 false (.box 4 0 (.t 0)
    (.op (some 6) .boxH [(.t 2)]
    (.al 8 1 ([Cell.int .i64 0, Cell.int .i64 0, Cell.int .i64 0, Cell.int .i64 0, Cell.int .i64 0])
    .nil))))
  (.seq (.reg 1 false (.op (some 12) (.ldAll (.slot 0) 3) [(.t 4)]
    (.op (some 13) .mov [(.t 1)]
    (.op (some 14) (.ldAll .heap 5) [(.t 6)]
    (.op (some 15) (.call 105 [.agg, .b]) [(.t 12), (.t 13), (.t 14)]
    (.op (some 11) .mov [(.t 15)]
    (.op (some 16) (.ext 0) [(.t 11)]
    (.op (some 17) (.ext 1) [(.t 11)]
    (.al 9 2 (List.replicate 9 (Cell.int .i64 0))
    (.op none (.stAll (.slot 2) 9) [(.t 9), (.t 16)]
    (.op (some 10) .mov [(.t 17)]
    .nil)))))))))))
  (.seq (.seq (.reg 2 false (.op (some 18) .mov [(.t 10)]
    (.op (some 19) (.un .not) [(.t 18)]
    .nil)))
  (.cond (.t 19)
  (.seq (.reg 3 false (.op (some 20) (.ldAll .heap 5) [(.t 6)]
    (.op none (.stAll (.slot 1) 5) [(.t 8), (.t 20)]
    .nil)))
  .ret)
  .skip))
  (.seq (.seq (.reg 4 false (.op (some 21) (.addr 0) [(.t 9)]
    (.op (some 22) (.ld (.slot 2) (.i .i64)) [(.t 21)]
    (.op (some 23) (.bin .eql) [(.t 22), (.k (.c (.int .i64 2)))]
    (.op (some 24) .mov [(.t 23)]
    (.sc 24 false (.op (some 25) (.addr 0) [(.t 9)]
    (.op (some 26) (.ld (.slot 2) (.i .i64)) [(.t 25)]
    (.op (some 27) (.bin .eql) [(.t 26), (.k (.c (.int .i64 4)))]
    .nil))) 27 28 true
    .nil))))))
  (.cond (.t 28)
  (.reg 5 false (.op (some 29) (.addr 1) [(.t 9)]
    (.op (some 30) (.ld (.slot 2) (.i .i64)) [(.t 29)]
    (.op (some 31) .mov [(.t 3)]
    (.op (some 32) (.call 124 []) [(.t 6), (.t 30), (.t 31)]
    .nil)))))
  .skip))
  (.seq (.reg 6 false (.op (some 33) (.addr 0) [(.t 6)]
    (.op (some 34) (.ld .heap (.i .i64)) [(.t 33)]
    (.op (some 35) (.bin .add) [(.t 34), (.k (.c (.int .i64 1)))]
    (.op (some 36) (.addr 0) [(.t 6)]
    (.op none (.st .heap) [(.t 36), (.t 35)]
    .nil))))))
  (.seq (.reg 7 true (.op (some 37) (.ldAll (.slot 0) 3) [(.t 4)]
    (.op (some 38) .mov [(.t 1)]
    (.op (some 39) (.qcall 113 [.any]) [(.t 37), (.t 38)]
    (.op (some 40) (.ldAll .heap 5) [(.t 6)]
    (.op (some 41) (.qcall 114 [.agg]) [(.t 39), (.t 40)]
    (.op none (.stAll (.slot 1) 5) [(.t 8), (.t 41)]
    .nil)))))))
  .ret)))))) }

/- jacquard/prog.Value: 108 -/
def prog_Value : Fn := { np := 2, nt := 20, ns := 2, res := [.t 4 (.i .i64)], gc := false, code :=
  (.seq (.reg 0 false (.box 2 0 (.t 0)
    (.box 3 1 (.t 1)
    (.op (some 4) .mov [(.k (.c (.int .i64 0)))]
    .nil))))
  (.seq (.seq (.reg 1 false (.op (some 5) (.addr 0) [(.t 2)]
    (.op (some 6) (.ld (.slot 0) (.i .i64)) [(.t 5)]
    (.op (some 7) (.bin .geq) [(.t 6), (.k (.c (.int .i64 0)))]
    (.op (some 8) .mov [(.t 7)]
    (.sc 8 true (.op (some 9) (.addr 0) [(.t 2)]
    (.op (some 10) (.ld (.slot 0) (.i .i64)) [(.t 9)]
    (.op (some 11) (.bin .lss) [(.t 10), (.k (.c (.int .i64 4)))]
    .nil))) 11 12 false
    .nil))))))
  (.cond (.t 12)
  (.seq (.reg 2 false (.op (some 13) (.addr 0) [(.t 2)]
    (.op (some 14) (.ld (.slot 0) (.i .i64)) [(.t 13)]
    (.op (some 15) (.addr 1) [(.t 3)]
    (.op (some 16) (.idxA 4 1) [(.t 15), (.t 14)]
    (.op (some 17) (.ld (.slot 1) (.i .i64)) [(.t 16)]
    (.op (some 4) .mov [(.t 17)]
    .nil)))))))
  .ret)
  .skip))
  (.seq (.reg 3 false (.op (some 18) (.addr 1) [(.t 2)]
    (.op (some 19) (.ld (.slot 0) (.i .i64)) [(.t 18)]
    (.op (some 4) .mov [(.t 19)]
    .nil))))
  .ret))) }

/- jacquard/prog.thread: 113 -/
def prog_thread : Fn := { np := 2, nt := 19, ns := 1, res := [.t 4 .any], gc := false, code :=
  (.seq (.reg 0 false (.box 2 0 (.t 0)
    (.op (some 4) .mov [(.k (.c .nils))]
    .nil)))
  (.seq (.seq (.reg 1 false (.op (some 5) .mov [(.t 1)]
    (.op (some 6) (.bin .lss) [(.t 5), (.k (.c (.int .i64 0)))]
    (.op (some 7) .mov [(.t 6)]
    (.sc 7 false (.op (some 8) .mov [(.t 1)]
    (.op (some 9) (.addr 2) [(.t 2)]
    (.op (some 10) (.ld (.slot 0) .any) [(.t 9)]
    (.op (some 11) .len [(.t 10)]
    (.op (some 12) (.bin .geq) [(.t 8), (.t 11)]
    .nil))))) 12 13 true
    .nil)))))
  (.cond (.t 13)
  (.seq (.reg 2 false (.op (some 4) .mov [(.k (.c .nils))]
    .nil))
  .ret)
  .skip))
  (.seq (.reg 3 false (.op (some 14) (.addr 2) [(.t 2)]
    (.op (some 15) (.ld (.slot 0) .any) [(.t 14)]
    (.op (some 16) .mov [(.t 1)]
    (.op (some 17) (.idxS 1) [(.t 15), (.t 16)]
    (.op (some 18) (.ld .heap .any) [(.t 17)]
    (.op (some 4) .mov [(.t 18)]
    .nil)))))))
  .ret))) }

/- jacquard/prog.normal: 114 -/
def prog_normal_b1 : IC :=
  (.seq (.seq (.reg 1 false (.op (some 10) (.addr 0) [(.t 3)]
    (.op (some 11) (.ld .heap (.i .i64)) [(.t 10)]
    (.op (some 12) (.bin .geq) [(.t 11), (.k (.c (.int .i64 0)))]
    (.op (some 13) .mov [(.t 12)]
    (.sc 13 true (.op (some 14) (.addr 0) [(.t 3)]
    (.op (some 15) (.ld .heap (.i .i64)) [(.t 14)]
    (.op (some 16) .mov [(.t 0)]
    (.op (some 17) .len [(.t 16)]
    (.op (some 18) (.bin .lss) [(.t 15), (.t 17)]
    .nil))))) 18 19 false
    .nil))))))
  (.cond (.t 19)
  .skip
  (.exit 0)))
  (.blk 1 (.seq (.reg 2 false (.op (some 20) .mov [(.t 0)]
    (.op (some 21) (.addr 0) [(.t 3)]
    (.op (some 22) (.ld .heap (.i .i64)) [(.t 21)]
    (.op (some 23) (.idxS 9) [(.t 20), (.t 22)]
    (.op (some 24) (.ldN .heap 9) [(.t 23)]
    (.al 5 1 (List.replicate 9 (Cell.int .i64 0))
    (.op none (.stAll (.slot 1) 9) [(.t 5), (.t 24)]
    .nil))))))))
  (.seq (.reg 3 true (.op (some 25) (.addr 3) [(.t 5)]
    (.op (some 26) (.ldN (.slot 1) 2) [(.t 25)]
    (.op (some 27) (.ldAll .heap 5) [(.t 3)]
    (.op (some 28) (.qcall 108 [(.i .i64)]) [(.t 26), (.t 27)]
    (.op (some 29) (.addr 6) [(.t 5)]
    (.op (some 30) (.ldN (.slot 1) 2) [(.t 29)]
    (.op (some 31) (.ldAll .heap 5) [(.t 3)]
    (.op (some 32) (.qcall 108 [(.i .i64)]) [(.t 30), (.t 31)]
    (.op (some 6) .mov [(.t 28)]
    (.op (some 7) .mov [(.t 32)]
    .nil)))))))))))
  (.seq (.seq (.reg 4 false (.op (some 33) (.addr 0) [(.t 5)]
    (.op (some 34) (.ld (.slot 1) (.i .i64)) [(.t 33)]
    .nil)))
  (.blk 2 (.seq (.reg 6 false (.op (some 37) (.bin .eql) [(.t 34), (.k (.c (.int .i64 5)))]
    (.op (some 36) .mov [(.t 37)]
    .nil)))
  (.cond (.t 36)
  (.seq (.seq (.reg 7 false (.op (some 39) (.addr 5) [(.t 5)]
    (.op (some 40) (.ld (.slot 1) (.i .i64)) [(.t 39)]
    (.op (some 41) .mov [(.t 6)]
    (.op (some 42) .mov [(.t 7)]
    (.op (some 43) (.call 125 [(.i .i64), .b]) [(.t 40), (.t 41), (.t 42)]
    (.op (some 38) .mov [(.t 43)]
    (.op (some 44) (.ext 0) [(.t 38)]
    (.op (some 45) (.ext 1) [(.t 38)]
    (.op (some 8) .mov [(.t 44)]
    (.op (some 9) .mov [(.t 45)]
    .nil)))))))))))
  (.seq (.reg 8 false (.op (some 46) .mov [(.t 9)]
    .nil))
  (.cond (.t 46)
  (.reg 9 false (.op (some 47) .mov [(.t 8)]
    (.op (some 6) .mov [(.t 47)]
    .nil)))
  .skip)))
  (.reg 10 false (.op (some 48) (.addr 1) [(.t 5)]
    (.op (some 49) (.ld (.slot 1) (.i .i64)) [(.t 48)]
    (.op (some 50) .mov [(.t 6)]
    (.op (some 51) (.call 124 []) [(.t 3), (.t 49), (.t 50)]
    .nil))))))
  (.seq (.reg 11 false (.op (some 53) (.bin .eql) [(.t 34), (.k (.c (.int .i64 6)))]
    (.op (some 52) .mov [(.t 53)]
    .nil)))
  (.cond (.t 52)
  (.seq (.reg 12 false (.op (some 54) .mov [(.t 6)]
    (.op (some 55) .mov [(.t 7)]
    (.op (some 56) (.bin .eql) [(.t 54), (.t 55)]
    .nil))))
  (.cond (.t 56)
  (.reg 13 false (.op (some 57) (.addr 0) [(.t 3)]
    (.op (some 58) (.ld .heap (.i .i64)) [(.t 57)]
    (.op (some 59) (.addr 8) [(.t 5)]
    (.op (some 60) (.ld (.slot 1) (.i .i64)) [(.t 59)]
    (.op (some 61) .mx [(.t 60), (.k (.c (.int .i64 0)))]
    (.op (some 62) .mov [(.t 0)]
    (.op (some 63) .len [(.t 62)]
    (.op (some 64) .mn [(.t 61), (.t 63)]
    (.op (some 65) (.bin .add) [(.t 58), (.t 64)]
    (.op (some 66) (.addr 0) [(.t 3)]
    (.op none (.st .heap) [(.t 66), (.t 65)]
    .nil))))))))))))
  .skip))
  (.seq (.reg 5 false (.op (some 35) (.ldAll .heap 5) [(.t 3)]
    (.op none (.stAll (.slot 0) 5) [(.t 4), (.t 35)]
    .nil)))
  .ret)))))))
  (.reg 14 false (.op (some 67) (.addr 0) [(.t 3)]
    (.op (some 68) (.ld .heap (.i .i64)) [(.t 67)]
    (.op (some 69) (.bin .add) [(.t 68), (.k (.c (.int .i64 1)))]
    (.op (some 70) (.addr 0) [(.t 3)]
    (.op none (.st .heap) [(.t 70), (.t 69)]
    .nil)))))))))))
def prog_normal_p1 : IC :=
  (.seq (.reg 15 false (.op (some 71) (.ldAll .heap 5) [(.t 3)]
    (.op none (.stAll (.slot 0) 5) [(.t 4), (.t 71)]
    .nil)))
  .ret)
def prog_normal : Fn := { np := 2, nt := 72, ns := 2, res := [.all (.slot 0) 4 5], gc := true, code :=
  (.seq (.reg 0 false (.op (some 3) .boxH [(.t 1)]
    (.al 4 0 ([Cell.int .i64 0, Cell.int .i64 0, Cell.int .i64 0, Cell.int .i64 0, Cell.int .i64 0])
    .nil)))
  (.seq (.blk 0 (.loop [0, 3, 4] [0] [(0, [4], [0]), (1, [3, 4], [0])] prog_normal_b1))
  prog_normal_p1)) }

/- jacquard/prog.set: 124 -/
def prog_set : Fn := { np := 3, nt := 18, ns := 0, res := [], gc := false, code :=
  (.seq (.reg 0 false (.op (some 6) .mov [(.t 1)]
    (.op (some 7) (.bin .geq) [(.t 6), (.k (.c (.int .i64 0)))]
    (.op (some 8) .mov [(.t 7)]
    (.sc 8 true (.op (some 9) .mov [(.t 1)]
    (.op (some 10) (.bin .lss) [(.t 9), (.k (.c (.int .i64 4)))]
    .nil)) 10 11 false
    .nil)))))
  (.cond (.t 11)
  (.reg 1 false (.op (some 12) .mov [(.t 0)]
    (.op (some 13) .mov [(.t 1)]
    (.op (some 14) .mov [(.t 2)]
    (.op (some 15) .nilchk [(.t 12)]
    (.op (some 16) (.addr 1) [(.t 15)]
    (.op (some 17) (.idxA 4 1) [(.t 16), (.t 13)]
    (.op none (.st .heap) [(.t 17), (.t 14)]
    .nil))))))))
  .skip)) }

/- jacquard/prog.Ok: 188 -/
def prog_Ok_b1 : IC :=
  (.seq (.reg 4 false (.op (some 42) (.bin .lss) [(.t 41), (.t 40)]
    .nil))
  (.seq (.cond (.t 42)
  .skip
  (.exit 0))
  (.seq (.blk 1 (.seq (.reg 5 false (.op (some 43) .mov [(.t 41)]
    (.op (some 44) (.idxS 1) [(.t 39), (.t 41)]
    (.op (some 45) (.ld .heap (.i .u8)) [(.t 44)]
    (.op (some 3) .mov [(.t 43)]
    (.op (some 4) .mov [(.t 45)]
    .nil))))))
  (.seq (.reg 6 false (.op (some 46) .mov [(.t 4)]
    (.op (some 47) (.conv .i64) [(.t 46)]
    (.op (some 48) (.call 158 [.b]) [(.t 47)]
    (.op (some 49) (.un .not) [(.t 48)]
    (.op (some 50) .mov [(.t 49)]
    (.sc 50 false (.op (some 51) .mov [(.t 3)]
    (.op (some 52) (.bin .gtr) [(.t 51), (.k (.c (.int .i64 0)))]
    (.op (some 53) .mov [(.t 52)]
    (.sc 53 true (.op (some 54) .mov [(.t 4)]
    (.op (some 55) (.addr 0) [(.t 1)]
    (.op (some 56) (.ld .heap .any) [(.t 55)]
    (.op (some 57) .mov [(.t 3)]
    (.op (some 58) (.bin .sub) [(.t 57), (.k (.c (.int .i64 1)))]
    (.op (some 59) (.idxS 1) [(.t 56), (.t 58)]
    (.op (some 60) (.ld .heap (.i .u8)) [(.t 59)]
    (.op (some 61) (.bin .leq) [(.t 54), (.t 60)]
    .nil)))))))) 61 62 false
    .nil)))) 62 63 true
    .nil)))))))
  (.cond (.t 63)
  (.seq (.reg 7 false (.op (some 2) .mov [(.k (.c (.bool false)))]
    .nil))
  .ret)
  .skip))))
  (.reg 8 false (.op (some 64) (.bin .add) [(.t 41), (.k (.c (.int .i64 1)))]
    (.op (some 41) .mov [(.t 64)]
    .nil))))))
def prog_Ok_b2 : IC :=
  (.seq (.reg 11 false (.op (some 70) (.bin .lss) [(.t 69), (.t 68)]
    .nil))
  (.seq (.cond (.t 70)
  .skip
  (.exit 2))
  (.seq (.blk 3 (.seq (.reg 12 false (.op (some 71) (.idxS 1) [(.t 67), (.t 69)]
    (.op (some 72) (.ld .heap .any) [(.t 71)]
    (.op (some 7) .mov [(.t 72)]
    .nil))))
  (.seq (.reg 13 false (.op (some 73) .mov [(.t 7)]
    (.op (some 74) .len [(.t 73)]
    (.op (some 75) (.bin .gtr) [(.t 74), (.k (.c (.int .i64 10)))]
    (.op (some 76) .mov [(.t 75)]
    (.sc 76 false (.op (some 77) .mov [(.t 7)]
    (.op (some 78) (.call 148 [.b]) [(.t 77)]
    (.op (some 79) (.un .not) [(.t 78)]
    .nil))) 79 80 true
    (.op (some 81) .mov [(.t 80)]
    (.sc 81 false (.op (some 82) .mov [(.t 7)]
    (.op (some 83) (.mkfn 201) [(.t 5)]
    (.op (some 84) (.call 155 [.b]) [(.t 82), (.t 83)]
    .nil))) 84 85 true
    .nil))))))))
  (.cond (.t 85)
  (.seq (.reg 14 false (.op (some 2) .mov [(.k (.c (.bool false)))]
    .nil))
  .ret)
  .skip))))
  (.reg 15 false (.op (some 86) (.bin .add) [(.t 69), (.k (.c (.int .i64 1)))]
    (.op (some 69) .mov [(.t 86)]
    .nil))))))
def prog_Ok_p2 : IC :=
  (.seq (.reg 16 false (.op (some 2) .mov [(.k (.c (.bool true)))]
    .nil))
  .ret)
def prog_Ok_p1 : IC :=
  (.seq (.reg 9 false (.op (some 65) (.mkfn 200) [(.t 1)]
    (.op (some 5) (.allocH ([Cell.nilf])) []
    (.op none (.st .heap) [(.t 5), (.t 65)]
    .nil))))
  (.seq (.seq (.reg 10 false (.op (some 66) (.addr 2) [(.t 1)]
    (.op (some 67) (.ld .heap .any) [(.t 66)]
    (.op (some 68) .len [(.t 67)]
    (.op (some 69) .mov [(.k (.c (.int .i64 0)))]
    .nil)))))
  (.blk 2 (.loop [5, 67, 68, 69] [] [(0, [2], []), (3, [], [])] prog_Ok_b2)))
  prog_Ok_p2))
def prog_Ok : Fn := { np := 1, nt := 87, ns := 0, res := [.t 2 .b], gc := true, code :=
  (.seq (.reg 0 false (.op (some 1) .boxH [(.t 0)]
    (.op (some 2) .mov [(.k (.c (.bool false)))]
    .nil)))
  (.seq (.seq (.reg 1 false (.op (some 8) (.addr 2) [(.t 1)]
    (.op (some 9) (.ld .heap .any) [(.t 8)]
    (.op (some 10) .len [(.t 9)]
    (.op (some 11) (.bin .eql) [(.t 10), (.k (.c (.int .i64 0)))]
    (.op (some 12) .mov [(.t 11)]
    (.sc 12 false (.op (some 13) (.addr 2) [(.t 1)]
    (.op (some 14) (.ld .heap .any) [(.t 13)]
    (.op (some 15) .len [(.t 14)]
    (.op (some 16) (.bin .gtr) [(.t 15), (.k (.c (.int .i64 4)))]
    .nil)))) 16 17 true
    (.op (some 18) .mov [(.t 17)]
    (.sc 18 false (.op (some 19) (.addr 0) [(.t 1)]
    (.op (some 20) (.ld .heap .any) [(.t 19)]
    (.op (some 21) .len [(.t 20)]
    (.op (some 22) (.bin .gtr) [(.t 21), (.k (.c (.int .i64 4)))]
    .nil)))) 22 23 true
    (.op (some 24) .mov [(.t 23)]
    (.sc 24 false (.op (some 25) (.addr 1) [(.t 1)]
    (.op (some 26) (.ld .heap .any) [(.t 25)]
    (.op (some 27) .len [(.t 26)]
    (.op (some 28) (.addr 0) [(.t 1)]
    (.op (some 29) (.ld .heap .any) [(.t 28)]
    (.op (some 30) .len [(.t 29)]
    (.op (some 31) (.bin .neq) [(.t 27), (.t 30)]
    .nil))))))) 31 32 true
    (.op (some 33) .mov [(.t 32)]
    (.sc 33 false (.op (some 34) (.ldAll .heap 3) [(.t 1)]
    (.op (some 35) (.call 102 [(.i .i64)]) [(.t 34)]
    (.op (some 36) (.bin .gtr) [(.t 35), (.k (.c (.int .i64 24)))]
    .nil))) 36 37 true
    .nil)))))))))))))
  (.cond (.t 37)
  (.seq (.reg 2 false (.op (some 2) .mov [(.k (.c (.bool false)))]
    .nil))
  .ret)
  .skip))
  (.seq (.seq (.reg 3 false (.op (some 38) (.addr 0) [(.t 1)]
    (.op (some 39) (.ld .heap .any) [(.t 38)]
    (.op (some 40) .len [(.t 39)]
    (.op (some 41) .mov [(.k (.c (.int .i64 0)))]
    .nil)))))
  (.blk 0 (.loop [1, 39, 40, 41] [] [(0, [2], []), (1, [1], [])] prog_Ok_b1)))
  prog_Ok_p1))) }

/- jacquard/prog.Ok$1: 200 -/
def prog_Ok_1 : Fn := { np := 2, nt := 13, ns := 0, res := [.t 3 .b], gc := false, code :=
  (.seq (.reg 0 false (.op (some 3) .mov [(.k (.c (.bool false)))]
    .nil))
  (.seq (.reg 1 false (.op (some 4) .mov [(.t 0)]
    (.op (some 5) (.bin .geq) [(.t 4), (.k (.c (.int .i64 0)))]
    (.op (some 6) .mov [(.t 5)]
    (.sc 6 true (.op (some 7) .mov [(.t 0)]
    (.op (some 8) (.addr 0) [(.t 1)]
    (.op (some 9) (.ld .heap .any) [(.t 8)]
    (.op (some 10) .len [(.t 9)]
    (.op (some 11) (.bin .lss) [(.t 7), (.t 10)]
    .nil))))) 11 12 false
    (.op (some 3) .mov [(.t 12)]
    .nil))))))
  .ret)) }

/- jacquard/prog.Ok$2: 201 -/
def prog_Ok_2 : Fn := { np := 2, nt := 8, ns := 1, res := [.t 3 .b], gc := false, code :=
  (.seq (.reg 0 false (.box 2 0 (.t 0)
    (.op (some 3) .mov [(.k (.c (.bool false)))]
    .nil)))
  (.seq (.reg 1 false (.op (some 4) (.ldAll (.slot 0) 9) [(.t 2)]
    (.op (some 5) (.ld .heap .any) [(.t 1)]
    (.op (some 6) (.call 159 [.b]) [(.t 4), (.t 5)]
    (.op (some 7) (.un .not) [(.t 6)]
    (.op (some 3) .mov [(.t 7)]
    .nil))))))
  .ret)) }


end Jq

namespace Jq
open Go

/- jacquard/num.Do: 125 -/
def num_Do : Fn := { np := 3, nt := 71, ns := 0, res := [.t 6 (.i .i64), .t 7 .b], gc := false, code :=
  (.seq (.reg 0 false (.op (some 6) .mov [(.k (.c (.int .i64 0)))]
    (.op (some 7) .mov [(.k (.c (.bool false)))]
    .nil)))
  (.seq (.reg 1 false (.op (some 9) .mov [(.t 2)]
    (.op (some 10) (.conv .u64) [(.t 9)]
    (.op (some 11) (.bin .rem) [(.t 10), (.k (.c (.int .u64 64)))]
    (.op (some 8) .mov [(.t 11)]
    .nil)))))
  (.seq (.seq (.reg 2 false (.op (some 12) .mov [(.t 0)]
    .nil))
  (.blk 0 (.seq (.reg 3 false (.op (some 14) (.bin .eql) [(.t 12), (.k (.c (.int .i64 1)))]
    (.op (some 13) .mov [(.t 14)]
    .nil)))
  (.cond (.t 13)
  (.seq (.reg 4 false (.op (some 15) .mov [(.t 1)]
    (.op (some 16) .mov [(.t 2)]
    (.op (some 17) (.bin .add) [(.t 15), (.t 16)]
    (.op (some 6) .mov [(.t 17)]
    (.op (some 7) .mov [(.k (.c (.bool true)))]
    .nil))))))
  .ret)
  (.seq (.reg 5 false (.op (some 19) (.bin .eql) [(.t 12), (.k (.c (.int .i64 2)))]
    (.op (some 18) .mov [(.t 19)]
    .nil)))
  (.cond (.t 18)
  (.seq (.reg 6 false (.op (some 20) .mov [(.t 1)]
    (.op (some 21) .mov [(.t 2)]
    (.op (some 22) (.bin .sub) [(.t 20), (.t 21)]
    (.op (some 6) .mov [(.t 22)]
    (.op (some 7) .mov [(.k (.c (.bool true)))]
    .nil))))))
  .ret)
  (.seq (.reg 7 false (.op (some 24) (.bin .eql) [(.t 12), (.k (.c (.int .i64 3)))]
    (.op (some 23) .mov [(.t 24)]
    .nil)))
  (.cond (.t 23)
  (.seq (.reg 8 false (.op (some 25) .mov [(.t 1)]
    (.op (some 26) .mov [(.t 2)]
    (.op (some 27) (.bin .mul) [(.t 25), (.t 26)]
    (.op (some 6) .mov [(.t 27)]
    (.op (some 7) .mov [(.k (.c (.bool true)))]
    .nil))))))
  .ret)
  (.seq (.reg 9 false (.op (some 29) (.bin .eql) [(.t 12), (.k (.c (.int .i64 4)))]
    (.op (some 28) .mov [(.t 29)]
    .nil)))
  (.cond (.t 28)
  (.seq (.reg 10 false (.op (some 30) .mov [(.t 1)]
    (.op (some 31) .mov [(.t 2)]
    (.op (some 32) (.bin .and) [(.t 30), (.t 31)]
    (.op (some 6) .mov [(.t 32)]
    (.op (some 7) .mov [(.k (.c (.bool true)))]
    .nil))))))
  .ret)
  (.seq (.reg 11 false (.op (some 34) (.bin .eql) [(.t 12), (.k (.c (.int .i64 5)))]
    (.op (some 33) .mov [(.t 34)]
    .nil)))
  (.cond (.t 33)
  (.seq (.reg 12 false (.op (some 35) .mov [(.t 1)]
    (.op (some 36) .mov [(.t 2)]
    (.op (some 37) (.bin .or) [(.t 35), (.t 36)]
    (.op (some 6) .mov [(.t 37)]
    (.op (some 7) .mov [(.k (.c (.bool true)))]
    .nil))))))
  .ret)
  (.seq (.reg 13 false (.op (some 39) (.bin .eql) [(.t 12), (.k (.c (.int .i64 6)))]
    (.op (some 38) .mov [(.t 39)]
    .nil)))
  (.cond (.t 38)
  (.seq (.reg 14 false (.op (some 40) .mov [(.t 1)]
    (.op (some 41) .mov [(.t 2)]
    (.op (some 42) (.bin .xor) [(.t 40), (.t 41)]
    (.op (some 6) .mov [(.t 42)]
    (.op (some 7) .mov [(.k (.c (.bool true)))]
    .nil))))))
  .ret)
  (.seq (.reg 15 false (.op (some 44) (.bin .eql) [(.t 12), (.k (.c (.int .i64 7)))]
    (.op (some 43) .mov [(.t 44)]
    .nil)))
  (.cond (.t 43)
  (.seq (.reg 16 false (.op (some 45) .mov [(.t 1)]
    (.op (some 46) .mov [(.t 8)]
    (.op (some 47) (.bin .shl) [(.t 45), (.t 46)]
    (.op (some 6) .mov [(.t 47)]
    (.op (some 7) .mov [(.k (.c (.bool true)))]
    .nil))))))
  .ret)
  (.seq (.reg 17 false (.op (some 49) (.bin .eql) [(.t 12), (.k (.c (.int .i64 8)))]
    (.op (some 48) .mov [(.t 49)]
    .nil)))
  (.cond (.t 48)
  (.seq (.reg 18 false (.op (some 50) .mov [(.t 1)]
    (.op (some 51) .mov [(.t 8)]
    (.op (some 52) (.bin .shr) [(.t 50), (.t 51)]
    (.op (some 6) .mov [(.t 52)]
    (.op (some 7) .mov [(.k (.c (.bool true)))]
    .nil))))))
  .ret)
  (.seq (.reg 19 false (.op (some 54) (.bin .eql) [(.t 12), (.k (.c (.int .i64 9)))]
    (.op (some 53) .mov [(.t 54)]
    .nil)))
  (.cond (.t 53)
  (.seq (.reg 20 false (.op (some 55) .mov [(.t 1)]
    (.op (some 56) .mov [(.t 2)]
    (.op (some 57) (.bin .eql) [(.t 55), (.t 56)]
    (.op (some 58) (.call 139 [(.i .i64)]) [(.t 57)]
    (.op (some 6) .mov [(.t 58)]
    (.op (some 7) .mov [(.k (.c (.bool true)))]
    .nil)))))))
  .ret)
  (.seq (.reg 21 false (.op (some 60) (.bin .eql) [(.t 12), (.k (.c (.int .i64 10)))]
    (.op (some 59) .mov [(.t 60)]
    .nil)))
  (.cond (.t 59)
  (.seq (.reg 22 false (.op (some 61) .mov [(.t 1)]
    (.op (some 62) .mov [(.t 2)]
    (.op (some 63) (.bin .neq) [(.t 61), (.t 62)]
    (.op (some 64) (.call 139 [(.i .i64)]) [(.t 63)]
    (.op (some 6) .mov [(.t 64)]
    (.op (some 7) .mov [(.k (.c (.bool true)))]
    .nil)))))))
  .ret)
  (.seq (.reg 23 false (.op (some 66) (.bin .eql) [(.t 12), (.k (.c (.int .i64 11)))]
    (.op (some 65) .mov [(.t 66)]
    .nil)))
  (.cond (.t 65)
  (.seq (.reg 24 false (.op (some 67) .mov [(.t 1)]
    (.op (some 68) .mov [(.t 2)]
    (.op (some 69) (.bin .lss) [(.t 67), (.t 68)]
    (.op (some 70) (.call 139 [(.i .i64)]) [(.t 69)]
    (.op (some 6) .mov [(.t 70)]
    (.op (some 7) .mov [(.k (.c (.bool true)))]
    .nil)))))))
  .ret)
  .skip))))))))))))))))))))))))
  (.seq (.reg 25 false (.op (some 6) .mov [(.k (.c (.int .i64 0)))]
    (.op (some 7) .mov [(.k (.c (.bool false)))]
    .nil)))
  .ret)))) }

/- jacquard/num.one: 139 -/
def num_one : Fn := { np := 1, nt := 4, ns := 0, res := [.t 2 (.i .i64)], gc := false, code :=
  (.seq (.reg 0 false (.op (some 2) .mov [(.k (.c (.int .i64 0)))]
    .nil))
  (.seq (.seq (.reg 1 false (.op (some 3) .mov [(.t 0)]
    .nil))
  (.cond (.t 3)
  (.seq (.reg 2 false (.op (some 2) .mov [(.k (.c (.int .i64 1)))]
    .nil))
  .ret)
  .skip))
  (.seq (.reg 3 false (.op (some 2) .mov [(.k (.c (.int .i64 0)))]
    .nil))
  .ret))) }


end Jq

/- What a function needs of an environment. -/
namespace Jq
open Go

structure num_one_In (E : Env) : Prop where
  fn : E.fn 139 = some num_one

structure num_Do_In (E : Env) : Prop where
  fn : E.fn 125 = some num_Do
  c139 : num_one_In E

end Jq

namespace Jq
open Go

/- jacquard/print.IsLoc: 158 -/
def print_IsLoc : Fn := { np := 1, nt := 9, ns := 0, res := [.t 2 .b], gc := false, code :=
  (.seq (.reg 0 false (.op (some 2) .mov [(.k (.c (.bool false)))]
    .nil))
  (.seq (.reg 1 false (.op (some 3) .mov [(.t 0)]
    (.op (some 4) (.bin .geq) [(.t 3), (.k (.c (.int .i64 97)))]
    (.op (some 5) .mov [(.t 4)]
    (.sc 5 true (.op (some 6) .mov [(.t 0)]
    (.op (some 7) (.bin .leq) [(.t 6), (.k (.c (.int .i64 122)))]
    .nil)) 7 8 false
    (.op (some 2) .mov [(.t 8)]
    .nil))))))
  .ret)) }

/- jacquard/print.Fields: 159 -/
def print_Fields : Fn := { np := 2, nt := 159, ns := 2, res := [.t 4 .b], gc := false, code :=
  (.seq (.reg 0 false (.box 2 0 (.t 0)
    (.op (some 4) .mov [(.k (.c (.bool false)))]
    .nil)))
  (.seq (.reg 1 false (.op (some 7) (.addr 0) [(.t 2)]
    (.op (some 8) (.ld (.slot 0) (.i .i64)) [(.t 7)]
    (.op (some 9) (.build (List.replicate 9 (Cell.int .i64 0)) [(0, 1)]) [(.t 8)]
    (.al 5 1 (List.replicate 9 (Cell.int .i64 0))
    (.op none (.stAll (.slot 1) 9) [(.t 5), (.t 9)]
    .nil))))))
  (.seq (.reg 2 false (.op (some 6) .mov [(.k (.c (.bool true)))]
    .nil))
  (.seq (.seq (.reg 3 false (.op (some 10) (.addr 0) [(.t 2)]
    (.op (some 11) (.ld (.slot 0) (.i .i64)) [(.t 10)]
    .nil)))
  (.blk 0 (.seq (.reg 5 false (.op (some 13) (.bin .eql) [(.t 11), (.k (.c (.int .i64 1)))]
    (.op (some 12) .mov [(.t 13)]
    .nil)))
  (.cond (.t 12)
  (.seq (.reg 6 true (.op (some 14) (.addr 2) [(.t 2)]
    (.op (some 15) (.ld (.slot 0) (.i .i64)) [(.t 14)]
    (.op (some 16) (.addr 3) [(.t 2)]
    (.op (some 17) (.ldN (.slot 0) 2) [(.t 16)]
    (.op (some 18) (.addr 2) [(.t 5)]
    (.op none (.st (.slot 1)) [(.t 18), (.t 15)]
    (.op (some 19) (.addr 3) [(.t 5)]
    (.op none (.stN (.slot 1) 2) [(.t 19), (.t 17)]
    .nil)))))))))
  (.reg 7 false (.op (some 20) .mov [(.t 1)]
    (.op (some 21) (.addr 2) [(.t 2)]
    (.op (some 22) (.ld (.slot 0) (.i .i64)) [(.t 21)]
    (.op (some 23) (.callv [.b]) [(.t 20), (.t 22)]
    (.op (some 24) .mov [(.t 23)]
    (.sc 24 true (.op (some 25) (.addr 3) [(.t 2)]
    (.op (some 26) (.ldN (.slot 0) 2) [(.t 25)]
    (.op (some 27) (.call 163 [.b]) [(.t 26)]
    .nil))) 27 28 false
    (.op (some 6) .mov [(.t 28)]
    .nil)))))))))
  (.seq (.reg 8 false (.op (some 30) (.bin .eql) [(.t 11), (.k (.c (.int .i64 2)))]
    (.op (some 29) .mov [(.t 30)]
    .nil)))
  (.cond (.t 29)
  (.seq (.reg 9 true (.op (some 31) (.addr 1) [(.t 2)]
    (.op (some 32) (.ld (.slot 0) (.i .i64)) [(.t 31)]
    (.op (some 33) (.addr 2) [(.t 2)]
    (.op (some 34) (.ld (.slot 0) (.i .i64)) [(.t 33)]
    (.op (some 35) (.addr 1) [(.t 5)]
    (.op none (.st (.slot 1)) [(.t 35), (.t 32)]
    (.op (some 36) (.addr 2) [(.t 5)]
    (.op none (.st (.slot 1)) [(.t 36), (.t 34)]
    .nil)))))))))
  (.reg 10 false (.op (some 37) .mov [(.t 1)]
    (.op (some 38) (.addr 2) [(.t 2)]
    (.op (some 39) (.ld (.slot 0) (.i .i64)) [(.t 38)]
    (.op (some 40) (.callv [.b]) [(.t 37), (.t 39)]
    (.op (some 41) .mov [(.t 40)]
    (.sc 41 true (.op (some 42) (.addr 1) [(.t 2)]
    (.op (some 43) (.ld (.slot 0) (.i .i64)) [(.t 42)]
    (.op (some 44) (.call 164 [.b]) [(.t 43)]
    .nil))) 44 45 false
    (.op (some 6) .mov [(.t 45)]
    .nil)))))))))
  (.seq (.reg 11 false (.op (some 47) (.bin .eql) [(.t 11), (.k (.c (.int .i64 3)))]
    (.op (some 46) .mov [(.t 47)]
    .nil)))
  (.cond (.t 46)
  .skip
  (.seq (.reg 12 false (.op (some 49) (.bin .eql) [(.t 11), (.k (.c (.int .i64 4)))]
    (.op (some 48) .mov [(.t 49)]
    .nil)))
  (.cond (.t 48)
  (.seq (.reg 13 true (.op (some 50) (.addr 1) [(.t 2)]
    (.op (some 51) (.ld (.slot 0) (.i .i64)) [(.t 50)]
    (.op (some 52) (.addr 2) [(.t 2)]
    (.op (some 53) (.ld (.slot 0) (.i .i64)) [(.t 52)]
    (.op (some 54) (.addr 3) [(.t 2)]
    (.op (some 55) (.ldN (.slot 0) 2) [(.t 54)]
    (.op (some 56) (.addr 6) [(.t 2)]
    (.op (some 57) (.ldN (.slot 0) 2) [(.t 56)]
    (.op (some 58) (.addr 1) [(.t 5)]
    (.op none (.st (.slot 1)) [(.t 58), (.t 51)]
    (.op (some 59) (.addr 2) [(.t 5)]
    (.op none (.st (.slot 1)) [(.t 59), (.t 53)]
    (.op (some 60) (.addr 3) [(.t 5)]
    (.op none (.stN (.slot 1) 2) [(.t 60), (.t 55)]
    (.op (some 61) (.addr 6) [(.t 5)]
    (.op none (.stN (.slot 1) 2) [(.t 61), (.t 57)]
    .nil)))))))))))))))))
  (.reg 14 false (.op (some 62) .mov [(.t 1)]
    (.op (some 63) (.addr 2) [(.t 2)]
    (.op (some 64) (.ld (.slot 0) (.i .i64)) [(.t 63)]
    (.op (some 65) (.callv [.b]) [(.t 62), (.t 64)]
    (.op (some 66) .mov [(.t 65)]
    (.sc 66 true (.op (some 67) (.addr 1) [(.t 2)]
    (.op (some 68) (.ld (.slot 0) (.i .i64)) [(.t 67)]
    (.op (some 69) (.call 164 [.b]) [(.t 68)]
    .nil))) 69 70 false
    (.op (some 71) .mov [(.t 70)]
    (.sc 71 true (.op (some 72) (.addr 3) [(.t 2)]
    (.op (some 73) (.ldN (.slot 0) 2) [(.t 72)]
    (.op (some 74) (.call 163 [.b]) [(.t 73)]
    .nil))) 74 75 false
    (.op (some 76) .mov [(.t 75)]
    (.sc 76 true (.op (some 77) (.addr 6) [(.t 2)]
    (.op (some 78) (.ldN (.slot 0) 2) [(.t 77)]
    (.op (some 79) (.call 163 [.b]) [(.t 78)]
    .nil))) 79 80 false
    (.op (some 6) .mov [(.t 80)]
    .nil)))))))))))))
  (.seq (.reg 15 false (.op (some 82) (.bin .eql) [(.t 11), (.k (.c (.int .i64 5)))]
    (.op (some 81) .mov [(.t 82)]
    .nil)))
  (.cond (.t 81)
  (.seq (.reg 16 true (.op (some 83) (.addr 1) [(.t 2)]
    (.op (some 84) (.ld (.slot 0) (.i .i64)) [(.t 83)]
    (.op (some 85) (.addr 3) [(.t 2)]
    (.op (some 86) (.ldN (.slot 0) 2) [(.t 85)]
    (.op (some 87) (.addr 5) [(.t 2)]
    (.op (some 88) (.ld (.slot 0) (.i .i64)) [(.t 87)]
    (.op (some 89) (.addr 6) [(.t 2)]
    (.op (some 90) (.ldN (.slot 0) 2) [(.t 89)]
    (.op (some 91) (.addr 1) [(.t 5)]
    (.op none (.st (.slot 1)) [(.t 91), (.t 84)]
    (.op (some 92) (.addr 3) [(.t 5)]
    (.op none (.stN (.slot 1) 2) [(.t 92), (.t 86)]
    (.op (some 93) (.addr 5) [(.t 5)]
    (.op none (.st (.slot 1)) [(.t 93), (.t 88)]
    (.op (some 94) (.addr 6) [(.t 5)]
    (.op none (.stN (.slot 1) 2) [(.t 94), (.t 90)]
    .nil)))))))))))))))))
  (.reg 17 false (.op (some 95) (.addr 1) [(.t 2)]
    (.op (some 96) (.ld (.slot 0) (.i .i64)) [(.t 95)]
    (.op (some 97) (.call 164 [.b]) [(.t 96)]
    (.op (some 98) .mov [(.t 97)]
    (.sc 98 true (.op (some 99) (.addr 3) [(.t 2)]
    (.op (some 100) (.ldN (.slot 0) 2) [(.t 99)]
    (.op (some 101) (.call 163 [.b]) [(.t 100)]
    .nil))) 101 102 false
    (.op (some 103) .mov [(.t 102)]
    (.sc 103 true (.op (some 104) (.addr 6) [(.t 2)]
    (.op (some 105) (.ldN (.slot 0) 2) [(.t 104)]
    (.op (some 106) (.call 163 [.b]) [(.t 105)]
    .nil))) 106 107 false
    (.op (some 108) .mov [(.t 107)]
    (.sc 108 true (.op (some 109) (.addr 5) [(.t 2)]
    (.op (some 110) (.ld (.slot 0) (.i .i64)) [(.t 109)]
    (.op (some 111) (.bin .geq) [(.t 110), (.k (.c (.int .i64 0)))]
    .nil))) 111 112 false
    (.op (some 113) .mov [(.t 112)]
    (.sc 113 true (.op (some 114) (.addr 5) [(.t 2)]
    (.op (some 115) (.ld (.slot 0) (.i .i64)) [(.t 114)]
    (.op (some 116) (.bin .leq) [(.t 115), (.k (.c (.int .i64 11)))]
    .nil))) 116 117 false
    (.op (some 118) .mov [(.t 117)]
    (.sc 118 true (.op (some 119) (.addr 5) [(.t 2)]
    (.op (some 120) (.ld (.slot 0) (.i .i64)) [(.t 119)]
    (.op (some 121) (.bin .gtr) [(.t 120), (.k (.c (.int .i64 0)))]
    (.op (some 122) .mov [(.t 121)]
    (.sc 122 false (.op (some 123) (.addr 6) [(.t 2)]
    (.op (some 124) (.ldN (.slot 0) 2) [(.t 123)]
    (.op (some 125) (.build ([Cell.int .i64 0, Cell.int .i64 0]) [(0, 1)]) [(.k (.c (.int .i64 (-1))))]
    (.op (some 126) (.eqA false ([Cell.int .i64 0, Cell.int .i64 0])) [(.t 124), (.t 125)]
    .nil)))) 126 127 true
    .nil))))) 127 128 false
    (.op (some 6) .mov [(.t 128)]
    .nil))))))))))))))))
  (.seq (.reg 18 false (.op (some 130) (.bin .eql) [(.t 11), (.k (.c (.int .i64 6)))]
    (.op (some 129) .mov [(.t 130)]
    .nil)))
  (.cond (.t 129)
  (.seq (.reg 19 true (.op (some 131) (.addr 8) [(.t 2)]
    (.op (some 132) (.ld (.slot 0) (.i .i64)) [(.t 131)]
    (.op (some 133) (.addr 3) [(.t 2)]
    (.op (some 134) (.ldN (.slot 0) 2) [(.t 133)]
    (.op (some 135) (.addr 6) [(.t 2)]
    (.op (some 136) (.ldN (.slot 0) 2) [(.t 135)]
    (.op (some 137) (.addr 8) [(.t 5)]
    (.op none (.st (.slot 1)) [(.t 137), (.t 132)]
    (.op (some 138) (.addr 3) [(.t 5)]
    (.op none (.stN (.slot 1) 2) [(.t 138), (.t 134)]
    (.op (some 139) (.addr 6) [(.t 5)]
    (.op none (.stN (.slot 1) 2) [(.t 139), (.t 136)]
    .nil)))))))))))))
  (.reg 20 false (.op (some 140) (.addr 8) [(.t 2)]
    (.op (some 141) (.ld (.slot 0) (.i .i64)) [(.t 140)]
    (.op (some 142) (.bin .geq) [(.t 141), (.k (.c (.int .i64 0)))]
    (.op (some 143) .mov [(.t 142)]
    (.sc 143 true (.op (some 144) (.addr 3) [(.t 2)]
    (.op (some 145) (.ldN (.slot 0) 2) [(.t 144)]
    (.op (some 146) (.call 163 [.b]) [(.t 145)]
    .nil))) 146 147 false
    (.op (some 148) .mov [(.t 147)]
    (.sc 148 true (.op (some 149) (.addr 6) [(.t 2)]
    (.op (some 150) (.ldN (.slot 0) 2) [(.t 149)]
    (.op (some 151) (.call 163 [.b]) [(.t 150)]
    .nil))) 151 152 false
    (.op (some 6) .mov [(.t 152)]
    .nil))))))))))
  (.seq (.reg 4 false (.op (some 4) .mov [(.k (.c (.bool false)))]
    .nil))
  .ret)))))))))))))))
  (.seq (.reg 21 false (.op (some 153) .mov [(.t 6)]
    (.op (some 154) .mov [(.t 153)]
    (.sc 154 true (.op (some 155) (.ldAll (.slot 0) 9) [(.t 2)]
    (.op (some 156) (.ldAll (.slot 1) 9) [(.t 5)]
    (.op (some 157) (.eqA false (List.replicate 9 (Cell.int .i64 0))) [(.t 155), (.t 156)]
    .nil))) 157 158 false
    (.op (some 4) .mov [(.t 158)]
    .nil)))))
  .ret))))) }

/- jacquard/print.isOperand: 163 -/
def print_isOperand : Fn := { np := 1, nt := 16, ns := 1, res := [.t 2 .b], gc := false, code :=
  (.seq (.reg 0 false (.box 1 0 (.t 0)
    (.op (some 2) .mov [(.k (.c (.bool false)))]
    .nil)))
  (.seq (.reg 1 false (.op (some 3) (.addr 0) [(.t 1)]
    (.op (some 4) (.ld (.slot 0) (.i .i64)) [(.t 3)]
    (.op (some 5) (.bin .eql) [(.t 4), (.k (.c (.int .i64 (-1))))]
    (.op (some 6) .mov [(.t 5)]
    (.sc 6 false (.op (some 7) (.addr 0) [(.t 1)]
    (.op (some 8) (.ld (.slot 0) (.i .i64)) [(.t 7)]
    (.op (some 9) (.call 164 [.b]) [(.t 8)]
    (.op (some 10) .mov [(.t 9)]
    (.sc 10 true (.op (some 11) (.addr 1) [(.t 1)]
    (.op (some 12) (.ld (.slot 0) (.i .i64)) [(.t 11)]
    (.op (some 13) (.bin .eql) [(.t 12), (.k (.c (.int .i64 0)))]
    .nil))) 13 14 false
    .nil))))) 14 15 true
    (.op (some 2) .mov [(.t 15)]
    .nil)))))))
  .ret)) }

/- jacquard/print.isReg: 164 -/
def print_isReg : Fn := { np := 1, nt := 9, ns := 0, res := [.t 2 .b], gc := false, code :=
  (.seq (.reg 0 false (.op (some 2) .mov [(.k (.c (.bool false)))]
    .nil))
  (.seq (.reg 1 false (.op (some 3) .mov [(.t 0)]
    (.op (some 4) (.bin .geq) [(.t 3), (.k (.c (.int .i64 0)))]
    (.op (some 5) .mov [(.t 4)]
    (.sc 5 true (.op (some 6) .mov [(.t 0)]
    (.op (some 7) (.bin .lss) [(.t 6), (.k (.c (.int .i64 4)))]
    .nil)) 7 8 false
    (.op (some 2) .mov [(.t 8)]
    .nil))))))
  .ret)) }


end Jq

namespace Jq
open Go

/- slices.Clone(()jacquard/api.Ins,jacquard/api.Ins): 119 -/
def slices_Clone_sIns_Ins : Fn := { np := 1, nt := 8, ns := 0, res := [.t 2 .any], gc := false, code :=
  (.seq (.reg 0 false (.op (some 2) .mov [(.k (.c .nils))]
    .nil))
  (.seq (.seq (.reg 1 false (.op (some 3) .mov [(.t 0)]
    (.op (some 4) (.eqNil false) [(.t 3), (.k (.c .nils))]
    .nil)))
  (.cond (.t 4)
  (.seq (.reg 2 false (.op (some 2) .mov [(.k (.c .nils))]
    .nil))
  .ret)
  .skip))
  (.seq (.reg 3 false (.op (some 5) (.bslice 9 0 (([] : List Cell)) []) []
    (.op (some 6) .mov [(.t 0)]
    (.op (some 7) (.app 9 72) [(.t 5), (.t 6)]
    (.op (some 2) .mov [(.t 7)]
    .nil)))))
  .ret))) }

/- slices.ContainsFunc(()jacquard/api.Ins,jacquard/api.Ins): 155 -/
def slices_ContainsFunc_sIns_Ins : Fn := { np := 2, nt := 9, ns := 0, res := [.t 4 .b], gc := false, code :=
  (.seq (.reg 0 false (.op (some 4) .mov [(.k (.c (.bool false)))]
    .nil))
  (.seq (.reg 1 false (.op (some 5) .mov [(.t 0)]
    (.op (some 6) .mov [(.t 1)]
    (.op (some 7) (.call 156 [(.i .i64)]) [(.t 5), (.t 6)]
    (.op (some 8) (.bin .geq) [(.t 7), (.k (.c (.int .i64 0)))]
    (.op (some 4) .mov [(.t 8)]
    .nil))))))
  .ret)) }

/- slices.IndexFunc(()jacquard/api.Ins,jacquard/api.Ins): 156 -/
def slices_IndexFunc_sIns_Ins_b1 : IC :=
  (.seq (.reg 2 false (.op (some 9) (.bin .lss) [(.t 8), (.t 7)]
    .nil))
  (.seq (.cond (.t 9)
  .skip
  (.exit 0))
  (.seq (.blk 1 (.seq (.reg 3 false (.op (some 10) .mov [(.t 8)]
    (.op (some 5) .mov [(.t 10)]
    .nil)))
  (.seq (.reg 4 false (.op (some 11) .mov [(.t 1)]
    (.op (some 12) .mov [(.t 0)]
    (.op (some 13) .mov [(.t 5)]
    (.op (some 14) (.idxS 9) [(.t 12), (.t 13)]
    (.op (some 15) (.ldN .heap 9) [(.t 14)]
    (.op (some 16) (.callv [.b]) [(.t 11), (.t 15)]
    .nil)))))))
  (.cond (.t 16)
  (.seq (.reg 5 false (.op (some 17) .mov [(.t 5)]
    (.op (some 4) .mov [(.t 17)]
    .nil)))
  .ret)
  .skip))))
  (.reg 6 false (.op (some 18) (.bin .add) [(.t 8), (.k (.c (.int .i64 1)))]
    (.op (some 8) .mov [(.t 18)]
    .nil))))))
def slices_IndexFunc_sIns_Ins_p1 : IC :=
  (.seq (.reg 7 false (.op (some 4) .mov [(.k (.c (.int .i64 (-1))))]
    .nil))
  .ret)
def slices_IndexFunc_sIns_Ins : Fn := { np := 2, nt := 19, ns := 0, res := [.t 4 (.i .i64)], gc := false, code :=
  (.seq (.reg 0 false (.op (some 4) .mov [(.k (.c (.int .i64 0)))]
    .nil))
  (.seq (.seq (.reg 1 false (.op (some 6) .mov [(.t 0)]
    (.op (some 7) .len [(.t 6)]
    (.op (some 8) .mov [(.k (.c (.int .i64 0)))]
    .nil))))
  (.blk 0 (.loop [0, 1, 7, 8] [] [(0, [4], []), (1, [], [])] slices_IndexFunc_sIns_Ins_b1)))
  slices_IndexFunc_sIns_Ins_p1)) }

/- slices.Clone(()jacquard/api.Step,jacquard/api.Step): 195 -/
def slices_Clone_sStep_Step : Fn := { np := 1, nt := 8, ns := 0, res := [.t 2 .any], gc := false, code :=
  (.seq (.reg 0 false (.op (some 2) .mov [(.k (.c .nils))]
    .nil))
  (.seq (.seq (.reg 1 false (.op (some 3) .mov [(.t 0)]
    (.op (some 4) (.eqNil false) [(.t 3), (.k (.c .nils))]
    .nil)))
  (.cond (.t 4)
  (.seq (.reg 2 false (.op (some 2) .mov [(.k (.c .nils))]
    .nil))
  .ret)
  .skip))
  (.seq (.reg 3 false (.op (some 5) (.bslice 7 0 (([] : List Cell)) []) []
    (.op (some 6) .mov [(.t 0)]
    (.op (some 7) (.app 7 56) [(.t 5), (.t 6)]
    (.op (some 2) .mov [(.t 7)]
    .nil)))))
  .ret))) }

/- slices.Clone(()byte,byte): 202 -/
def slices_Clone_sbyte_byte : Fn := { np := 1, nt := 8, ns := 0, res := [.t 2 .any], gc := false, code :=
  (.seq (.reg 0 false (.op (some 2) .mov [(.k (.c .nils))]
    .nil))
  (.seq (.seq (.reg 1 false (.op (some 3) .mov [(.t 0)]
    (.op (some 4) (.eqNil false) [(.t 3), (.k (.c .nils))]
    .nil)))
  (.cond (.t 4)
  (.seq (.reg 2 false (.op (some 2) .mov [(.k (.c .nils))]
    .nil))
  .ret)
  .skip))
  (.seq (.reg 3 false (.op (some 5) (.bslice 1 0 (([] : List Cell)) []) []
    (.op (some 6) .mov [(.t 0)]
    (.op (some 7) (.app 1 1) [(.t 5), (.t 6)]
    (.op (some 2) .mov [(.t 7)]
    .nil)))))
  .ret))) }

/- slices.Clone(()int64,int64): 203 -/
def slices_Clone_sint64_int64 : Fn := { np := 1, nt := 8, ns := 0, res := [.t 2 .any], gc := false, code :=
  (.seq (.reg 0 false (.op (some 2) .mov [(.k (.c .nils))]
    .nil))
  (.seq (.seq (.reg 1 false (.op (some 3) .mov [(.t 0)]
    (.op (some 4) (.eqNil false) [(.t 3), (.k (.c .nils))]
    .nil)))
  (.cond (.t 4)
  (.seq (.reg 2 false (.op (some 2) .mov [(.k (.c .nils))]
    .nil))
  .ret)
  .skip))
  (.seq (.reg 3 false (.op (some 5) (.bslice 1 0 (([] : List Cell)) []) []
    (.op (some 6) .mov [(.t 0)]
    (.op (some 7) (.app 1 8) [(.t 5), (.t 6)]
    (.op (some 2) .mov [(.t 7)]
    .nil)))))
  .ret))) }


end Jq

namespace Jq
open Go


end Jq

/- What a function needs of an environment. -/
namespace Jq
open Go


end Jq

namespace Jq
open Go


end Jq

/- What a function needs of an environment. -/
namespace Jq
open Go


end Jq

/- What a function needs of an environment. -/
namespace Jq
open Go

structure slices_IndexFunc_sIns_Ins_In (E : Env) : Prop where
  fn : E.fn 156 = some slices_IndexFunc_sIns_Ins

structure slices_ContainsFunc_sIns_Ins_In (E : Env) : Prop where
  fn : E.fn 155 = some slices_ContainsFunc_sIns_Ins
  c156 : slices_IndexFunc_sIns_Ins_In E

structure slices_Clone_sIns_Ins_In (E : Env) : Prop where
  fn : E.fn 119 = some slices_Clone_sIns_Ins

structure slices_Clone_sbyte_byte_In (E : Env) : Prop where
  fn : E.fn 202 = some slices_Clone_sbyte_byte

structure slices_Clone_sint64_int64_In (E : Env) : Prop where
  fn : E.fn 203 = some slices_Clone_sint64_int64

structure slices_Clone_sStep_Step_In (E : Env) : Prop where
  fn : E.fn 195 = some slices_Clone_sStep_Step

end Jq

/- What a function needs of an environment. -/
namespace Jq
open Go

structure print_IsLoc_In (E : Env) : Prop where
  fn : E.fn 158 = some print_IsLoc

structure print_isReg_In (E : Env) : Prop where
  fn : E.fn 164 = some print_isReg

structure print_isOperand_In (E : Env) : Prop where
  fn : E.fn 163 = some print_isOperand
  c164 : print_isReg_In E

structure print_Fields_In (E : Env) : Prop where
  fn : E.fn 159 = some print_Fields
  c163 : print_isOperand_In E
  c164 : print_isReg_In E

end Jq

namespace Jq
open Go

/- jacquard/well.Jumps: 148 -/
def well_Jumps_b1 : IC :=
  (.seq (.reg 2 false (.op (some 8) (.bin .lss) [(.t 7), (.t 6)]
    .nil))
  (.seq (.cond (.t 8)
  .skip
  (.exit 0))
  (.seq (.blk 1 (.seq (.reg 3 false (.op (some 9) .mov [(.t 7)]
    (.op (some 10) (.idxS 9) [(.t 5), (.t 7)]
    (.op (some 11) (.ldN .heap 9) [(.t 10)]
    (.al 4 0 (List.replicate 9 (Cell.int .i64 0))
    (.op (some 3) .mov [(.t 9)]
    (.op none (.stAll (.slot 0) 9) [(.t 4), (.t 11)]
    .nil)))))))
  (.seq (.reg 4 false (.op (some 12) (.addr 0) [(.t 4)]
    (.op (some 13) (.ld (.slot 0) (.i .i64)) [(.t 12)]
    (.op (some 14) (.bin .eql) [(.t 13), (.k (.c (.int .i64 6)))]
    (.op (some 15) .mov [(.t 14)]
    (.sc 15 true (.op (some 16) (.addr 8) [(.t 4)]
    (.op (some 17) (.ld (.slot 0) (.i .i64)) [(.t 16)]
    (.op (some 18) (.bin .lss) [(.t 17), (.k (.c (.int .i64 1)))]
    (.op (some 19) .mov [(.t 18)]
    (.sc 19 false (.op (some 20) (.addr 8) [(.t 4)]
    (.op (some 21) (.ld (.slot 0) (.i .i64)) [(.t 20)]
    (.op (some 22) .mov [(.t 0)]
    (.op (some 23) .len [(.t 22)]
    (.op (some 24) .mov [(.t 3)]
    (.op (some 25) (.bin .sub) [(.t 23), (.t 24)]
    (.op (some 26) (.bin .sub) [(.t 25), (.k (.c (.int .i64 1)))]
    (.op (some 27) (.bin .gtr) [(.t 21), (.t 26)]
    .nil)))))))) 27 28 true
    .nil))))) 28 29 false
    .nil))))))
  (.cond (.t 29)
  (.seq (.reg 5 false (.op (some 2) .mov [(.k (.c (.bool false)))]
    .nil))
  .ret)
  .skip))))
  (.reg 6 false (.op (some 30) (.bin .add) [(.t 7), (.k (.c (.int .i64 1)))]
    (.op (some 7) .mov [(.t 30)]
    .nil))))))
def well_Jumps_p1 : IC :=
  (.seq (.reg 7 false (.op (some 2) .mov [(.k (.c (.bool true)))]
    .nil))
  .ret)
def well_Jumps : Fn := { np := 1, nt := 31, ns := 1, res := [.t 2 .b], gc := false, code :=
  (.seq (.reg 0 false (.op (some 2) .mov [(.k (.c (.bool false)))]
    .nil))
  (.seq (.seq (.reg 1 false (.op (some 5) .mov [(.t 0)]
    (.op (some 6) .len [(.t 5)]
    (.op (some 7) .mov [(.k (.c (.int .i64 0)))]
    .nil))))
  (.blk 0 (.loop [0, 5, 6, 7] [] [(0, [2], []), (1, [], [])] well_Jumps_b1)))
  well_Jumps_p1)) }


end Jq

/- What a function needs of an environment. -/
namespace Jq
open Go

structure well_Jumps_In (E : Env) : Prop where
  fn : E.fn 148 = some well_Jumps

end Jq

/- What a function needs of an environment. -/
namespace Jq
open Go

structure prog_thread_In (E : Env) : Prop where
  fn : E.fn 113 = some prog_thread

structure prog_Value_In (E : Env) : Prop where
  fn : E.fn 108 = some prog_Value

structure prog_set_In (E : Env) : Prop where
  fn : E.fn 124 = some prog_set

structure prog_normal_In (E : Env) : Prop where
  fn : E.fn 114 = some prog_normal
  c108 : prog_Value_In E
  c124 : prog_set_In E
  c125 : num_Do_In E

structure prog_Start_In (E : Env) : Prop where
  fn : E.fn 94 = some prog_Start
  c113 : prog_thread_In E
  c114 : prog_normal_In E

structure prog_Next_In (E : Env) : Prop where
  fn : E.fn 105 = some prog_Next
  c113 : prog_thread_In E

structure prog_After_In (E : Env) : Prop where
  fn : E.fn 106 = some prog_After
  c105 : prog_Next_In E
  c113 : prog_thread_In E
  c114 : prog_normal_In E
  c124 : prog_set_In E

structure prog_Size_In (E : Env) : Prop where
  fn : E.fn 102 = some prog_Size

structure prog_Ok_1_In (E : Env) : Prop where
  fn : E.fn 200 = some prog_Ok_1

structure prog_Ok_2_In (E : Env) : Prop where
  fn : E.fn 201 = some prog_Ok_2
  c159 : print_Fields_In E

structure prog_Ok_In (E : Env) : Prop where
  fn : E.fn 188 = some prog_Ok
  c102 : prog_Size_In E
  c148 : well_Jumps_In E
  c155 : slices_ContainsFunc_sIns_Ins_In E
  c158 : print_IsLoc_In E
  c200 : prog_Ok_1_In E
  c201 : prog_Ok_2_In E

end Jq

namespace Jq
open Go


end Jq

namespace Jq
open Go

/- (jacquard/set.Set).Has: 17 -/
def set_Set_Has : Fn := { np := 2, nt := 10, ns := 0, res := [.t 4 .b], gc := false, code :=
  (.seq (.reg 0 false (.op (some 4) .mov [(.k (.c (.bool false)))]
    .nil))
  (.seq (.reg 1 false (.op (some 5) .mov [(.t 0)]
    (.op (some 6) .mov [(.t 1)]
    (.op (some 7) (.call 19 [(.i .u64)]) [(.t 6)]
    (.op (some 8) (.bin .and) [(.t 5), (.t 7)]
    (.op (some 9) (.bin .neq) [(.t 8), (.k (.c (.int .u64 0)))]
    (.op (some 4) .mov [(.t 9)]
    .nil)))))))
  .ret)) }

/- (jacquard/set.Set).With: 18 -/
def set_Set_With : Fn := { np := 2, nt := 9, ns := 0, res := [.t 4 (.i .u64)], gc := false, code :=
  (.seq (.reg 0 false (.op (some 4) .mov [(.k (.c (.int .u64 0)))]
    .nil))
  (.seq (.reg 1 false (.op (some 5) .mov [(.t 0)]
    (.op (some 6) .mov [(.t 1)]
    (.op (some 7) (.call 19 [(.i .u64)]) [(.t 6)]
    (.op (some 8) (.bin .or) [(.t 5), (.t 7)]
    (.op (some 4) .mov [(.t 8)]
    .nil))))))
  .ret)) }

/- jacquard/set.bit: 19 -/
def set_bit : Fn := { np := 1, nt := 12, ns := 0, res := [.t 2 (.i .u64)], gc := false, code :=
  (.seq (.reg 0 false (.op (some 2) .mov [(.k (.c (.int .u64 0)))]
    .nil))
  (.seq (.seq (.reg 1 false (.op (some 3) .mov [(.t 0)]
    (.op (some 4) (.bin .lss) [(.t 3), (.k (.c (.int .i64 0)))]
    (.op (some 5) .mov [(.t 4)]
    (.sc 5 false (.op (some 6) .mov [(.t 0)]
    (.op (some 7) (.bin .geq) [(.t 6), (.k (.c (.int .i64 64)))]
    .nil)) 7 8 true
    .nil)))))
  (.cond (.t 8)
  (.seq (.reg 2 false (.op (some 2) .mov [(.k (.c (.int .u64 0)))]
    .nil))
  .ret)
  .skip))
  (.seq (.reg 3 false (.op (some 9) .mov [(.t 0)]
    (.op (some 10) (.conv .u64) [(.t 9)]
    (.op (some 11) (.bin .shl) [(.k (.c (.int .u64 1))), (.t 10)]
    (.op (some 2) .mov [(.t 11)]
    .nil)))))
  .ret))) }


end Jq

/- What a function needs of an environment. -/
namespace Jq
open Go

structure set_bit_In (E : Env) : Prop where
  fn : E.fn 19 = some set_bit

structure set_Set_With_In (E : Env) : Prop where
  fn : E.fn 18 = some set_Set_With
  c19 : set_bit_In E

structure set_Set_Has_In (E : Env) : Prop where
  fn : E.fn 17 = some set_Set_Has
  c19 : set_bit_In E

end Jq

/- What a function needs of an environment. -/
namespace Jq
open Go


end Jq

/- What a function needs of an environment. -/
namespace Jq
open Go

structure event_Of_In (E : Env) : Prop where
  fn : E.fn 109 = some event_Of
  c108 : prog_Value_In E

structure event_Writes_In (E : Env) : Prop where
  fn : E.fn 80 = some event_Writes

end Jq

namespace Jq
open Go

/- internal/strconv.Itoa: 46 -/
def istrconv_Itoa : Fn := { np := 1, nt := 5, ns := 0, res := [.t 2 .s], gc := false, code :=
  (.seq (.reg 0 false (.op (some 2) .mov [(.k (.c (.str (ByteArray.mk #[]))))]
    .nil))
  (.seq (.reg 1 false (.op (some 3) .mov [(.t 0)]
    (.op (some 4) (.call 47 [.s]) [(.t 3), (.k (.c (.int .i64 10)))]
    (.op (some 2) .mov [(.t 4)]
    .nil))))
  .ret)) }

/- internal/strconv.FormatInt: 47 -/
def istrconv_FormatInt : Fn := { np := 2, nt := 54, ns := 0, res := [.t 4 .s], gc := true, code :=
  (.seq (.reg 0 false (.op (some 4) .mov [(.k (.c (.str (ByteArray.mk #[]))))]
    .nil))
  (.seq (.seq (.reg 1 false (.op (some 10) .mov [(.t 1)]
    (.op (some 11) (.bin .eql) [(.t 10), (.k (.c (.int .i64 10)))]
    .nil)))
  (.cond (.t 11)
  (.seq (.seq (.reg 2 false (.op (some 12) .mov [(.t 0)]
    (.op (some 13) (.bin .leq) [(.k (.c (.int .i64 0))), (.t 12)]
    (.op (some 14) .mov [(.t 13)]
    (.sc 14 true (.op (some 15) .mov [(.t 0)]
    (.op (some 16) (.bin .lss) [(.t 15), (.k (.c (.int .i64 100)))]
    .nil)) 16 17 false
    .nil)))))
  (.cond (.t 17)
  (.seq (.reg 3 false (.op (some 18) .mov [(.t 0)]
    (.op (some 19) (.call 48 [.s]) [(.t 18)]
    (.op (some 4) .mov [(.t 19)]
    .nil))))
  .ret)
  .skip))
  (.seq (.reg 4 false (.op (some 5) (.allocH (List.replicate 24 (Cell.int .u8 0))) []
    .nil))
  (.seq (.reg 5 false (.op (some 20) .mov [(.t 0)]
    (.op (some 21) (.conv .u64) [(.t 20)]
    (.op (some 6) .mov [(.t 21)]
    .nil))))
  (.seq (.seq (.reg 6 false (.op (some 22) .mov [(.t 0)]
    (.op (some 23) (.bin .lss) [(.t 22), (.k (.c (.int .i64 0)))]
    .nil)))
  (.cond (.t 23)
  (.reg 7 false (.op (some 24) .mov [(.t 6)]
    (.op (some 25) (.un .neg) [(.t 24)]
    (.op (some 6) .mov [(.t 25)]
    .nil))))
  .skip))
  (.seq (.reg 8 false (.op (some 26) .mov [(.t 6)]
    (.op (some 27) (.call 49 [(.i .i64)]) [(.t 26)]
    (.op (some 7) .mov [(.t 27)]
    .nil))))
  (.seq (.reg 9 false (.op (some 28) .mov [(.t 7)]
    (.op (some 29) (.bin .add) [(.k (.c (.int .i64 1))), (.t 28)]
    (.op (some 30) (.slcA 24 1 true true) [(.t 5), (.k (.c (.int .i64 1))), (.t 29)]
    (.op (some 31) .mov [(.t 6)]
    (.op (some 32) (.call 50 []) [(.t 30), (.t 31)]
    .nil))))))
  (.seq (.seq (.reg 10 false (.op (some 33) .mov [(.t 0)]
    (.op (some 34) (.bin .lss) [(.t 33), (.k (.c (.int .i64 0)))]
    .nil)))
  (.cond (.t 34)
  (.seq (.reg 11 false (.op (some 35) (.idxA 24 1) [(.t 5), (.k (.c (.int .i64 0)))]
    (.op none (.st .heap) [(.t 35), (.k (.c (.int .u8 45)))]
    .nil)))
  (.seq (.reg 12 false (.op (some 36) .mov [(.t 7)]
    (.op (some 37) (.bin .add) [(.k (.c (.int .i64 1))), (.t 36)]
    (.op (some 38) (.slcA 24 1 false true) [(.t 5), (.t 37)]
    (.op (some 39) .b2s [(.t 38)]
    (.op (some 4) .mov [(.t 39)]
    .nil))))))
  .ret))
  .skip))
  (.seq (.reg 13 false (.op (some 40) .mov [(.t 7)]
    (.op (some 41) (.bin .add) [(.k (.c (.int .i64 1))), (.t 40)]
    (.op (some 42) (.slcA 24 1 true true) [(.t 5), (.k (.c (.int .i64 1))), (.t 41)]
    (.op (some 43) .b2s [(.t 42)]
    (.op (some 4) .mov [(.t 43)]
    .nil))))))
  .ret))))))))
  .skip))
  (.seq (.reg 14 false (.op (some 45) .mov [(.t 0)]
    (.op (some 46) (.conv .u64) [(.t 45)]
    (.op (some 47) .mov [(.t 1)]
    (.op (some 48) .mov [(.t 0)]
    (.op (some 49) (.bin .lss) [(.t 48), (.k (.c (.int .i64 0)))]
    (.op (some 50) (.call 51 [.any, .s]) [(.k (.c .nils)), (.t 46), (.t 47), (.t 49), (.k (.c (.bool false)))]
    (.op (some 44) .mov [(.t 50)]
    (.op (some 51) (.ext 0) [(.t 44)]
    (.op (some 52) (.ext 1) [(.t 44)]
    (.op (some 8) .mov [(.t 51)]
    (.op (some 9) .mov [(.t 52)]
    .nil))))))))))))
  (.seq (.reg 15 false (.op (some 53) .mov [(.t 9)]
    (.op (some 4) .mov [(.t 53)]
    .nil)))
  .ret)))) }

/- internal/strconv.small: 48 -/
def istrconv_small : Fn := { np := 1, nt := 15, ns := 0, res := [.t 2 .s], gc := false, code :=
  (.seq (.reg 0 false (.op (some 2) .mov [(.k (.c (.str (ByteArray.mk #[]))))]
    .nil))
  (.seq (.seq (.reg 1 false (.op (some 3) .mov [(.t 0)]
    (.op (some 4) (.bin .lss) [(.t 3), (.k (.c (.int .i64 10)))]
    .nil)))
  (.cond (.t 4)
  (.seq (.reg 2 false (.op (some 5) .mov [(.t 0)]
    (.op (some 6) .mov [(.t 0)]
    (.op (some 7) (.bin .add) [(.t 6), (.k (.c (.int .i64 1)))]
    (.op (some 8) (.slcStr true true) [(.k (.c (.str (ByteArray.mk #[48, 49, 50, 51, 52, 53, 54, 55, 56, 57, 97, 98, 99, 100, 101, 102, 103, 104, 105, 106, 107, 108, 109, 110, 111, 112, 113, 114, 115, 116, 117, 118, 119, 120, 121, 122])))), (.t 5), (.t 7)]
    (.op (some 2) .mov [(.t 8)]
    .nil))))))
  .ret)
  .skip))
  (.seq (.reg 3 false (.op (some 9) .mov [(.t 0)]
    (.op (some 10) (.bin .mul) [(.t 9), (.k (.c (.int .i64 2)))]
    (.op (some 11) .mov [(.t 0)]
    (.op (some 12) (.bin .mul) [(.t 11), (.k (.c (.int .i64 2)))]
    (.op (some 13) (.bin .add) [(.t 12), (.k (.c (.int .i64 2)))]
    (.op (some 14) (.slcStr true true) [(.k (.c (.str (ByteArray.mk #[48, 48, 48, 49, 48, 50, 48, 51, 48, 52, 48, 53, 48, 54, 48, 55, 48, 56, 48, 57, 49, 48, 49, 49, 49, 50, 49, 51, 49, 52, 49, 53, 49, 54, 49, 55, 49, 56, 49, 57, 50, 48, 50, 49, 50, 50, 50, 51, 50, 52, 50, 53, 50, 54, 50, 55, 50, 56, 50, 57, 51, 48, 51, 49, 51, 50, 51, 51, 51, 52, 51, 53, 51, 54, 51, 55, 51, 56, 51, 57, 52, 48, 52, 49, 52, 50, 52, 51, 52, 52, 52, 53, 52, 54, 52, 55, 52, 56, 52, 57, 53, 48, 53, 49, 53, 50, 53, 51, 53, 52, 53, 53, 53, 54, 53, 55, 53, 56, 53, 57, 54, 48, 54, 49, 54, 50, 54, 51, 54, 52, 54, 53, 54, 54, 54, 55, 54, 56, 54, 57, 55, 48, 55, 49, 55, 50, 55, 51, 55, 52, 55, 53, 55, 54, 55, 55, 55, 56, 55, 57, 56, 48, 56, 49, 56, 50, 56, 51, 56, 52, 56, 53, 56, 54, 56, 55, 56, 56, 56, 57, 57, 48, 57, 49, 57, 50, 57, 51, 57, 52, 57, 53, 57, 54, 57, 55, 57, 56, 57, 57])))), (.t 10), (.t 13)]
    (.op (some 2) .mov [(.t 14)]
    .nil))))))))
  .ret))) }


end Jq

/- What a function needs of an environment. -/
namespace Jq
open Go

structure istrconv_small_In (E : Env) : Prop where
  fn : E.fn 48 = some istrconv_small

structure istrconv_FormatInt_In (E : Env) : Prop where
  fn : E.fn 47 = some istrconv_FormatInt
  c48 : istrconv_small_In E

structure istrconv_Itoa_In (E : Env) : Prop where
  fn : E.fn 46 = some istrconv_Itoa
  c47 : istrconv_FormatInt_In E

end Jq

namespace Jq
open Go

/- jacquard/jacquardlaw12.SB: 187 -/
def jacquardlaw12_SB : Fn := { np := 0, nt := 16, ns := 2, res := [.all (.slot 0) 0 3], gc := false, code :=
  (.seq (.reg 0 false (.al 0 0 ([Cell.nils, Cell.nils, Cell.nils])
    .nil))
  (.seq (.reg 1 false (.op (some 2) (.build ([Cell.int .i64 0, Cell.int .i64 0]) [(0, 1), (1, 1)]) [(.k (.c (.int .i64 (-1)))), (.k (.c (.int .i64 1)))]
    (.al 1 1 ([Cell.int .i64 0, Cell.int .i64 0])
    (.op none (.stAll (.slot 1) 2) [(.t 1), (.t 2)]
    .nil))))
  (.seq (.reg 2 false (.op (some 3) (.bslice 1 2 ([Cell.int .u8 0, Cell.int .u8 0]) [(0, 1), (1, 1)]) [(.k (.c (.int .u8 120))), (.k (.c (.int .u8 121)))]
    (.op (some 4) .mark [(.t 3)]
    (.op (some 5) (.bslice 1 2 ([Cell.int .i64 0, Cell.int .i64 0]) [(0, 1), (1, 1)]) [(.k (.c (.int .i64 0))), (.k (.c (.int .i64 0)))]
    (.op (some 6) (.ldAll (.slot 1) 2) [(.t 1)]
    (.op (some 7) (.build (List.replicate 9 (Cell.int .i64 0)) [(0, 1), (2, 1), (3, 2)]) [(.k (.c (.int .i64 1))), (.k (.c (.int .i64 0))), (.t 6)]
    (.op (some 8) (.build (List.replicate 9 (Cell.int .i64 0)) [(0, 1), (2, 1)]) [(.k (.c (.int .i64 2))), (.k (.c (.int .i64 1)))]
    (.op (some 9) (.bslice 9 2 (List.replicate 18 (Cell.int .i64 0)) [(0, 9), (9, 9)]) [(.t 7), (.t 8)]
    (.op (some 10) (.ldAll (.slot 1) 2) [(.t 1)]
    (.op (some 11) (.build (List.replicate 9 (Cell.int .i64 0)) [(0, 1), (2, 1), (3, 2)]) [(.k (.c (.int .i64 1))), (.k (.c (.int .i64 1))), (.t 10)]
    (.op (some 12) (.build (List.replicate 9 (Cell.int .i64 0)) [(0, 1), (2, 1)]) [(.k (.c (.int .i64 2))), (.k (.c (.int .i64 0)))]
    (.op (some 13) (.bslice 9 2 (List.replicate 18 (Cell.int .i64 0)) [(0, 9), (9, 9)]) [(.t 11), (.t 12)]
    (.op (some 14) (.bslice 1 2 ([Cell.nils, Cell.nils]) [(0, 1), (1, 1)]) [(.t 9), (.t 13)]
    (.op (some 15) (.build ([Cell.nils, Cell.nils, Cell.nils]) [(0, 1), (1, 1), (2, 1)]) [(.t 4), (.t 5), (.t 14)]
    (.op none (.stAll (.slot 0) 3) [(.t 0), (.t 15)]
    .nil)))))))))))))))
  .ret))) }


end Jq

/- What a function needs of an environment. -/
namespace Jq
open Go

structure jacquardlaw12_SB_In (E : Env) : Prop where
  fn : E.fn 187 = some jacquardlaw12_SB

end Jq

namespace Jq
open Go

/- jacquard/jacquardlaw17.awake: 261 -/
def jacquardlaw17_awake : Fn := { np := 0, nt := 47, ns := 0, res := [.t 0 .b], gc := true, code :=
  (.seq (.reg 0 false (.op (some 0) .mov [(.k (.c (.bool false)))]
    .nil))
  (.seq (.reg 1 false (.op (some 7) (.call 260 [.any, .b]) [(.k (.c (.str (ByteArray.mk #[116, 48, 32, 102, 48, 32, 102, 49, 46, 49]))))]
    (.op (some 6) .mov [(.t 7)]
    (.op (some 8) (.ext 0) [(.t 6)]
    (.op (some 9) (.ext 1) [(.t 6)]
    (.op (some 1) .mov [(.t 8)]
    (.op (some 2) .mov [(.t 9)]
    .nil)))))))
  (.seq (.reg 2 false (.op (some 11) (.call 187 [.agg]) []
    (.op (some 12) (.bslice 1 3 ([Cell.int .i64 0, Cell.int .i64 0, Cell.int .i64 0]) [(0, 1), (1, 1), (2, 1)]) [(.k (.c (.int .i64 0))), (.k (.c (.int .i64 0))), (.k (.c (.int .i64 0)))]
    (.op (some 13) (.call 271 [.any, (.i .i64), .b]) [(.t 11), (.k (.c (.int .i64 1))), (.t 12)]
    (.op (some 10) .mov [(.t 13)]
    (.op (some 14) (.ext 0) [(.t 10)]
    (.op (some 15) (.ext 1) [(.t 10)]
    (.op (some 16) (.ext 2) [(.t 10)]
    (.op (some 3) .mov [(.t 14)]
    (.op (some 4) .mov [(.t 15)]
    (.op (some 5) .mov [(.t 16)]
    .nil)))))))))))
  (.seq (.reg 3 false (.op (some 17) .mov [(.t 2)]
    (.op (some 18) .mov [(.t 17)]
    (.sc 18 true (.op (some 19) .mov [(.t 1)]
    (.op (some 20) .len [(.t 19)]
    (.op (some 21) (.bin .eql) [(.t 20), (.k (.c (.int .i64 3)))]
    .nil))) 21 22 false
    (.op (some 23) .mov [(.t 22)]
    (.sc 23 true (.op (some 24) .mov [(.t 1)]
    (.op (some 25) (.idxS 1) [(.t 24), (.k (.c (.int .i64 2)))]
    (.op (some 26) (.ld .heap (.i .i64)) [(.t 25)]
    (.op (some 27) (.bin .eql) [(.t 26), (.k (.c (.int .i64 13)))]
    .nil)))) 27 28 false
    (.op (some 29) .mov [(.t 28)]
    (.sc 29 true (.op (some 30) (.bslice 1 3 ([Cell.int .i64 0, Cell.int .i64 0, Cell.int .i64 0]) [(0, 1), (1, 1), (2, 1)]) [(.k (.c (.int .i64 0))), (.k (.c (.int .i64 4))), (.k (.c (.int .i64 13)))]
    (.op (some 31) (.call 262 [.s]) [(.t 30)]
    (.op (some 32) (.bin .eql) [(.t 31), (.k (.c (.str (ByteArray.mk #[116, 48, 32, 102, 48, 32, 102, 49, 46, 49]))))]
    .nil))) 32 33 false
    (.op (some 34) .mov [(.t 33)]
    (.sc 34 true (.op (some 35) .mov [(.t 3)]
    (.op (some 36) .len [(.t 35)]
    (.op (some 37) (.bin .eql) [(.t 36), (.k (.c (.int .i64 2)))]
    .nil))) 37 38 false
    (.op (some 39) .mov [(.t 38)]
    (.sc 39 true (.op (some 40) .mov [(.t 4)]
    (.op (some 41) (.bin .eql) [(.t 40), (.k (.c (.int .i64 2)))]
    .nil)) 41 42 false
    (.op (some 43) .mov [(.t 42)]
    (.sc 43 true (.op (some 44) .mov [(.t 5)]
    (.op (some 45) (.un .not) [(.t 44)]
    .nil)) 45 46 false
    (.op (some 0) .mov [(.t 46)]
    .nil)))))))))))))))
  .ret)))) }

/- jacquard/jacquardlaw17.PlayTexts: 264 -/
def jacquardlaw17_PlayTexts_b1 : IC :=
  (.seq (.seq (.reg 6 false (.op (some 18) .mov [(.t 7)]
    (.op (some 19) .mov [(.t 0)]
    (.op (some 20) .len [(.t 19)]
    (.op (some 21) (.bin .lss) [(.t 18), (.t 20)]
    .nil)))))
  (.cond (.t 21)
  .skip
  (.exit 0)))
  (.seq (.blk 1 (.seq (.reg 8 false (.op (some 24) .mov [(.t 0)]
    (.op (some 25) .mov [(.t 7)]
    (.op (some 26) (.idxS 1) [(.t 24), (.t 25)]
    (.op (some 27) (.ld .heap (.i .i64)) [(.t 26)]
    (.op (some 28) (.call 168 [.s]) [(.t 27)]
    (.op (some 8) .mov [(.t 28)]
    .nil)))))))
  (.seq (.reg 9 false (.op (some 29) .mov [(.t 6)]
    (.op (some 30) .mov [(.t 29)]
    (.sc 30 true (.op (some 31) .mov [(.t 8)]
    (.op (some 32) (.bin .neq) [(.t 31), (.k (.c (.str (ByteArray.mk #[]))))]
    .nil)) 32 33 false
    (.op (some 6) .mov [(.t 33)]
    .nil)))))
  (.seq (.seq (.reg 10 false (.op (some 34) .mov [(.t 7)]
    (.op (some 35) (.bin .gtr) [(.t 34), (.k (.c (.int .i64 0)))]
    .nil)))
  (.cond (.t 35)
  (.reg 11 false (.op (some 36) .mov [(.t 5)]
    (.op (some 37) (.bin .add) [(.t 36), (.k (.c (.str (ByteArray.mk #[32]))))]
    (.op (some 5) .mov [(.t 37)]
    .nil))))
  .skip))
  (.reg 12 false (.op (some 38) .mov [(.t 5)]
    (.op (some 39) .mov [(.t 8)]
    (.op (some 40) (.bin .add) [(.t 38), (.t 39)]
    (.op (some 5) .mov [(.t 40)]
    .nil)))))))))
  (.reg 7 false (.op (some 22) .mov [(.t 7)]
    (.op (some 23) (.bin .add) [(.t 22), (.k (.c (.int .i64 1)))]
    (.op (some 7) .mov [(.t 23)]
    .nil))))))
def jacquardlaw17_PlayTexts_b2 : IC :=
  (.seq (.seq (.reg 19 false (.op (some 80) .mov [(.t 11)]
    (.op (some 81) .mov [(.t 9)]
    (.op (some 82) .len [(.t 81)]
    (.op (some 83) (.bin .lss) [(.t 80), (.t 82)]
    (.op (some 84) .mov [(.t 83)]
    (.sc 84 true (.op (some 85) .mov [(.t 6)]
    .nil) 85 86 false
    .nil)))))))
  (.cond (.t 86)
  .skip
  (.exit 2)))
  (.seq (.blk 3 (.seq (.reg 21 true (.op (some 89) .mov [(.t 9)]
    (.op (some 90) .mov [(.t 11)]
    (.op (some 91) (.idxS 1) [(.t 89), (.t 90)]
    (.op (some 92) (.ld .heap (.i .i64)) [(.t 91)]
    (.op (some 93) .mov [(.t 0)]
    (.op (some 94) .mov [(.t 11)]
    (.op (some 95) (.idxS 1) [(.t 93), (.t 94)]
    (.op (some 96) (.ld .heap (.i .i64)) [(.t 95)]
    (.op (some 97) (.bin .neq) [(.t 92), (.t 96)]
    .nil))))))))))
  (.cond (.t 97)
  (.seq (.reg 22 false (.op (some 4) .mov [(.k (.c (.bool false)))]
    .nil))
  .ret)
  .skip)))
  (.reg 20 false (.op (some 87) .mov [(.t 11)]
    (.op (some 88) (.bin .add) [(.t 87), (.k (.c (.int .i64 1)))]
    (.op (some 11) .mov [(.t 88)]
    .nil))))))
def jacquardlaw17_PlayTexts_p2 : IC :=
  (.seq (.reg 23 false (.op (some 99) .mov [(.t 1)]
    (.op (some 100) (.call 260 [.any, .b]) [(.t 99)]
    (.op (some 98) .mov [(.t 100)]
    (.op (some 101) (.ext 0) [(.t 98)]
    (.op (some 102) (.ext 1) [(.t 98)]
    (.op (some 12) .mov [(.t 101)]
    (.op (some 13) .mov [(.t 102)]
    .nil))))))))
  (.seq (.reg 24 false (.op (some 103) .mov [(.t 13)]
    (.op (some 104) (.un .not) [(.t 103)]
    (.op (some 105) .mov [(.t 104)]
    (.sc 105 false (.op (some 106) .mov [(.t 12)]
    (.op (some 107) (.call 262 [.s]) [(.t 106)]
    (.op (some 108) .mov [(.t 1)]
    (.op (some 109) (.bin .eql) [(.t 107), (.t 108)]
    .nil)))) 109 110 true
    (.op (some 111) .mov [(.t 110)]
    (.sc 111 true (.op (some 112) .mov [(.t 13)]
    (.op (some 113) .mov [(.t 112)]
    (.sc 113 false (.op (some 114) .mov [(.t 12)]
    (.op (some 115) .len [(.t 114)]
    (.op (some 116) (.bin .eql) [(.t 115), (.k (.c (.int .i64 0)))]
    .nil))) 116 117 true
    .nil))) 117 118 false
    (.op (some 119) .mov [(.t 118)]
    (.sc 119 true (.op (some 120) (.call 261 [.b]) []
    .nil) 120 121 false
    (.op (some 4) .mov [(.t 121)]
    .nil))))))))))
  .ret))
def jacquardlaw17_PlayTexts_p1 : IC :=
  (.seq (.seq (.reg 13 false (.op (some 41) .mov [(.t 0)]
    (.op (some 42) (.call 262 [.s]) [(.t 41)]
    (.op (some 43) .mov [(.t 5)]
    (.op (some 44) (.bin .neq) [(.t 42), (.t 43)]
    .nil)))))
  (.cond (.t 44)
  (.seq (.reg 14 false (.op (some 4) .mov [(.k (.c (.bool false)))]
    .nil))
  .ret)
  .skip))
  (.seq (.reg 15 false (.op (some 46) .mov [(.t 5)]
    (.op (some 47) (.call 260 [.any, .b]) [(.t 46)]
    (.op (some 45) .mov [(.t 47)]
    (.op (some 48) (.ext 0) [(.t 45)]
    (.op (some 49) (.ext 1) [(.t 45)]
    (.op (some 9) .mov [(.t 48)]
    (.op (some 10) .mov [(.t 49)]
    .nil))))))))
  (.seq (.seq (.reg 16 false (.op (some 50) .mov [(.t 6)]
    (.op (some 51) .mov [(.t 50)]
    (.sc 51 true (.op (some 52) .mov [(.t 10)]
    (.op (some 53) (.un .not) [(.t 52)]
    (.op (some 54) .mov [(.t 53)]
    (.sc 54 false (.op (some 55) .mov [(.t 9)]
    (.op (some 56) .len [(.t 55)]
    (.op (some 57) .mov [(.t 0)]
    (.op (some 58) .len [(.t 57)]
    (.op (some 59) (.bin .neq) [(.t 56), (.t 58)]
    .nil))))) 59 60 true
    .nil)))) 60 61 false
    (.op (some 62) .mov [(.t 61)]
    (.sc 62 false (.op (some 63) .mov [(.t 6)]
    (.op (some 64) (.un .not) [(.t 63)]
    (.op (some 65) .mov [(.t 64)]
    (.sc 65 true (.op (some 66) .mov [(.t 10)]
    .nil) 66 67 false
    (.op (some 68) .mov [(.t 67)]
    (.sc 68 true (.op (some 69) .mov [(.t 0)]
    (.op (some 70) .len [(.t 69)]
    (.op (some 71) (.bin .gtr) [(.t 70), (.k (.c (.int .i64 0)))]
    .nil))) 71 72 false
    (.op (some 73) .mov [(.t 72)]
    (.sc 73 true (.op (some 74) .mov [(.t 9)]
    (.op (some 75) (.call 262 [.s]) [(.t 74)]
    (.op (some 76) .mov [(.t 5)]
    (.op (some 77) (.bin .neq) [(.t 75), (.t 76)]
    .nil)))) 77 78 false
    .nil)))))))) 78 79 true
    .nil))))))
  (.cond (.t 79)
  (.seq (.reg 17 false (.op (some 4) .mov [(.k (.c (.bool false)))]
    .nil))
  .ret)
  .skip))
  (.seq (.seq (.reg 18 false (.op (some 11) .mov [(.k (.c (.int .i64 0)))]
    .nil))
  (.blk 2 (.loop [0, 1, 6, 9, 11] [] [(0, [4], []), (3, [1], [])] jacquardlaw17_PlayTexts_b2)))
  jacquardlaw17_PlayTexts_p2))))
def jacquardlaw17_PlayTexts : Fn := { np := 2, nt := 122, ns := 0, res := [.t 4 .b], gc := false, code :=
  (.seq (.reg 0 false (.op (some 4) .mov [(.k (.c (.bool false)))]
    .nil))
  (.seq (.seq (.reg 1 false (.op (some 14) .mov [(.t 0)]
    (.op (some 15) .len [(.t 14)]
    (.op (some 16) (.bin .gtr) [(.t 15), (.k (.c (.int .i64 200)))]
    .nil))))
  (.cond (.t 16)
  (.seq (.reg 2 false (.op (some 17) (.call 261 [.b]) []
    (.op (some 4) .mov [(.t 17)]
    .nil)))
  .ret)
  .skip))
  (.seq (.reg 3 false (.op (some 5) .mov [(.k (.c (.str (ByteArray.mk #[]))))]
    .nil))
  (.seq (.reg 4 false (.op (some 6) .mov [(.k (.c (.bool true)))]
    .nil))
  (.seq (.seq (.reg 5 false (.op (some 7) .mov [(.k (.c (.int .i64 0)))]
    .nil))
  (.blk 0 (.loop [0, 1, 5, 6, 7] [] [(1, [0, 1, 5, 6], [])] jacquardlaw17_PlayTexts_b1)))
  jacquardlaw17_PlayTexts_p1))))) }


end Jq

namespace Jq
open Go


end Jq

namespace Jq
open Go

/- jacquard/jacquardlaw3.Small: 97 -/
def jacquardlaw3_Small_p8 : IC :=
  (.cond (.t 108)
  (.seq (.reg 35 false (.op (some 113) .mov [(.t 12)]
    (.op (some 114) .mov [(.t 17)]
    (.op (some 115) .mov [(.t 15)]
    (.op (some 116) (.build (List.replicate 9 (Cell.int .i64 0)) [(0, 1), (1, 1), (2, 1)]) [(.k (.c (.int .i64 2))), (.t 114), (.t 115)]
    (.op (some 117) (.lit 9 1 (List.replicate 9 (Cell.int .i64 0)) [(0, 9)]) [(.t 116)]
    (.op (some 118) (.app 9 72) [(.t 113), (.t 117)]
    (.op (some 12) .mov [(.t 118)]
    .nil))))))))
  (.reg 36 false (.op (some 119) .mov [(.t 10)]
    (.op (some 120) (.bin .add) [(.t 119), (.k (.c (.int .i64 1)))]
    (.op (some 10) .mov [(.t 120)]
    .nil)))))
  (.seq (.reg 37 false (.op (some 122) (.bin .eql) [(.t 83), (.k (.c (.int .i64 8)))]
    (.op (some 121) .mov [(.t 122)]
    .nil)))
  (.cond (.t 121)
  (.reg 38 false (.op (some 123) .mov [(.t 12)]
    (.op (some 124) (.build (List.replicate 9 (Cell.int .i64 0)) [(0, 1)]) [(.k (.c (.int .i64 3)))]
    (.op (some 125) (.lit 9 1 (List.replicate 9 (Cell.int .i64 0)) [(0, 9)]) [(.t 124)]
    (.op (some 126) (.app 9 72) [(.t 123), (.t 125)]
    (.op (some 12) .mov [(.t 126)]
    .nil))))))
  (.seq (.reg 39 false (.op (some 128) (.bin .eql) [(.t 83), (.k (.c (.int .i64 9)))]
    (.op (some 127) .mov [(.t 128)]
    .nil)))
  (.cond (.t 127)
  (.seq (.reg 40 false (.op (some 129) .mov [(.t 12)]
    (.op (some 130) .mov [(.t 17)]
    (.op (some 131) .mov [(.t 15)]
    (.op (some 132) (.ldAll (.slot 2) 2) [(.t 16)]
    (.op (some 133) (.build ([Cell.int .i64 0, Cell.int .i64 0]) [(0, 1), (1, 1)]) [(.k (.c (.int .i64 (-1)))), (.k (.c (.int .i64 1)))]
    (.op (some 134) (.build (List.replicate 9 (Cell.int .i64 0)) [(0, 1), (1, 1), (2, 1), (3, 2), (6, 2)]) [(.k (.c (.int .i64 4))), (.t 130), (.t 131), (.t 132), (.t 133)]
    (.op (some 135) (.lit 9 1 (List.replicate 9 (Cell.int .i64 0)) [(0, 9)]) [(.t 134)]
    (.op (some 136) (.app 9 72) [(.t 129), (.t 135)]
    (.op (some 12) .mov [(.t 136)]
    .nil))))))))))
  (.reg 41 false (.op (some 137) .mov [(.t 10)]
    (.op (some 138) (.bin .add) [(.t 137), (.k (.c (.int .i64 1)))]
    (.op (some 10) .mov [(.t 138)]
    .nil)))))
  (.seq (.reg 42 false (.op (some 140) (.bin .eql) [(.t 83), (.k (.c (.int .i64 10)))]
    (.op (some 139) .mov [(.t 140)]
    .nil)))
  (.cond (.t 139)
  (.reg 43 false (.op (some 141) .mov [(.t 12)]
    (.op (some 142) .mov [(.t 17)]
    (.op (some 143) (.ldAll (.slot 2) 2) [(.t 16)]
    (.op (some 144) (.build ([Cell.int .i64 0, Cell.int .i64 0]) [(0, 1), (1, 1)]) [(.k (.c (.int .i64 (-1)))), (.k (.c (.int .i64 1)))]
    (.op (some 145) (.build (List.replicate 9 (Cell.int .i64 0)) [(0, 1), (1, 1), (3, 2), (5, 1), (6, 2)]) [(.k (.c (.int .i64 5))), (.t 142), (.t 143), (.k (.c (.int .i64 6))), (.t 144)]
    (.op (some 146) (.lit 9 1 (List.replicate 9 (Cell.int .i64 0)) [(0, 9)]) [(.t 145)]
    (.op (some 147) (.app 9 72) [(.t 141), (.t 146)]
    (.op (some 12) .mov [(.t 147)]
    .nil)))))))))
  (.seq (.reg 23 false (.op (some 84) .mov [(.t 12)]
    (.op (some 85) (.ldAll (.slot 2) 2) [(.t 16)]
    (.op (some 86) (.build ([Cell.int .i64 0, Cell.int .i64 0]) [(0, 1)]) [(.k (.c (.int .i64 (-1))))]
    (.op (some 87) (.build (List.replicate 9 (Cell.int .i64 0)) [(0, 1), (3, 2), (6, 2), (8, 1)]) [(.k (.c (.int .i64 6))), (.t 85), (.t 86), (.k (.c (.int .i64 1)))]
    (.op (some 88) .mov [(.t 15)]
    (.op (some 89) (.build ([Cell.int .i64 0, Cell.int .i64 0]) [(0, 1), (1, 1)]) [(.k (.c (.int .i64 (-1)))), (.k (.c (.int .i64 2)))]
    (.op (some 90) (.build (List.replicate 9 (Cell.int .i64 0)) [(0, 1), (2, 1), (3, 2)]) [(.k (.c (.int .i64 1))), (.t 88), (.t 89)]
    (.op (some 91) (.lit 9 2 (List.replicate 18 (Cell.int .i64 0)) [(0, 9), (9, 9)]) [(.t 87), (.t 90)]
    (.op (some 92) (.app 9 72) [(.t 84), (.t 91)]
    (.op (some 12) .mov [(.t 92)]
    .nil)))))))))))
  (.reg 24 false (.op (some 93) .mov [(.t 10)]
    (.op (some 94) (.bin .add) [(.t 93), (.k (.c (.int .i64 1)))]
    (.op (some 10) .mov [(.t 94)]
    .nil))))))))))))
def jacquardlaw3_Small_p7 : IC :=
  (.cond (.t 95)
  (.seq (.reg 29 false (.op (some 100) .mov [(.t 12)]
    (.op (some 101) .mov [(.t 15)]
    (.op (some 102) (.ldAll (.slot 2) 2) [(.t 16)]
    (.op (some 103) (.build (List.replicate 9 (Cell.int .i64 0)) [(0, 1), (2, 1), (3, 2)]) [(.k (.c (.int .i64 1))), (.t 101), (.t 102)]
    (.op (some 104) (.lit 9 1 (List.replicate 9 (Cell.int .i64 0)) [(0, 9)]) [(.t 103)]
    (.op (some 105) (.app 9 72) [(.t 100), (.t 104)]
    (.op (some 12) .mov [(.t 105)]
    .nil))))))))
  (.reg 30 false (.op (some 106) .mov [(.t 10)]
    (.op (some 107) (.bin .add) [(.t 106), (.k (.c (.int .i64 1)))]
    (.op (some 10) .mov [(.t 107)]
    .nil)))))
  (.cut [1, 4, 5, 7, 8, 9, 10, 11, 12, 13, 15, 16, 17, 83, 108] [0, 1, 2] [] (.seq (.reg 31 false (.op (some 109) (.bin .eql) [(.t 83), (.k (.c (.int .i64 4)))]
    (.op (some 108) .mov [(.t 109)]
    .nil)))
  (.cond (.t 108)
  .skip
  (.seq (.reg 32 false (.op (some 110) (.bin .eql) [(.t 83), (.k (.c (.int .i64 5)))]
    (.op (some 108) .mov [(.t 110)]
    .nil)))
  (.cond (.t 108)
  .skip
  (.seq (.reg 33 false (.op (some 111) (.bin .eql) [(.t 83), (.k (.c (.int .i64 6)))]
    (.op (some 108) .mov [(.t 111)]
    .nil)))
  (.cond (.t 108)
  .skip
  (.reg 34 false (.op (some 112) (.bin .eql) [(.t 83), (.k (.c (.int .i64 7)))]
    (.op (some 108) .mov [(.t 112)]
    .nil)))))))))
  jacquardlaw3_Small_p8))
def jacquardlaw3_Small_p6 : IC :=
  (.seq (.reg 21 false (.op (some 79) .mov [(.t 14)]
    (.op (some 80) (.bin .shr) [(.t 79), (.k (.c (.int .u64 11)))]
    (.op (some 81) (.bin .and) [(.t 80), (.k (.c (.int .i64 1)))]
    (.op (some 17) .mov [(.t 81)]
    .nil)))))
  (.seq (.reg 22 false (.op (some 82) .mov [(.t 14)]
    (.op (some 83) (.bin .rem) [(.t 82), (.k (.c (.int .i64 12)))]
    .nil)))
  (.blk 4 (.cut [1, 4, 5, 7, 8, 9, 10, 11, 12, 13, 15, 16, 17, 83, 95] [0, 1, 2] [] (.seq (.reg 25 false (.op (some 96) (.bin .eql) [(.t 83), (.k (.c (.int .i64 0)))]
    (.op (some 95) .mov [(.t 96)]
    .nil)))
  (.cond (.t 95)
  .skip
  (.seq (.reg 26 false (.op (some 97) (.bin .eql) [(.t 83), (.k (.c (.int .i64 1)))]
    (.op (some 95) .mov [(.t 97)]
    .nil)))
  (.cond (.t 95)
  .skip
  (.seq (.reg 27 false (.op (some 98) (.bin .eql) [(.t 83), (.k (.c (.int .i64 2)))]
    (.op (some 95) .mov [(.t 98)]
    .nil)))
  (.cond (.t 95)
  .skip
  (.reg 28 false (.op (some 99) (.bin .eql) [(.t 83), (.k (.c (.int .i64 3)))]
    (.op (some 95) .mov [(.t 99)]
    .nil)))))))))
  jacquardlaw3_Small_p7))))
def jacquardlaw3_Small_p5 : IC :=
  (.reg 15 false (.op (some 58) .mov [(.t 13)]
    (.op (some 59) (.bin .sub) [(.t 58), (.k (.c (.int .i64 1)))]
    (.op (some 13) .mov [(.t 59)]
    .nil))))
def jacquardlaw3_Small_b1 : IC :=
  (.seq (.seq (.reg 14 false (.op (some 51) .mov [(.t 13)]
    (.op (some 52) (.bin .gtr) [(.t 51), (.k (.c (.int .i64 0)))]
    (.op (some 53) .mov [(.t 52)]
    (.sc 53 true (.op (some 54) .mov [(.t 10)]
    (.op (some 55) .mov [(.t 1)]
    (.op (some 56) (.bin .lss) [(.t 54), (.t 55)]
    .nil))) 56 57 false
    .nil)))))
  (.cond (.t 57)
  .skip
  (.exit 2)))
  (.seq (.blk 3 (.seq (.reg 16 false (.op (some 60) .mov [(.t 7)]
    (.op (some 61) (.callv [(.i .i64)]) [(.t 60)]
    (.op (some 14) .mov [(.t 61)]
    .nil))))
  (.seq (.reg 17 false (.op (some 62) .mov [(.t 14)]
    (.op (some 63) (.bin .shr) [(.t 62), (.k (.c (.int .u64 4)))]
    (.op (some 64) .mov [(.t 9)]
    (.op (some 65) (.bin .rem) [(.t 63), (.t 64)]
    (.op (some 66) (.bin .add) [(.k (.c (.int .i64 120))), (.t 65)]
    (.op (some 15) .mov [(.t 66)]
    .nil)))))))
  (.seq (.reg 18 false (.op (some 67) .mov [(.t 14)]
    (.op (some 68) (.bin .shr) [(.t 67), (.k (.c (.int .u64 6)))]
    (.op (some 69) (.bin .rem) [(.t 68), (.k (.c (.int .i64 3)))]
    (.op (some 70) (.build ([Cell.int .i64 0, Cell.int .i64 0]) [(0, 1), (1, 1)]) [(.k (.c (.int .i64 (-1)))), (.t 69)]
    (.al 16 2 ([Cell.int .i64 0, Cell.int .i64 0])
    (.op none (.stAll (.slot 2) 2) [(.t 16), (.t 70)]
    .nil)))))))
  (.cut [1, 4, 5, 7, 8, 9, 10, 11, 12, 13, 14, 15, 16] [0, 1, 2] [] (.seq (.reg 19 false (.op (some 71) .mov [(.t 14)]
    (.op (some 72) (.bin .shr) [(.t 71), (.k (.c (.int .u64 8)))]
    (.op (some 73) (.bin .rem) [(.t 72), (.k (.c (.int .i64 3)))]
    (.op (some 74) (.bin .eql) [(.t 73), (.k (.c (.int .i64 0)))]
    .nil)))))
  (.cond (.t 74)
  (.reg 20 false (.op (some 75) .mov [(.t 14)]
    (.op (some 76) (.bin .shr) [(.t 75), (.k (.c (.int .u64 10)))]
    (.op (some 77) (.bin .and) [(.t 76), (.k (.c (.int .i64 1)))]
    (.op (some 78) (.build ([Cell.int .i64 0, Cell.int .i64 0]) [(0, 1)]) [(.t 77)]
    (.op none (.stAll (.slot 2) 2) [(.t 16), (.t 78)]
    .nil))))))
  .skip))
  jacquardlaw3_Small_p6)))))
  jacquardlaw3_Small_p5))
def jacquardlaw3_Small_p4 : IC :=
  (.reg 44 false (.op (some 148) (.addr 2) [(.t 5)]
    (.op (some 149) (.ld (.slot 1) .any) [(.t 148)]
    (.op (some 150) .mov [(.t 12)]
    (.op (some 151) (.lit 1 1 ([Cell.nils]) [(0, 1)]) [(.t 150)]
    (.op (some 152) (.app 1 24) [(.t 149), (.t 151)]
    (.op (some 153) (.addr 2) [(.t 5)]
    (.op none (.st (.slot 1)) [(.t 153), (.t 152)]
    .nil))))))))
def jacquardlaw3_Small_p3 : IC :=
  (.reg 11 false (.op (some 45) .mov [(.t 11)]
    (.op (some 46) (.bin .add) [(.t 45), (.k (.c (.int .i64 1)))]
    (.op (some 11) .mov [(.t 46)]
    .nil))))
def jacquardlaw3_Small_b2 : IC :=
  (.seq (.seq (.reg 10 false (.op (some 42) .mov [(.t 11)]
    (.op (some 43) .mov [(.t 8)]
    (.op (some 44) (.bin .lss) [(.t 42), (.t 43)]
    .nil))))
  (.cond (.t 44)
  .skip
  (.exit 0)))
  (.seq (.blk 1 (.seq (.reg 12 false (.op (some 12) .mov [(.k (.c .nils))]
    .nil))
  (.seq (.seq (.reg 13 false (.op (some 47) .mov [(.t 7)]
    (.op (some 48) (.callv [(.i .i64)]) [(.t 47)]
    (.op (some 49) (.bin .rem) [(.t 48), (.k (.c (.int .i64 3)))]
    (.op (some 50) (.bin .add) [(.t 49), (.k (.c (.int .i64 1)))]
    (.op (some 13) .mov [(.t 50)]
    .nil))))))
  (.blk 2 (.loop [1, 4, 5, 7, 8, 9, 10, 11, 12, 13] [0, 1] [(3, [1, 4, 5, 7, 8, 9, 10, 11, 12], [0, 1])] jacquardlaw3_Small_b1)))
  jacquardlaw3_Small_p4)))
  jacquardlaw3_Small_p3))
def jacquardlaw3_Small_p2 : IC :=
  (.seq (.seq (.reg 45 false (.op (some 154) .mov [(.t 7)]
    (.op (some 155) (.callv [(.i .i64)]) [(.t 154)]
    (.op (some 18) .mov [(.t 155)]
    .nil))))
  (.seq (.reg 46 false (.op (some 156) .mov [(.t 18)]
    (.op (some 157) (.bin .rem) [(.t 156), (.k (.c (.int .i64 3)))]
    (.op (some 158) (.bin .eql) [(.t 157), (.k (.c (.int .i64 0)))]
    .nil))))
  (.cond (.t 158)
  (.reg 47 false (.op (some 159) .mov [(.t 18)]
    (.op (some 160) (.bin .quo) [(.t 159), (.k (.c (.int .i64 3)))]
    (.op (some 161) (.bin .rem) [(.t 160), (.k (.c (.int .i64 2)))]
    (.op (some 162) (.bin .add) [(.t 161), (.k (.c (.int .i64 1)))]
    (.op (some 163) .mov [(.t 18)]
    (.op (some 164) (.bin .shr) [(.t 163), (.k (.c (.int .u64 3)))]
    (.op (some 165) (.bin .and) [(.t 164), (.k (.c (.int .i64 1)))]
    (.op (some 166) .mov [(.t 18)]
    (.op (some 167) (.bin .shr) [(.t 166), (.k (.c (.int .u64 4)))]
    (.op (some 168) (.bin .and) [(.t 167), (.k (.c (.int .i64 1)))]
    (.op (some 169) (.build ([Cell.int .i64 0, Cell.int .i64 0, Cell.int .i64 0, Cell.int .i64 0]) [(0, 1), (1, 1), (3, 1)]) [(.k (.c (.int .i64 0))), (.t 165), (.t 168)]
    (.op (some 170) (.bslice 4 1 ([Cell.int .i64 0, Cell.int .i64 0, Cell.int .i64 0, Cell.int .i64 0]) [(0, 4)]) [(.t 169)]
    (.op (some 171) .mov [(.t 18)]
    (.op (some 172) (.bin .shr) [(.t 171), (.k (.c (.int .u64 5)))]
    (.op (some 173) (.bin .rem) [(.t 172), (.k (.c (.int .i64 3)))]
    (.op (some 174) (.build ([Cell.int .i64 0, Cell.int .i64 0, Cell.int .i64 0, Cell.int .i64 0]) [(0, 1), (2, 1), (3, 1)]) [(.k (.c (.int .i64 (-1)))), (.k (.c (.int .i64 120))), (.t 173)]
    (.op (some 175) .mov [(.t 18)]
    (.op (some 176) (.bin .shr) [(.t 175), (.k (.c (.int .u64 7)))]
    (.op (some 177) (.bin .and) [(.t 176), (.k (.c (.int .i64 1)))]
    (.op (some 178) (.build ([Cell.int .i64 0, Cell.int .i64 0, Cell.int .i64 0, Cell.int .i64 0]) [(0, 1), (1, 1), (3, 1)]) [(.k (.c (.int .i64 1))), (.k (.c (.int .i64 0))), (.t 177)]
    (.op (some 179) (.bslice 4 2 (List.replicate 8 (Cell.int .i64 0)) [(0, 4), (4, 4)]) [(.t 174), (.t 178)]
    (.op (some 180) (.bslice 1 2 ([Cell.nils, Cell.nils]) [(0, 1), (1, 1)]) [(.t 170), (.t 179)]
    (.op (some 181) (.build ([Cell.int .i64 0, Cell.nils]) [(0, 1), (1, 1)]) [(.t 162), (.t 180)]
    (.op (some 182) (.addr 3) [(.t 5)]
    (.op none (.stN (.slot 1) 2) [(.t 182), (.t 181)]
    .nil))))))))))))))))))))))))))
  .skip)))
  (.seq (.reg 48 false (.op (some 183) (.ldAll (.slot 1) 5) [(.t 5)]
    (.op none (.stAll (.slot 0) 5) [(.t 4), (.t 183)]
    .nil)))
  .ret))
def jacquardlaw3_Small_p1 : IC :=
  (.seq (.reg 8 false (.op (some 10) .mov [(.k (.c (.int .i64 0)))]
    .nil))
  (.seq (.seq (.reg 9 false (.op (some 11) .mov [(.k (.c (.int .i64 0)))]
    .nil))
  (.blk 0 (.loop [1, 4, 5, 7, 8, 9, 10, 11] [0, 1] [(1, [4, 5, 7], [0, 1])] jacquardlaw3_Small_b2)))
  jacquardlaw3_Small_p2))
def jacquardlaw3_Small : Fn := { np := 2, nt := 184, ns := 3, res := [.all (.slot 0) 4 5], gc := false, code :=
  (.seq (.reg 0 false (.op (some 2) .boxH [(.t 0)]
    (.al 4 0 ([Cell.str (ByteArray.mk #[]), Cell.nils, Cell.nils, Cell.int .i64 0, Cell.nils])
    .nil)))
  (.seq (.reg 1 false (.op (some 19) (.build ([Cell.str (ByteArray.mk #[]), Cell.nils, Cell.nils, Cell.int .i64 0, Cell.nils]) [(0, 1)]) [(.k (.c (.str (ByteArray.mk #[116]))))]
    (.al 5 1 ([Cell.str (ByteArray.mk #[]), Cell.nils, Cell.nils, Cell.int .i64 0, Cell.nils])
    (.op none (.stAll (.slot 1) 5) [(.t 5), (.t 19)]
    .nil))))
  (.seq (.reg 2 false (.op (some 6) (.allocH ([Cell.int .i64 0])) []
    (.op none (.st .heap) [(.t 6), (.k (.c (.int .i64 0)))]
    .nil)))
  (.seq (.reg 3 false (.op (some 20) (.mkfn 115) [(.t 6), (.t 2)]
    (.op (some 7) .mov [(.t 20)]
    .nil)))
  (.seq (.reg 4 false (.op (some 21) .mov [(.t 7)]
    (.op (some 22) (.callv [(.i .i64)]) [(.t 21)]
    (.op (some 23) (.bin .rem) [(.t 22), (.k (.c (.int .i64 2)))]
    (.op (some 24) (.bin .add) [(.t 23), (.k (.c (.int .i64 2)))]
    (.op (some 8) .mov [(.t 24)]
    .nil))))))
  (.seq (.reg 5 false (.op (some 25) .mov [(.t 7)]
    (.op (some 26) (.callv [(.i .i64)]) [(.t 25)]
    (.op (some 27) (.bin .rem) [(.t 26), (.k (.c (.int .i64 2)))]
    (.op (some 28) (.bin .add) [(.t 27), (.k (.c (.int .i64 2)))]
    (.op (some 9) .mov [(.t 28)]
    .nil))))))
  (.cut [1, 4, 5, 7, 8, 9] [0, 1] [] (.seq (.reg 6 false (.op (some 29) .mov [(.t 7)]
    (.op (some 30) (.callv [(.i .i64)]) [(.t 29)]
    (.op (some 31) (.bin .rem) [(.t 30), (.k (.c (.int .i64 4)))]
    (.op (some 32) (.bin .eql) [(.t 31), (.k (.c (.int .i64 0)))]
    .nil)))))
  (.cond (.t 32)
  (.reg 7 true (.op (some 33) (.addr 1) [(.t 5)]
    (.op (some 34) (.ld (.slot 1) .any) [(.t 33)]
    (.op (some 35) .mov [(.t 7)]
    (.op (some 36) (.callv [(.i .i64)]) [(.t 35)]
    (.op (some 37) (.bin .rem) [(.t 36), (.k (.c (.int .i64 3)))]
    (.op (some 38) (.build ([Cell.int .i64 0, Cell.int .i64 0]) [(0, 1), (1, 1)]) [(.k (.c (.int .i64 120))), (.t 37)]
    (.op (some 39) (.lit 2 1 ([Cell.int .i64 0, Cell.int .i64 0]) [(0, 2)]) [(.t 38)]
    (.op (some 40) (.app 2 16) [(.t 34), (.t 39)]
    (.op (some 41) (.addr 1) [(.t 5)]
    (.op none (.st (.slot 1)) [(.t 41), (.t 40)]
    .nil)))))))))))
  .skip))
  jacquardlaw3_Small_p1))))))) }

/- jacquard/jacquardlaw3.Small$1: 115 -/
def jacquardlaw3_Small_1 : Fn := { np := 2, nt := 15, ns := 0, res := [.t 2 (.i .i64)], gc := false, code :=
  (.seq (.reg 0 false (.op (some 2) .mov [(.k (.c (.int .i64 0)))]
    .nil))
  (.seq (.reg 1 false (.op (some 3) (.ld .heap (.i .i64)) [(.t 0)]
    (.op (some 4) (.bin .add) [(.t 3), (.k (.c (.int .i64 1)))]
    (.op none (.st .heap) [(.t 0), (.t 4)]
    .nil))))
  (.seq (.seq (.reg 2 false (.op (some 5) (.ld .heap (.i .i64)) [(.t 0)]
    (.op (some 6) (.ld .heap .any) [(.t 1)]
    (.op (some 7) .len [(.t 6)]
    (.op (some 8) (.bin .gtr) [(.t 5), (.t 7)]
    .nil)))))
  (.cond (.t 8)
  (.seq (.reg 3 false (.op (some 2) .mov [(.k (.c (.int .i64 0)))]
    .nil))
  .ret)
  .skip))
  (.seq (.reg 4 false (.op (some 9) (.ld .heap .any) [(.t 1)]
    (.op (some 10) (.ld .heap (.i .i64)) [(.t 0)]
    (.op (some 11) (.bin .sub) [(.t 10), (.k (.c (.int .i64 1)))]
    (.op (some 12) (.idxS 1) [(.t 9), (.t 11)]
    (.op (some 13) (.ld .heap (.i .i64)) [(.t 12)]
    (.op (some 14) (.bin .and) [(.t 13), (.k (.c (.int .i64 65535)))]
    (.op (some 2) .mov [(.t 14)]
    .nil))))))))
  .ret)))) }


end Jq

/- What a function needs of an environment. -/
namespace Jq
open Go

structure jacquardlaw3_Small_1_In (E : Env) : Prop where
  fn : E.fn 115 = some jacquardlaw3_Small_1

structure jacquardlaw3_Small_In (E : Env) : Prop where
  fn : E.fn 97 = some jacquardlaw3_Small
  c115 : jacquardlaw3_Small_1_In E

end Jq

namespace Jq
open Go


end Jq

/- What a function needs of an environment. -/
namespace Jq
open Go


end Jq

namespace Jq
open Go


end Jq

/- What a function needs of an environment. -/
namespace Jq
open Go


end Jq

namespace Jq
open Go


end Jq

/- What a function needs of an environment. -/
namespace Jq
open Go


end Jq

/- What a function needs of an environment. -/
namespace Jq
open Go


end Jq

namespace Jq
open Go

/- jacquard/jacquardref16.Name: 168 -/
def jacquardref16_Name : Fn := { np := 1, nt := 59, ns := 0, res := [.t 2 .s], gc := false, code :=
  (.seq (.reg 0 false (.op (some 2) .mov [(.k (.c (.str (ByteArray.mk #[]))))]
    .nil))
  (.seq (.reg 1 false (.op (some 3) .mov [(.k (.c (.str (ByteArray.mk #[48, 49, 50, 51, 52, 53, 54, 55, 56, 57]))))]
    .nil))
  (.seq (.blk 0 (.seq (.reg 2 false (.op (some 7) .mov [(.t 0)]
    (.op (some 8) (.bin .geq) [(.t 7), (.k (.c (.int .i64 0)))]
    (.op (some 9) .mov [(.t 8)]
    (.sc 9 true (.op (some 10) .mov [(.t 0)]
    (.op (some 11) (.bin .lss) [(.t 10), (.k (.c (.int .i64 4)))]
    .nil)) 11 12 false
    (.op (some 6) .mov [(.t 12)]
    .nil))))))
  (.cond (.t 6)
  (.seq (.reg 3 false (.op (some 13) .mov [(.t 3)]
    (.op (some 14) .mov [(.t 0)]
    (.op (some 15) .mov [(.t 0)]
    (.op (some 16) (.bin .add) [(.t 15), (.k (.c (.int .i64 1)))]
    (.op (some 17) (.slcStr true true) [(.t 13), (.t 14), (.t 16)]
    (.op (some 18) (.bin .add) [(.k (.c (.str (ByteArray.mk #[116])))), (.t 17)]
    (.op (some 2) .mov [(.t 18)]
    .nil))))))))
  .ret)
  (.seq (.reg 4 false (.op (some 20) .mov [(.t 0)]
    (.op (some 21) (.bin .geq) [(.t 20), (.k (.c (.int .i64 4)))]
    (.op (some 22) .mov [(.t 21)]
    (.sc 22 true (.op (some 23) .mov [(.t 0)]
    (.op (some 24) (.bin .lss) [(.t 23), (.k (.c (.int .i64 8)))]
    .nil)) 24 25 false
    (.op (some 19) .mov [(.t 25)]
    .nil))))))
  (.cond (.t 19)
  (.seq (.reg 5 false (.op (some 26) .mov [(.t 3)]
    (.op (some 27) .mov [(.t 0)]
    (.op (some 28) (.bin .sub) [(.t 27), (.k (.c (.int .i64 4)))]
    (.op (some 29) .mov [(.t 0)]
    (.op (some 30) (.bin .sub) [(.t 29), (.k (.c (.int .i64 3)))]
    (.op (some 31) (.slcStr true true) [(.t 26), (.t 28), (.t 30)]
    (.op (some 32) (.bin .add) [(.k (.c (.str (ByteArray.mk #[102])))), (.t 31)]
    (.op (some 2) .mov [(.t 32)]
    .nil)))))))))
  .ret)
  (.seq (.reg 6 false (.op (some 34) .mov [(.t 0)]
    (.op (some 35) (.bin .geq) [(.t 34), (.k (.c (.int .i64 8)))]
    (.op (some 36) .mov [(.t 35)]
    (.sc 36 true (.op (some 37) .mov [(.t 0)]
    (.op (some 38) (.bin .lss) [(.t 37), (.k (.c (.int .i64 24)))]
    .nil)) 38 39 false
    (.op (some 33) .mov [(.t 39)]
    .nil))))))
  (.cond (.t 33)
  (.seq (.reg 7 false (.op (some 40) .mov [(.t 0)]
    (.op (some 41) (.bin .sub) [(.t 40), (.k (.c (.int .i64 8)))]
    (.op (some 42) (.bin .quo) [(.t 41), (.k (.c (.int .i64 4)))]
    (.op (some 43) .mov [(.t 0)]
    (.op (some 44) (.bin .sub) [(.t 43), (.k (.c (.int .i64 8)))]
    (.op (some 45) (.bin .rem) [(.t 44), (.k (.c (.int .i64 4)))]
    (.op (some 4) .mov [(.t 42)]
    (.op (some 5) .mov [(.t 45)]
    .nil)))))))))
  (.seq (.reg 8 true (.op (some 46) .mov [(.t 3)]
    (.op (some 47) .mov [(.t 4)]
    (.op (some 48) .mov [(.t 4)]
    (.op (some 49) (.bin .add) [(.t 48), (.k (.c (.int .i64 1)))]
    (.op (some 50) (.slcStr true true) [(.t 46), (.t 47), (.t 49)]
    (.op (some 51) (.bin .add) [(.k (.c (.str (ByteArray.mk #[102])))), (.t 50)]
    (.op (some 52) (.bin .add) [(.t 51), (.k (.c (.str (ByteArray.mk #[46]))))]
    (.op (some 53) .mov [(.t 3)]
    (.op (some 54) .mov [(.t 5)]
    (.op (some 55) .mov [(.t 5)]
    (.op (some 56) (.bin .add) [(.t 55), (.k (.c (.int .i64 1)))]
    (.op (some 57) (.slcStr true true) [(.t 53), (.t 54), (.t 56)]
    (.op (some 58) (.bin .add) [(.t 52), (.t 57)]
    (.op (some 2) .mov [(.t 58)]
    .nil)))))))))))))))
  .ret))
  .skip)))))))
  (.seq (.reg 9 false (.op (some 2) .mov [(.k (.c (.str (ByteArray.mk #[]))))]
    .nil))
  .ret)))) }


end Jq

/- What a function needs of an environment. -/
namespace Jq
open Go

structure jacquardref16_Name_In (E : Env) : Prop where
  fn : E.fn 168 = some jacquardref16_Name

end Jq

namespace Jq
open Go

/- jacquard/play.Text: 262 -/
def play_Text_b1 : IC :=
  (.seq (.reg 3 false (.op (some 9) (.bin .lss) [(.t 8), (.t 7)]
    .nil))
  (.seq (.cond (.t 9)
  .skip
  (.exit 0))
  (.seq (.blk 1 (.seq (.reg 4 false (.op (some 10) (.idxS 1) [(.t 6), (.t 8)]
    (.op (some 11) (.ld .heap (.i .i64)) [(.t 10)]
    (.op (some 5) .mov [(.t 11)]
    .nil))))
  (.reg 5 false (.op (some 12) .mov [(.t 3)]
    (.op (some 13) .mov [(.t 5)]
    (.op (some 14) (.call 167 [.s]) [(.t 13)]
    (.op (some 15) (.lit 1 1 ([Cell.str (ByteArray.mk #[])]) [(0, 1)]) [(.t 14)]
    (.op (some 16) (.app 1 16) [(.t 12), (.t 15)]
    (.op (some 3) .mov [(.t 16)]
    .nil)))))))))
  (.reg 6 false (.op (some 17) (.bin .add) [(.t 8), (.k (.c (.int .i64 1)))]
    (.op (some 8) .mov [(.t 17)]
    .nil))))))
def play_Text_p1 : IC :=
  (.seq (.reg 7 false (.op (some 18) .mov [(.t 3)]
    (.op (some 19) (.call 272 [.s]) [(.t 18), (.k (.c (.str (ByteArray.mk #[32]))))]
    (.op (some 2) .mov [(.t 19)]
    .nil))))
  .ret)
def play_Text : Fn := { np := 1, nt := 20, ns := 0, res := [.t 2 .s], gc := false, code :=
  (.seq (.reg 0 false (.op (some 2) .mov [(.k (.c (.str (ByteArray.mk #[]))))]
    .nil))
  (.seq (.reg 1 false (.op (some 3) .mov [(.k (.c .nils))]
    .nil))
  (.seq (.seq (.reg 2 false (.op (some 6) .mov [(.t 0)]
    (.op (some 7) .len [(.t 6)]
    (.op (some 8) .mov [(.k (.c (.int .i64 0)))]
    .nil))))
  (.blk 0 (.loop [3, 6, 7, 8] [] [(1, [3], [])] play_Text_b1)))
  play_Text_p1))) }

/- jacquard/play.Run: 271 -/
def play_Run : Fn := { np := 3, nt := 24, ns := 1, res := [.t 6 .any, .t 7 (.i .i64), .t 8 .b], gc := false, code :=
  (.seq (.reg 0 false (.box 3 0 (.t 0)
    (.op (some 6) .mov [(.k (.c .nils))]
    (.op (some 7) .mov [(.k (.c (.int .i64 0)))]
    (.op (some 8) .mov [(.k (.c (.bool false)))]
    .nil)))))
  (.seq (.reg 1 false (.op (some 11) (.ldAll (.slot 0) 3) [(.t 3)]
    (.op (some 12) .mov [(.t 1)]
    (.op (some 13) .mov [(.t 2)]
    (.op (some 14) (.call 278 [.any, (.i .i64)]) [(.t 11), (.t 12), (.t 13)]
    (.op (some 10) .mov [(.t 14)]
    (.op (some 15) (.ext 0) [(.t 10)]
    (.op (some 16) (.ext 1) [(.t 10)]
    (.op (some 9) .mov [(.t 15)]
    (.op (some 7) .mov [(.t 16)]
    .nil))))))))))
  (.seq (.seq (.reg 2 false (.op (some 17) .mov [(.t 9)]
    (.op (some 18) (.eqNil false) [(.t 17), (.k (.c .nilp))]
    .nil)))
  (.cond (.t 18)
  (.seq (.reg 3 false (.op (some 6) .mov [(.k (.c .nils))]
    (.op (some 7) .mov [(.k (.c (.int .i64 0)))]
    (.op (some 8) .mov [(.k (.c (.bool false)))]
    .nil))))
  .ret)
  .skip))
  (.seq (.reg 4 false (.op (some 19) .mov [(.t 9)]
    (.op (some 20) (.call 175 [.any]) [(.t 19)]
    (.op (some 21) .mov [(.t 7)]
    (.op (some 22) .mov [(.t 9)]
    (.op (some 23) (.call 174 [.b]) [(.t 22)]
    (.op (some 6) .mov [(.t 20)]
    (.op (some 7) .mov [(.t 21)]
    (.op (some 8) .mov [(.t 23)]
    .nil)))))))))
  .ret)))) }

/- jacquard/play.run: 278 -/
def play_run_b1 : IC :=
  (.seq (.reg 5 false (.op (some 25) (.bin .lss) [(.t 24), (.t 23)]
    .nil))
  (.seq (.cond (.t 25)
  .skip
  (.exit 0))
  (.seq (.blk 1 (.seq (.reg 6 false (.op (some 26) .mov [(.t 24)]
    (.op (some 27) (.idxS 1) [(.t 22), (.t 24)]
    (.op (some 28) (.ld .heap (.i .i64)) [(.t 27)]
    (.op (some 10) .mov [(.t 26)]
    (.op (some 11) .mov [(.t 28)]
    .nil))))))
  (.seq (.reg 7 false (.op (some 30) .mov [(.t 8)]
    (.op (some 31) .mov [(.t 11)]
    (.op (some 32) (.call 173 [.agg, .b]) [(.t 30), (.t 31)]
    (.op (some 29) .mov [(.t 32)]
    (.op (some 33) (.ext 0) [(.t 29)]
    (.op (some 34) (.ext 1) [(.t 29)]
    (.al 12 1 (List.replicate 7 (Cell.int .i64 0))
    (.op none (.stAll (.slot 1) 7) [(.t 12), (.t 33)]
    (.op (some 13) .mov [(.t 34)]
    .nil))))))))))
  (.seq (.reg 8 false (.op (some 35) .mov [(.t 13)]
    (.op (some 36) (.un .not) [(.t 35)]
    .nil)))
  (.cond (.t 36)
  (.seq (.reg 9 false (.op (some 37) .mov [(.t 8)]
    (.op (some 38) .mov [(.t 10)]
    (.op (some 6) .mov [(.t 37)]
    (.op (some 7) .mov [(.t 38)]
    .nil)))))
  .ret)
  .skip)))))
  (.reg 10 false (.op (some 39) (.bin .add) [(.t 24), (.k (.c (.int .i64 1)))]
    (.op (some 24) .mov [(.t 39)]
    .nil))))))
def play_run_p1 : IC :=
  (.seq (.reg 11 false (.op (some 40) .mov [(.t 8)]
    (.op (some 41) .mov [(.t 2)]
    (.op (some 42) .len [(.t 41)]
    (.op (some 6) .mov [(.t 40)]
    (.op (some 7) .mov [(.t 42)]
    .nil))))))
  .ret)
def play_run : Fn := { np := 3, nt := 43, ns := 2, res := [.t 6 .any, .t 7 (.i .i64)], gc := false, code :=
  (.seq (.reg 0 false (.box 3 0 (.t 0)
    (.op (some 6) .mov [(.k (.c .nilp))]
    (.op (some 7) .mov [(.k (.c (.int .i64 0)))]
    .nil))))
  (.seq (.reg 1 false (.op (some 15) (.ldAll (.slot 0) 3) [(.t 3)]
    (.op (some 16) .mov [(.t 1)]
    (.op (some 17) (.call 171 [.any, (.i .i64)]) [(.t 15), (.t 16)]
    (.op (some 14) .mov [(.t 17)]
    (.op (some 18) (.ext 0) [(.t 14)]
    (.op (some 19) (.ext 1) [(.t 14)]
    (.op (some 8) .mov [(.t 18)]
    (.op (some 9) .mov [(.t 19)]
    .nil)))))))))
  (.seq (.seq (.reg 2 false (.op (some 20) .mov [(.t 9)]
    (.op (some 21) (.bin .neq) [(.t 20), (.k (.c (.int .i64 0)))]
    .nil)))
  (.cond (.t 21)
  (.seq (.reg 3 false (.op (some 6) .mov [(.k (.c .nilp))]
    (.op (some 7) .mov [(.k (.c (.int .i64 0)))]
    .nil)))
  .ret)
  .skip))
  (.seq (.seq (.reg 4 false (.op (some 22) .mov [(.t 2)]
    (.op (some 23) .len [(.t 22)]
    (.op (some 24) .mov [(.k (.c (.int .i64 0)))]
    .nil))))
  (.blk 0 (.loop [2, 8, 22, 23, 24] [] [(0, [6, 7], []), (1, [2, 8], [])] play_run_b1)))
  play_run_p1)))) }


end Jq

namespace Jq
open Go

/- strings.Join: 272 -/
def strings_Join_b1 : IC :=
  (.seq (.reg 12 false (.op (some 42) (.bin .lss) [(.t 41), (.t 40)]
    .nil))
  (.seq (.cond (.t 42)
  .skip
  (.exit 1))
  (.seq (.blk 2 (.seq (.reg 13 false (.op (some 43) (.idxS 1) [(.t 39), (.t 41)]
    (.op (some 44) (.ld .heap .s) [(.t 43)]
    (.op (some 7) .mov [(.t 44)]
    .nil))))
  (.seq (.seq (.reg 14 false (.op (some 45) .mov [(.t 7)]
    (.op (some 46) .lenStr [(.t 45)]
    (.op (some 47) .mov [(.t 5)]
    (.op (some 48) (.bin .sub) [(.k (.c (.int .i64 9223372036854775807))), (.t 47)]
    (.op (some 49) (.bin .gtr) [(.t 46), (.t 48)]
    .nil))))))
  (.cond (.t 49)
  (.reg 15 false (.op (some 50) .trap []
    (.op none .trap []
    .nil)))
  .skip))
  (.reg 16 false (.op (some 51) .mov [(.t 5)]
    (.op (some 52) .mov [(.t 7)]
    (.op (some 53) .lenStr [(.t 52)]
    (.op (some 54) (.bin .add) [(.t 51), (.t 53)]
    (.op (some 5) .mov [(.t 54)]
    .nil)))))))))
  (.reg 17 false (.op (some 55) (.bin .add) [(.t 41), (.k (.c (.int .i64 1)))]
    (.op (some 41) .mov [(.t 55)]
    .nil))))))
def strings_Join_b2 : IC :=
  (.seq (.reg 22 false (.op (some 66) (.bin .lss) [(.t 65), (.t 64)]
    .nil))
  (.seq (.cond (.t 66)
  .skip
  (.exit 3))
  (.seq (.blk 4 (.seq (.reg 23 false (.op (some 67) (.idxS 1) [(.t 63), (.t 65)]
    (.op (some 68) (.ld .heap .s) [(.t 67)]
    (.op (some 10) .mov [(.t 68)]
    .nil))))
  (.seq (.reg 24 false (.op (some 69) .mov [(.t 1)]
    (.op (some 70) (.call 280 [(.i .i64), .any]) [(.t 8), (.t 69)]
    .nil)))
  (.reg 25 false (.op (some 71) .mov [(.t 10)]
    (.op (some 72) (.call 280 [(.i .i64), .any]) [(.t 8), (.t 71)]
    .nil))))))
  (.reg 26 false (.op (some 73) (.bin .add) [(.t 65), (.k (.c (.int .i64 1)))]
    (.op (some 65) .mov [(.t 73)]
    .nil))))))
def strings_Join_p3 : IC :=
  (.seq (.reg 27 false (.op (some 74) (.call 281 [.s]) [(.t 8)]
    (.op (some 4) .mov [(.t 74)]
    .nil)))
  .ret)
def strings_Join_p2 : IC :=
  (.seq (.reg 18 false (.op (some 8) (.allocH ([Cell.nilp, Cell.nils])) []
    .nil))
  (.seq (.reg 19 false (.op (some 56) .mov [(.t 5)]
    (.op (some 57) (.call 279 []) [(.t 8), (.t 56)]
    .nil)))
  (.seq (.reg 20 false (.op (some 58) .mov [(.t 0)]
    (.op (some 59) (.idxS 1) [(.t 58), (.k (.c (.int .i64 0)))]
    (.op (some 60) (.ld .heap .s) [(.t 59)]
    (.op (some 61) (.call 280 [(.i .i64), .any]) [(.t 8), (.t 60)]
    .nil)))))
  (.seq (.seq (.reg 21 false (.op (some 62) .mov [(.t 0)]
    (.op (some 63) (.slc 1 true false) [(.t 62), (.k (.c (.int .i64 1)))]
    (.op (some 64) .len [(.t 63)]
    (.op (some 65) .mov [(.k (.c (.int .i64 0)))]
    .nil)))))
  (.blk 3 (.loop [1, 8, 63, 64, 65] [] [(4, [8], [])] strings_Join_b2)))
  strings_Join_p3))))
def strings_Join_p1 : IC :=
  (.seq (.seq (.reg 11 false (.op (some 39) .mov [(.t 0)]
    (.op (some 40) .len [(.t 39)]
    (.op (some 41) .mov [(.k (.c (.int .i64 0)))]
    .nil))))
  (.blk 1 (.loop [0, 1, 5, 39, 40, 41] [] [(2, [0, 1, 5], [])] strings_Join_b1)))
  strings_Join_p2)
def strings_Join : Fn := { np := 2, nt := 75, ns := 0, res := [.t 4 .s], gc := true, code :=
  (.seq (.reg 0 false (.op (some 4) .mov [(.k (.c (.str (ByteArray.mk #[]))))]
    .nil))
  (.seq (.seq (.reg 1 false (.op (some 11) .mov [(.t 0)]
    (.op (some 12) .len [(.t 11)]
    .nil)))
  (.blk 0 (.seq (.reg 2 false (.op (some 14) (.bin .eql) [(.t 12), (.k (.c (.int .i64 0)))]
    (.op (some 13) .mov [(.t 14)]
    .nil)))
  (.cond (.t 13)
  (.seq (.reg 3 false (.op (some 4) .mov [(.k (.c (.str (ByteArray.mk #[]))))]
    .nil))
  .ret)
  (.seq (.reg 4 false (.op (some 16) (.bin .eql) [(.t 12), (.k (.c (.int .i64 1)))]
    (.op (some 15) .mov [(.t 16)]
    .nil)))
  (.cond (.t 15)
  (.seq (.reg 5 false (.op (some 17) .mov [(.t 0)]
    (.op (some 18) (.idxS 1) [(.t 17), (.k (.c (.int .i64 0)))]
    (.op (some 19) (.ld .heap .s) [(.t 18)]
    (.op (some 4) .mov [(.t 19)]
    .nil)))))
  .ret)
  .skip))))))
  (.seq (.reg 6 false (.op (some 5) .mov [(.k (.c (.int .i64 0)))]
    .nil))
  (.cut [0, 1, 5] [] [] (.seq (.reg 7 false (.op (some 20) .mov [(.t 1)]
    (.op (some 21) .lenStr [(.t 20)]
    (.op (some 22) (.bin .gtr) [(.t 21), (.k (.c (.int .i64 0)))]
    .nil))))
  (.cond (.t 22)
  (.seq (.seq (.reg 8 false (.op (some 23) .mov [(.t 1)]
    (.op (some 24) .lenStr [(.t 23)]
    (.op (some 25) .mov [(.t 0)]
    (.op (some 26) .len [(.t 25)]
    (.op (some 27) (.bin .sub) [(.t 26), (.k (.c (.int .i64 1)))]
    (.op (some 28) (.bin .quo) [(.k (.c (.int .i64 9223372036854775807))), (.t 27)]
    (.op (some 29) (.bin .geq) [(.t 24), (.t 28)]
    .nil))))))))
  (.cond (.t 29)
  (.reg 9 false (.op (some 30) .trap []
    (.op none .trap []
    .nil)))
  .skip))
  (.reg 10 false (.op (some 31) .mov [(.t 5)]
    (.op (some 32) .mov [(.t 1)]
    (.op (some 33) .lenStr [(.t 32)]
    (.op (some 34) .mov [(.t 0)]
    (.op (some 35) .len [(.t 34)]
    (.op (some 36) (.bin .sub) [(.t 35), (.k (.c (.int .i64 1)))]
    (.op (some 37) (.bin .mul) [(.t 33), (.t 36)]
    (.op (some 38) (.bin .add) [(.t 31), (.t 37)]
    (.op (some 5) .mov [(.t 38)]
    .nil)))))))))))
  .skip))
  strings_Join_p1)))) }


end Jq

namespace Jq
open Go


end Jq

/- What a function needs of an environment. -/
namespace Jq
open Go


end Jq

/- What a function needs of an environment. -/
namespace Jq
open Go

structure strings_Join_In (E : Env) : Prop where
  fn : E.fn 272 = some strings_Join

end Jq

namespace Jq
open Go

/- jacquard/vm.Name: 167 -/
def vm_Name : Fn := { np := 1, nt := 34, ns := 0, res := [.t 2 .s], gc := false, code :=
  (.seq (.reg 0 false (.op (some 2) .mov [(.k (.c (.str (ByteArray.mk #[]))))]
    .nil))
  (.seq (.blk 0 (.seq (.reg 1 false (.op (some 4) .mov [(.t 0)]
    (.op (some 5) (.bin .lss) [(.t 4), (.k (.c (.int .i64 0)))]
    (.op (some 6) .mov [(.t 5)]
    (.sc 6 false (.op (some 7) .mov [(.t 0)]
    (.op (some 8) (.bin .geq) [(.t 7), (.k (.c (.int .i64 24)))]
    .nil)) 8 9 true
    (.op (some 3) .mov [(.t 9)]
    .nil))))))
  (.cond (.t 3)
  (.seq (.reg 2 false (.op (some 2) .mov [(.k (.c (.str (ByteArray.mk #[]))))]
    .nil))
  .ret)
  (.seq (.reg 3 false (.op (some 11) .mov [(.t 0)]
    (.op (some 12) (.bin .lss) [(.t 11), (.k (.c (.int .i64 4)))]
    (.op (some 10) .mov [(.t 12)]
    .nil))))
  (.cond (.t 10)
  (.seq (.reg 4 false (.op (some 13) .mov [(.t 0)]
    (.op (some 14) (.call 45 [.s]) [(.t 13)]
    (.op (some 15) (.bin .add) [(.k (.c (.str (ByteArray.mk #[116])))), (.t 14)]
    (.op (some 2) .mov [(.t 15)]
    .nil)))))
  .ret)
  (.seq (.reg 5 false (.op (some 17) .mov [(.t 0)]
    (.op (some 18) (.bin .lss) [(.t 17), (.k (.c (.int .i64 8)))]
    (.op (some 16) .mov [(.t 18)]
    .nil))))
  (.cond (.t 16)
  (.seq (.reg 6 false (.op (some 19) .mov [(.t 0)]
    (.op (some 20) (.bin .sub) [(.t 19), (.k (.c (.int .i64 4)))]
    (.op (some 21) (.call 45 [.s]) [(.t 20)]
    (.op (some 22) (.bin .add) [(.k (.c (.str (ByteArray.mk #[102])))), (.t 21)]
    (.op (some 2) .mov [(.t 22)]
    .nil))))))
  .ret)
  .skip)))))))
  (.seq (.reg 7 false (.op (some 23) .mov [(.t 0)]
    (.op (some 24) (.bin .sub) [(.t 23), (.k (.c (.int .i64 8)))]
    (.op (some 25) (.bin .quo) [(.t 24), (.k (.c (.int .i64 4)))]
    (.op (some 26) (.call 45 [.s]) [(.t 25)]
    (.op (some 27) (.bin .add) [(.k (.c (.str (ByteArray.mk #[102])))), (.t 26)]
    (.op (some 28) (.bin .add) [(.t 27), (.k (.c (.str (ByteArray.mk #[46]))))]
    (.op (some 29) .mov [(.t 0)]
    (.op (some 30) (.bin .sub) [(.t 29), (.k (.c (.int .i64 8)))]
    (.op (some 31) (.bin .rem) [(.t 30), (.k (.c (.int .i64 4)))]
    (.op (some 32) (.call 45 [.s]) [(.t 31)]
    (.op (some 33) (.bin .add) [(.t 28), (.t 32)]
    (.op (some 2) .mov [(.t 33)]
    .nil)))))))))))))
  .ret))) }

/- jacquard/vm.New: 171 -/
def vm_New_b1 : IC :=
  (.seq (.reg 5 false (.op (some 25) (.bin .lss) [(.t 24), (.k (.c (.int .i64 4)))]
    .nil))
  (.seq (.cond (.t 25)
  .skip
  (.exit 0))
  (.seq (.blk 1 (.seq (.reg 6 false (.op (some 26) .mov [(.t 24)]
    (.op (some 7) .mov [(.t 26)]
    .nil)))
  (.seq (.reg 7 true (.op (some 27) .mov [(.t 6)]
    (.op (some 28) .mov [(.t 7)]
    (.op (some 29) .mov [(.t 6)]
    (.op (some 30) .nilchk [(.t 29)]
    (.op (some 31) (.addr 0) [(.t 30)]
    (.op (some 32) (.ldN .heap 3) [(.t 31)]
    (.op (some 33) .mov [(.t 7)]
    (.op (some 34) (.qcall 94 [.agg]) [(.t 32), (.t 33)]
    (.op (some 35) .nilchk [(.t 27)]
    (.op (some 36) (.addr 4) [(.t 35)]
    (.op (some 37) (.idxA 4 5) [(.t 36), (.t 28)]
    (.op none (.stN .heap 5) [(.t 37), (.t 34)]
    .nil)))))))))))))
  (.seq (.reg 8 true (.op (some 38) .mov [(.t 6)]
    (.op (some 39) .mov [(.t 7)]
    (.op (some 40) .mov [(.t 1)]
    (.op (some 41) (.qcall 190 [.agg]) [(.t 40)]
    (.op (some 42) .nilchk [(.t 38)]
    (.op (some 43) (.addr 32) [(.t 42)]
    (.op (some 44) (.idxA 4 74) [(.t 43), (.t 39)]
    (.op none (.stN .heap 74) [(.t 44), (.t 41)]
    .nil)))))))))
  (.reg 9 false (.op (some 45) .mov [(.t 6)]
    (.op (some 46) .mov [(.t 7)]
    (.op (some 47) .nilchk [(.t 45)]
    (.op (some 48) (.addr 28) [(.t 47)]
    (.op (some 49) (.idxA 4 1) [(.t 48), (.t 46)]
    (.op none (.st .heap) [(.t 49), (.k (.c (.int .i64 (-1))))]
    .nil)))))))))))
  (.reg 10 false (.op (some 50) (.bin .add) [(.t 24), (.k (.c (.int .i64 1)))]
    (.op (some 24) .mov [(.t 50)]
    .nil))))))
def vm_New_p1 : IC :=
  (.seq (.reg 11 true (.op (some 51) .mov [(.t 6)]
    (.op (some 52) .nilchk [(.t 51)]
    (.op (some 53) (.addr 24) [(.t 52)]
    (.op (some 54) (.slcA 4 1 false false) [(.t 53)]
    (.op (some 55) (.addr 1) [(.t 2)]
    (.op (some 56) (.ld (.slot 0) .any) [(.t 55)]
    (.op (some 57) (.copy 1) [(.t 54), (.t 56)]
    .nil))))))))
  (.seq (.reg 12 false (.op (some 58) .mov [(.t 6)]
    (.op (some 4) .mov [(.t 58)]
    (.op (some 5) .mov [(.k (.c (.int .i64 0)))]
    .nil))))
  .ret))
def vm_New : Fn := { np := 2, nt := 59, ns := 1, res := [.t 4 .any, .t 5 (.i .i64)], gc := false, code :=
  (.seq (.reg 0 false (.box 2 0 (.t 0)
    (.op (some 4) .mov [(.k (.c .nilp))]
    (.op (some 5) .mov [(.k (.c (.int .i64 0)))]
    .nil))))
  (.seq (.seq (.reg 1 false (.op (some 8) .mov [(.t 1)]
    (.op (some 9) (.bin .lss) [(.t 8), (.k (.c (.int .i64 1)))]
    (.op (some 10) .mov [(.t 9)]
    (.sc 10 false (.op (some 11) .mov [(.t 1)]
    (.op (some 12) (.bin .gtr) [(.t 11), (.k (.c (.int .i64 3)))]
    .nil)) 12 13 true
    (.op (some 14) .mov [(.t 13)]
    (.sc 14 false (.op (some 15) (.ldAll (.slot 0) 3) [(.t 2)]
    (.op (some 16) (.call 188 [.b]) [(.t 15)]
    (.op (some 17) (.un .not) [(.t 16)]
    .nil))) 17 18 true
    .nil)))))))
  (.cond (.t 18)
  (.seq (.reg 2 false (.op (some 4) .mov [(.k (.c .nilp))]
    (.op (some 5) .mov [(.k (.c (.int .i64 1)))]
    .nil)))
  .ret)
  .skip))
  (.seq (.reg 3 false (.op (some 19) (.ldAll (.slot 0) 3) [(.t 2)]
    (.op (some 20) (.call 189 [.agg]) [(.t 19)]
    (.op (some 21) .mov [(.t 1)]
    (.op (some 22) (.build ([Cell.nils, Cell.nils, Cell.nils] ++ List.replicate 325 (Cell.int .i64 0) ++ [Cell.nils]) [(0, 3), (3, 1)]) [(.t 20), (.t 21)]
    (.op (some 23) .boxH [(.t 22)]
    (.op (some 6) .mov [(.t 23)]
    .nil)))))))
  (.seq (.seq (.reg 4 false (.op (some 24) .mov [(.k (.c (.int .i64 0)))]
    .nil))
  (.blk 0 (.loop [1, 2, 6, 24] [0] [(1, [2, 6], [0])] vm_New_b1)))
  vm_New_p1)))) }

/- (*jacquard/vm.VM).Enabled: 172 -/
def vm_VM_Enabled_b1 : IC :=
  (.seq (.reg 12 false (.op (some 76) (.bin .lss) [(.t 75), (.k (.c (.int .i64 4)))]
    .nil))
  (.seq (.cond (.t 76)
  .skip
  (.exit 2))
  (.seq (.blk 3 (.seq (.reg 13 false (.op (some 77) .mov [(.t 75)]
    (.op (some 8) .mov [(.t 77)]
    .nil)))
  (.seq (.reg 14 false (.op (some 79) .mov [(.t 0)]
    (.op (some 80) .mov [(.t 4)]
    (.op (some 81) .nilchk [(.t 79)]
    (.op (some 82) (.addr 32) [(.t 81)]
    (.op (some 83) (.idxA 4 74) [(.t 82), (.t 80)]
    (.op (some 84) (.ldN .heap 74) [(.t 83)]
    (.op (some 85) .mov [(.t 8)]
    (.op (some 86) (.call 192 [(.i .i64), (.i .i64), (.i .i64), .b]) [(.t 84), (.t 85)]
    (.op (some 78) .mov [(.t 86)]
    (.op (some 87) (.ext 0) [(.t 78)]
    (.op (some 88) (.ext 1) [(.t 78)]
    (.op (some 89) (.ext 2) [(.t 78)]
    (.op (some 90) (.ext 3) [(.t 78)]
    (.op (some 9) .mov [(.t 87)]
    (.op (some 10) .mov [(.t 88)]
    (.op (some 11) .mov [(.t 89)]
    (.op (some 12) .mov [(.t 90)]
    .nil))))))))))))))))))
  (.seq (.reg 15 false (.op (some 91) .mov [(.t 0)]
    (.op (some 92) .nilchk [(.t 91)]
    (.op (some 93) (.addr 3) [(.t 92)]
    (.op (some 94) (.ld .heap (.i .i64)) [(.t 93)]
    (.op (some 95) (.bin .eql) [(.t 94), (.k (.c (.int .i64 3)))]
    (.op (some 96) .mov [(.t 95)]
    (.sc 96 true (.op (some 97) .mov [(.t 12)]
    .nil) 97 98 false
    .nil))))))))
  (.cond (.t 98)
  (.reg 16 false (.op (some 99) .mov [(.t 3)]
    (.op (some 100) .mov [(.t 4)]
    (.op (some 101) (.bin .mul) [(.k (.c (.int .i64 4))), (.t 100)]
    (.op (some 102) (.bin .add) [(.k (.c (.int .i64 8))), (.t 101)]
    (.op (some 103) .mov [(.t 8)]
    (.op (some 104) (.bin .add) [(.t 102), (.t 103)]
    (.op (some 105) (.call 18 [(.i .u64)]) [(.t 99), (.t 104)]
    (.op (some 3) .mov [(.t 105)]
    .nil)))))))))
  .skip)))))
  (.reg 17 false (.op (some 106) (.bin .add) [(.t 75), (.k (.c (.int .i64 1)))]
    (.op (some 75) .mov [(.t 106)]
    .nil))))))
def vm_VM_Enabled_p3 : IC :=
  (.seq (.seq (.reg 9 false (.op (some 56) .mov [(.t 0)]
    (.op (some 57) .nilchk [(.t 56)]
    (.op (some 58) (.addr 3) [(.t 57)]
    (.op (some 59) (.ld .heap (.i .i64)) [(.t 58)]
    (.op (some 60) (.bin .eql) [(.t 59), (.k (.c (.int .i64 2)))]
    (.op (some 61) .mov [(.t 60)]
    (.sc 61 true (.op (some 62) .mov [(.t 0)]
    (.op (some 63) .mov [(.t 4)]
    (.op (some 64) .nilchk [(.t 62)]
    (.op (some 65) (.addr 32) [(.t 64)]
    (.op (some 66) (.idxA 4 74) [(.t 65), (.t 63)]
    (.op (some 67) (.ldN .heap 74) [(.t 66)]
    (.op (some 68) (.call 191 [.b]) [(.t 67)]
    (.op (some 69) (.un .not) [(.t 68)]
    .nil)))))))) 69 70 false
    .nil))))))))
  (.cond (.t 70)
  (.reg 10 false (.op (some 71) .mov [(.t 3)]
    (.op (some 72) .mov [(.t 4)]
    (.op (some 73) (.bin .add) [(.k (.c (.int .i64 4))), (.t 72)]
    (.op (some 74) (.call 18 [(.i .u64)]) [(.t 71), (.t 73)]
    (.op (some 3) .mov [(.t 74)]
    .nil))))))
  .skip))
  (.seq (.reg 11 false (.op (some 75) .mov [(.k (.c (.int .i64 0)))]
    .nil))
  (.blk 2 (.loop [0, 3, 4, 13, 75] [] [(3, [0, 3, 13], [])] vm_VM_Enabled_b1))))
def vm_VM_Enabled_p2 : IC :=
  (.reg 18 false (.op (some 107) (.bin .add) [(.t 13), (.k (.c (.int .i64 1)))]
    (.op (some 13) .mov [(.t 107)]
    .nil)))
def vm_VM_Enabled_b2 : IC :=
  (.seq (.reg 3 false (.op (some 14) (.bin .lss) [(.t 13), (.k (.c (.int .i64 4)))]
    .nil))
  (.seq (.cond (.t 14)
  .skip
  (.exit 0))
  (.seq (.blk 1 (.seq (.reg 4 false (.op (some 15) .mov [(.t 13)]
    (.op (some 4) .mov [(.t 15)]
    .nil)))
  (.seq (.reg 5 true (.op (some 17) .mov [(.t 0)]
    (.op (some 18) .nilchk [(.t 17)]
    (.op (some 19) (.addr 0) [(.t 18)]
    (.op (some 20) (.ldN .heap 3) [(.t 19)]
    (.op (some 21) .mov [(.t 4)]
    (.op (some 22) .mov [(.t 0)]
    (.op (some 23) .mov [(.t 4)]
    (.op (some 24) .nilchk [(.t 22)]
    (.op (some 25) (.addr 4) [(.t 24)]
    (.op (some 26) (.idxA 4 5) [(.t 25), (.t 23)]
    (.op (some 27) (.ldN .heap 5) [(.t 26)]
    (.op (some 28) (.qcall 105 [.agg, .b]) [(.t 20), (.t 21), (.t 27)]
    (.op (some 16) .mov [(.t 28)]
    (.op (some 29) (.ext 0) [(.t 16)]
    (.op (some 30) (.ext 1) [(.t 16)]
    (.al 5 0 (List.replicate 9 (Cell.int .i64 0))
    (.op none (.stAll (.slot 0) 9) [(.t 5), (.t 29)]
    (.op (some 6) .mov [(.t 30)]
    .nil)))))))))))))))))))
  (.seq (.reg 6 false (.op (some 31) (.addr 0) [(.t 5)]
    (.op (some 32) (.ld (.slot 0) (.i .i64)) [(.t 31)]
    (.op (some 33) (.bin .eql) [(.t 32), (.k (.c (.int .i64 3)))]
    (.op (some 34) .mov [(.t 33)]
    (.sc 34 false (.op (some 35) (.addr 0) [(.t 5)]
    (.op (some 36) (.ld (.slot 0) (.i .i64)) [(.t 35)]
    (.op (some 37) (.bin .eql) [(.t 36), (.k (.c (.int .i64 4)))]
    .nil))) 37 38 true
    (.op (some 7) .mov [(.t 38)]
    .nil)))))))
  (.cut [0, 3, 4, 13] [] [] (.seq (.reg 7 false (.op (some 39) .mov [(.t 6)]
    (.op (some 40) .mov [(.t 39)]
    (.sc 40 true (.op (some 41) .mov [(.t 7)]
    (.op (some 42) (.un .not) [(.t 41)]
    (.op (some 43) .mov [(.t 42)]
    (.sc 43 false (.op (some 44) .mov [(.t 0)]
    (.op (some 45) .mov [(.t 4)]
    (.op (some 46) .nilchk [(.t 44)]
    (.op (some 47) (.addr 32) [(.t 46)]
    (.op (some 48) (.idxA 4 74) [(.t 47), (.t 45)]
    (.op (some 49) (.ldN .heap 74) [(.t 48)]
    (.op (some 50) (.call 191 [.b]) [(.t 49)]
    .nil))))))) 50 51 true
    .nil)))) 51 52 false
    .nil))))
  (.cond (.t 52)
  (.reg 8 false (.op (some 53) .mov [(.t 3)]
    (.op (some 54) .mov [(.t 4)]
    (.op (some 55) (.call 18 [(.i .u64)]) [(.t 53), (.t 54)]
    (.op (some 3) .mov [(.t 55)]
    .nil)))))
  .skip))
  vm_VM_Enabled_p3)))))
  vm_VM_Enabled_p2)))
def vm_VM_Enabled_p1 : IC :=
  (.seq (.reg 19 false (.op (some 108) .mov [(.t 3)]
    (.op (some 2) .mov [(.t 108)]
    .nil)))
  .ret)
def vm_VM_Enabled : Fn := { np := 1, nt := 109, ns := 1, res := [.t 2 (.i .u64)], gc := false, code :=
  (.seq (.reg 0 false (.op (some 2) .mov [(.k (.c (.int .u64 0)))]
    .nil))
  (.seq (.reg 1 false (.op (some 3) .mov [(.k (.c (.int .u64 0)))]
    .nil))
  (.seq (.seq (.reg 2 false (.op (some 13) .mov [(.k (.c (.int .i64 0)))]
    .nil))
  (.blk 0 (.loop [0, 3, 13] [] [(1, [3], [])] vm_VM_Enabled_b2)))
  vm_VM_Enabled_p1))) }

/- (*jacquard/vm.VM).Pick: 173 -/
def vm_VM_Pick : Fn := { np := 2, nt := 47, ns := 2, res := [.all (.slot 0) 4 7, .t 5 .b], gc := false, code :=
  (.seq (.reg 0 false (.al 4 0 (List.replicate 7 (Cell.int .i64 0))
    (.op (some 5) .mov [(.k (.c (.bool false)))]
    .nil)))
  (.seq (.seq (.reg 1 false (.op (some 7) .mov [(.t 0)]
    (.op (some 8) (.call 172 [(.i .u64)]) [(.t 7)]
    (.op (some 9) .mov [(.t 1)]
    (.op (some 10) (.call 17 [.b]) [(.t 8), (.t 9)]
    (.op (some 11) (.un .not) [(.t 10)]
    .nil))))))
  (.cond (.t 11)
  (.seq (.reg 2 false (.op (some 12) (.build (List.replicate 7 (Cell.int .i64 0)) []) []
    (.op none (.stAll (.slot 0) 7) [(.t 4), (.t 12)]
    (.op (some 5) .mov [(.k (.c (.bool false)))]
    .nil))))
  .ret)
  .skip))
  (.seq (.reg 3 false (.al 6 1 (List.replicate 7 (Cell.int .i64 0))
    .nil))
  (.seq (.blk 0 (.seq (.reg 5 false (.op (some 22) .mov [(.t 1)]
    (.op (some 23) (.bin .lss) [(.t 22), (.k (.c (.int .i64 4)))]
    (.op (some 21) .mov [(.t 23)]
    .nil))))
  (.cond (.t 21)
  (.reg 6 false (.op (some 24) .mov [(.t 0)]
    (.op (some 25) .mov [(.t 1)]
    (.op (some 26) (.call 193 [.agg]) [(.t 24), (.t 25)]
    (.op none (.stAll (.slot 1) 7) [(.t 6), (.t 26)]
    .nil)))))
  (.seq (.reg 7 false (.op (some 28) .mov [(.t 1)]
    (.op (some 29) (.bin .lss) [(.t 28), (.k (.c (.int .i64 8)))]
    (.op (some 27) .mov [(.t 29)]
    .nil))))
  (.cond (.t 27)
  (.reg 8 false (.op (some 30) .mov [(.t 0)]
    (.op (some 31) .mov [(.t 1)]
    (.op (some 32) (.bin .sub) [(.t 31), (.k (.c (.int .i64 4)))]
    (.op (some 33) (.call 194 [.agg]) [(.t 30), (.t 32), (.k (.c (.int .i64 0)))]
    (.op none (.stAll (.slot 1) 7) [(.t 6), (.t 33)]
    .nil))))))
  (.reg 4 false (.op (some 13) .mov [(.t 0)]
    (.op (some 14) .mov [(.t 1)]
    (.op (some 15) (.bin .sub) [(.t 14), (.k (.c (.int .i64 8)))]
    (.op (some 16) (.bin .quo) [(.t 15), (.k (.c (.int .i64 4)))]
    (.op (some 17) .mov [(.t 1)]
    (.op (some 18) (.bin .sub) [(.t 17), (.k (.c (.int .i64 8)))]
    (.op (some 19) (.bin .rem) [(.t 18), (.k (.c (.int .i64 4)))]
    (.op (some 20) (.call 194 [.agg]) [(.t 13), (.t 16), (.t 19)]
    (.op none (.stAll (.slot 1) 7) [(.t 6), (.t 20)]
    .nil)))))))))))))))
  (.seq (.reg 9 false (.op (some 34) .mov [(.t 1)]
    (.op (some 35) (.addr 0) [(.t 6)]
    (.op none (.st (.slot 1)) [(.t 35), (.t 34)]
    .nil))))
  (.seq (.reg 10 true (.op (some 36) .mov [(.t 0)]
    (.op (some 37) .mov [(.t 0)]
    (.op (some 38) .nilchk [(.t 37)]
    (.op (some 39) (.addr 328) [(.t 38)]
    (.op (some 40) (.ld .heap .any) [(.t 39)]
    (.op (some 41) (.ldAll (.slot 1) 7) [(.t 6)]
    (.op (some 42) (.lit 7 1 (List.replicate 7 (Cell.int .i64 0)) [(0, 7)]) [(.t 41)]
    (.op (some 43) (.app 7 56) [(.t 40), (.t 42)]
    (.op (some 44) .nilchk [(.t 36)]
    (.op (some 45) (.addr 328) [(.t 44)]
    (.op none (.st .heap) [(.t 45), (.t 43)]
    .nil))))))))))))
  (.seq (.reg 11 false (.op (some 46) (.ldAll (.slot 1) 7) [(.t 6)]
    (.op none (.stAll (.slot 0) 7) [(.t 4), (.t 46)]
    (.op (some 5) .mov [(.k (.c (.bool true)))]
    .nil))))
  .ret))))))) }

/- (*jacquard/vm.VM).Done: 174 -/
def vm_VM_Done : Fn := { np := 1, nt := 6, ns := 0, res := [.t 2 .b], gc := false, code :=
  (.seq (.reg 0 false (.op (some 2) .mov [(.k (.c (.bool false)))]
    .nil))
  (.seq (.reg 1 false (.op (some 3) .mov [(.t 0)]
    (.op (some 4) (.call 172 [(.i .u64)]) [(.t 3)]
    (.op (some 5) (.bin .eql) [(.t 4), (.k (.c (.int .u64 0)))]
    (.op (some 2) .mov [(.t 5)]
    .nil)))))
  .ret)) }

/- (*jacquard/vm.VM).Steps: 175 -/
def vm_VM_Steps : Fn := { np := 1, nt := 8, ns := 0, res := [.t 2 .any], gc := false, code :=
  (.seq (.reg 0 false (.op (some 2) .mov [(.k (.c .nils))]
    .nil))
  (.seq (.reg 1 false (.op (some 3) .mov [(.t 0)]
    (.op (some 4) .nilchk [(.t 3)]
    (.op (some 5) (.addr 328) [(.t 4)]
    (.op (some 6) (.ld .heap .any) [(.t 5)]
    (.op (some 7) (.call 195 [.any]) [(.t 6)]
    (.op (some 2) .mov [(.t 7)]
    .nil)))))))
  .ret)) }

/- jacquard/vm.copied: 189 -/
def vm_copied_b1 : IC :=
  (.seq (.reg 3 false (.op (some 17) (.bin .lss) [(.t 16), (.t 15)]
    .nil))
  (.seq (.cond (.t 17)
  .skip
  (.exit 0))
  (.seq (.blk 1 (.seq (.reg 4 false (.op (some 18) (.idxS 1) [(.t 14), (.t 16)]
    (.op (some 19) (.ld .heap .any) [(.t 18)]
    (.op (some 5) .mov [(.t 19)]
    .nil))))
  (.reg 5 true (.op (some 20) (.addr 2) [(.t 3)]
    (.op (some 21) (.ld (.slot 2) .any) [(.t 20)]
    (.op (some 22) .mov [(.t 5)]
    (.op (some 23) (.call 119 [.any]) [(.t 22)]
    (.op (some 24) (.lit 1 1 ([Cell.nils]) [(0, 1)]) [(.t 23)]
    (.op (some 25) (.app 1 24) [(.t 21), (.t 24)]
    (.op (some 26) (.addr 2) [(.t 3)]
    (.op none (.st (.slot 2)) [(.t 26), (.t 25)]
    .nil)))))))))))
  (.reg 6 false (.op (some 27) (.bin .add) [(.t 16), (.k (.c (.int .i64 1)))]
    (.op (some 16) .mov [(.t 27)]
    .nil))))))
def vm_copied_p1 : IC :=
  (.seq (.reg 7 false (.op (some 28) (.ldAll (.slot 2) 3) [(.t 3)]
    (.op none (.stAll (.slot 1) 3) [(.t 2), (.t 28)]
    .nil)))
  .ret)
def vm_copied : Fn := { np := 1, nt := 29, ns := 3, res := [.all (.slot 1) 2 3], gc := false, code :=
  (.seq (.reg 0 false (.box 1 0 (.t 0)
    (.al 2 1 ([Cell.nils, Cell.nils, Cell.nils])
    .nil)))
  (.seq (.reg 1 true (.op (some 6) (.addr 0) [(.t 1)]
    (.op (some 7) (.ld (.slot 0) .any) [(.t 6)]
    (.op (some 8) (.call 202 [.any]) [(.t 7)]
    (.op (some 9) (.addr 1) [(.t 1)]
    (.op (some 10) (.ld (.slot 0) .any) [(.t 9)]
    (.op (some 11) (.call 203 [.any]) [(.t 10)]
    (.op (some 12) (.build ([Cell.nils, Cell.nils, Cell.nils]) [(0, 1), (1, 1)]) [(.t 8), (.t 11)]
    (.al 3 2 ([Cell.nils, Cell.nils, Cell.nils])
    (.op none (.stAll (.slot 2) 3) [(.t 3), (.t 12)]
    .nil))))))))))
  (.seq (.seq (.reg 2 false (.op (some 13) (.addr 2) [(.t 1)]
    (.op (some 14) (.ld (.slot 0) .any) [(.t 13)]
    (.op (some 15) .len [(.t 14)]
    (.op (some 16) .mov [(.k (.c (.int .i64 0)))]
    .nil)))))
  (.blk 0 (.loop [2, 3, 14, 15, 16] [1, 2] [(1, [2, 3], [1, 2])] vm_copied_b1)))
  vm_copied_p1))) }

/- (*jacquard/vm.VM).thread: 193 -/
def vm_VM_thread_p2 : IC :=
  (.seq (.reg 10 false (.op (some 71) .mov [(.t 0)]
    (.op (some 72) .nilchk [(.t 71)]
    (.op (some 73) (.addr 328) [(.t 72)]
    (.op (some 74) (.ld .heap .any) [(.t 73)]
    (.op (some 75) .len [(.t 74)]
    (.op (some 15) .mov [(.t 75)]
    .nil)))))))
  (.seq (.blk 0 (.seq (.reg 11 false (.op (some 77) (.addr 2) [(.t 13)]
    (.op (some 78) (.ld (.slot 3) (.i .i64)) [(.t 77)]
    (.op (some 79) (.bin .eql) [(.t 78), (.k (.c (.int .i64 2)))]
    (.op (some 80) .mov [(.t 79)]
    (.sc 80 true (.op (some 81) .mov [(.t 0)]
    (.op (some 82) .nilchk [(.t 81)]
    (.op (some 83) (.addr 3) [(.t 82)]
    (.op (some 84) (.ld .heap (.i .i64)) [(.t 83)]
    (.op (some 85) (.bin .neq) [(.t 84), (.k (.c (.int .i64 1)))]
    .nil))))) 85 86 false
    (.op (some 76) .mov [(.t 86)]
    .nil)))))))
  (.cond (.t 76)
  (.reg 12 true (.op (some 87) .mov [(.t 0)]
    (.op (some 88) .mov [(.t 1)]
    (.op (some 89) .mov [(.t 0)]
    (.op (some 90) .mov [(.t 1)]
    (.op (some 91) .nilchk [(.t 89)]
    (.op (some 92) (.addr 32) [(.t 91)]
    (.op (some 93) (.idxA 4 74) [(.t 92), (.t 90)]
    (.op (some 94) (.ldN .heap 74) [(.t 93)]
    (.op (some 95) (.addr 3) [(.t 13)]
    (.op (some 96) (.ld (.slot 3) (.i .i64)) [(.t 95)]
    (.op (some 97) (.addr 5) [(.t 13)]
    (.op (some 98) (.ld (.slot 3) (.i .i64)) [(.t 97)]
    (.op (some 99) .mov [(.t 15)]
    (.op (some 100) (.qcall 206 [.agg]) [(.t 94), (.t 96), (.t 98), (.t 99)]
    (.op (some 101) .nilchk [(.t 87)]
    (.op (some 102) (.addr 32) [(.t 101)]
    (.op (some 103) (.idxA 4 74) [(.t 102), (.t 88)]
    (.op none (.stN .heap 74) [(.t 103), (.t 100)]
    .nil)))))))))))))))))))
  (.seq (.reg 13 false (.op (some 105) (.ldAll (.slot 3) 6) [(.t 13)]
    (.op (some 106) (.call 80 [.b]) [(.t 105)]
    (.op (some 104) .mov [(.t 106)]
    .nil))))
  (.cond (.t 104)
  (.reg 14 true (.op (some 107) .mov [(.t 0)]
    (.op (some 108) (.addr 3) [(.t 13)]
    (.op (some 109) (.ld (.slot 3) (.i .i64)) [(.t 108)]
    (.op (some 110) .mov [(.t 0)]
    (.op (some 111) (.addr 3) [(.t 13)]
    (.op (some 112) (.ld (.slot 3) (.i .i64)) [(.t 111)]
    (.op (some 113) (.addr 5) [(.t 13)]
    (.op (some 114) (.ld (.slot 3) (.i .i64)) [(.t 113)]
    (.op (some 115) .mov [(.t 15)]
    (.op (some 116) .nilchk [(.t 107)]
    (.op (some 117) (.addr 24) [(.t 116)]
    (.op (some 118) (.idxA 4 1) [(.t 117), (.t 109)]
    (.op none (.st .heap) [(.t 118), (.t 114)]
    (.op (some 119) .nilchk [(.t 110)]
    (.op (some 120) (.addr 28) [(.t 119)]
    (.op (some 121) (.idxA 4 1) [(.t 120), (.t 112)]
    (.op none (.st .heap) [(.t 121), (.t 115)]
    .nil))))))))))))))))))
  .skip)))))
  (.seq (.reg 15 true (.op (some 122) .mov [(.t 0)]
    (.op (some 123) .mov [(.t 1)]
    (.op (some 124) .mov [(.t 0)]
    (.op (some 125) .nilchk [(.t 124)]
    (.op (some 126) (.addr 0) [(.t 125)]
    (.op (some 127) (.ldN .heap 3) [(.t 126)]
    (.op (some 128) .mov [(.t 1)]
    (.op (some 129) (.ldAll (.slot 1) 5) [(.t 5)]
    (.op (some 130) .mov [(.t 8)]
    (.op (some 131) (.qcall 106 [.agg]) [(.t 127), (.t 128), (.t 129), (.t 130)]
    (.op (some 132) .nilchk [(.t 122)]
    (.op (some 133) (.addr 4) [(.t 132)]
    (.op (some 134) (.idxA 4 5) [(.t 133), (.t 123)]
    (.op none (.stN .heap 5) [(.t 134), (.t 131)]
    .nil)))))))))))))))
  (.seq (.reg 16 false (.op (some 135) .mov [(.t 1)]
    (.op (some 136) (.addr 2) [(.t 13)]
    (.op (some 137) (.ld (.slot 3) (.i .i64)) [(.t 136)]
    (.op (some 138) (.addr 3) [(.t 13)]
    (.op (some 139) (.ld (.slot 3) (.i .i64)) [(.t 138)]
    (.op (some 140) (.addr 4) [(.t 13)]
    (.op (some 141) (.ld (.slot 3) (.i .i64)) [(.t 140)]
    (.op (some 142) (.addr 5) [(.t 13)]
    (.op (some 143) (.ld (.slot 3) (.i .i64)) [(.t 142)]
    (.op (some 144) .mov [(.t 9)]
    (.op (some 145) (.build (List.replicate 7 (Cell.int .i64 0)) [(1, 1), (2, 1), (3, 1), (4, 1), (5, 1), (6, 1)]) [(.t 135), (.t 137), (.t 139), (.t 141), (.t 143), (.t 144)]
    (.op none (.stAll (.slot 0) 7) [(.t 4), (.t 145)]
    .nil)))))))))))))
  .ret))))
def vm_VM_thread_p1 : IC :=
  (.seq (.reg 7 false (.op (some 63) (.ldAll (.slot 2) 9) [(.t 6)]
    (.op (some 64) (.ldAll (.slot 1) 5) [(.t 5)]
    (.op (some 65) .mov [(.t 8)]
    (.op (some 66) (.call 109 [.agg, .b]) [(.t 63), (.t 64), (.t 65)]
    (.op (some 62) .mov [(.t 66)]
    (.op (some 67) (.ext 0) [(.t 62)]
    (.op (some 68) (.ext 1) [(.t 62)]
    (.al 13 3 ([Cell.int .i64 0, Cell.int .i64 0, Cell.int .i64 0, Cell.int .i64 0, Cell.int .i64 0, Cell.int .i64 0])
    (.op none (.stAll (.slot 3) 6) [(.t 13), (.t 67)]
    (.op (some 14) .mov [(.t 68)]
    .nil)))))))))))
  (.cut [0, 1, 4, 5, 8, 9, 13] [0, 1, 3] [] (.seq (.reg 8 false (.op (some 69) .mov [(.t 14)]
    (.op (some 70) (.un .not) [(.t 69)]
    .nil)))
  (.cond (.t 70)
  (.reg 9 false (.op (some 9) .mov [(.k (.c (.int .i64 (-1))))]
    .nil))
  .skip))
  vm_VM_thread_p2))
def vm_VM_thread : Fn := { np := 2, nt := 146, ns := 4, res := [.all (.slot 0) 4 7], gc := false, code :=
  (.seq (.reg 0 false (.al 4 0 (List.replicate 7 (Cell.int .i64 0))
    .nil))
  (.seq (.reg 1 false (.op (some 16) .mov [(.t 0)]
    (.op (some 17) .mov [(.t 1)]
    (.op (some 18) .nilchk [(.t 16)]
    (.op (some 19) (.addr 4) [(.t 18)]
    (.op (some 20) (.idxA 4 5) [(.t 19), (.t 17)]
    (.op (some 21) (.ldN .heap 5) [(.t 20)]
    (.al 5 1 ([Cell.int .i64 0, Cell.int .i64 0, Cell.int .i64 0, Cell.int .i64 0, Cell.int .i64 0])
    (.op none (.stAll (.slot 1) 5) [(.t 5), (.t 21)]
    .nil)))))))))
  (.seq (.reg 2 true (.op (some 23) .mov [(.t 0)]
    (.op (some 24) .nilchk [(.t 23)]
    (.op (some 25) (.addr 0) [(.t 24)]
    (.op (some 26) (.ldN .heap 3) [(.t 25)]
    (.op (some 27) .mov [(.t 1)]
    (.op (some 28) (.ldAll (.slot 1) 5) [(.t 5)]
    (.op (some 29) (.qcall 105 [.agg, .b]) [(.t 26), (.t 27), (.t 28)]
    (.op (some 22) .mov [(.t 29)]
    (.op (some 30) (.ext 0) [(.t 22)]
    (.op (some 31) (.ext 1) [(.t 22)]
    (.al 6 2 (List.replicate 9 (Cell.int .i64 0))
    (.op none (.stAll (.slot 2) 9) [(.t 6), (.t 30)]
    (.op (some 7) .mov [(.t 31)]
    .nil))))))))))))))
  (.seq (.reg 3 true (.op (some 32) .mov [(.t 0)]
    (.op (some 33) (.addr 2) [(.t 6)]
    (.op (some 34) (.ld (.slot 2) (.i .i64)) [(.t 33)]
    (.op (some 35) .nilchk [(.t 32)]
    (.op (some 36) (.addr 24) [(.t 35)]
    (.op (some 37) (.idxA 4 1) [(.t 36), (.t 34)]
    (.op (some 38) (.ld .heap (.i .i64)) [(.t 37)]
    (.op (some 39) .mov [(.t 0)]
    (.op (some 40) (.addr 2) [(.t 6)]
    (.op (some 41) (.ld (.slot 2) (.i .i64)) [(.t 40)]
    (.op (some 42) .nilchk [(.t 39)]
    (.op (some 43) (.addr 28) [(.t 42)]
    (.op (some 44) (.idxA 4 1) [(.t 43), (.t 41)]
    (.op (some 45) (.ld .heap (.i .i64)) [(.t 44)]
    (.op (some 8) .mov [(.t 38)]
    (.op (some 9) .mov [(.t 45)]
    .nil)))))))))))))))))
  (.cut [0, 1, 4, 5, 6, 8, 9] [0, 1, 2] [] (.seq (.reg 4 true (.op (some 47) .mov [(.t 0)]
    (.op (some 48) .mov [(.t 1)]
    (.op (some 49) .nilchk [(.t 47)]
    (.op (some 50) (.addr 32) [(.t 49)]
    (.op (some 51) (.idxA 4 74) [(.t 50), (.t 48)]
    (.op (some 52) (.ldN .heap 74) [(.t 51)]
    (.op (some 53) (.addr 2) [(.t 6)]
    (.op (some 54) (.ld (.slot 2) (.i .i64)) [(.t 53)]
    (.op (some 55) (.qcall 205 [(.i .i64), (.i .i64), .b]) [(.t 52), (.t 54)]
    (.op (some 46) .mov [(.t 55)]
    (.op (some 56) (.ext 0) [(.t 46)]
    (.op (some 57) (.ext 1) [(.t 46)]
    (.op (some 58) (.ext 2) [(.t 46)]
    (.op (some 10) .mov [(.t 56)]
    (.op (some 11) .mov [(.t 57)]
    (.op (some 12) .mov [(.t 58)]
    .nil)))))))))))))))))
  (.seq (.reg 5 false (.op (some 59) .mov [(.t 12)]
    .nil))
  (.cond (.t 59)
  (.reg 6 false (.op (some 60) .mov [(.t 10)]
    (.op (some 61) .mov [(.t 11)]
    (.op (some 8) .mov [(.t 60)]
    (.op (some 9) .mov [(.t 61)]
    .nil)))))
  .skip)))
  vm_VM_thread_p1))))) }

/- (*jacquard/vm.VM).flush: 194 -/
def vm_VM_flush : Fn := { np := 3, nt := 54, ns := 1, res := [.all (.slot 0) 6 7], gc := false, code :=
  (.seq (.reg 0 false (.al 6 0 (List.replicate 7 (Cell.int .i64 0))
    .nil))
  (.seq (.reg 1 false (.op (some 12) .mov [(.t 0)]
    (.op (some 13) .mov [(.t 1)]
    (.op (some 14) .nilchk [(.t 12)]
    (.op (some 15) (.addr 32) [(.t 14)]
    (.op (some 16) (.idxA 4 74) [(.t 15), (.t 13)]
    (.op (some 17) (.ldN .heap 74) [(.t 16)]
    (.op (some 18) .mov [(.t 2)]
    (.op (some 19) (.call 192 [(.i .i64), (.i .i64), (.i .i64), .b]) [(.t 17), (.t 18)]
    (.op (some 11) .mov [(.t 19)]
    (.op (some 20) (.ext 0) [(.t 11)]
    (.op (some 21) (.ext 1) [(.t 11)]
    (.op (some 22) (.ext 2) [(.t 11)]
    (.op (some 23) (.ext 3) [(.t 11)]
    (.op (some 7) .mov [(.t 20)]
    (.op (some 8) .mov [(.t 21)]
    (.op (some 9) .mov [(.t 22)]
    (.op (some 10) .mov [(.t 23)]
    .nil))))))))))))))))))
  (.seq (.reg 2 true (.op (some 24) .mov [(.t 0)]
    (.op (some 25) .mov [(.t 1)]
    (.op (some 26) .mov [(.t 0)]
    (.op (some 27) .mov [(.t 1)]
    (.op (some 28) .nilchk [(.t 26)]
    (.op (some 29) (.addr 32) [(.t 28)]
    (.op (some 30) (.idxA 4 74) [(.t 29), (.t 27)]
    (.op (some 31) (.ldN .heap 74) [(.t 30)]
    (.op (some 32) .mov [(.t 2)]
    (.op (some 33) (.qcall 207 [.agg]) [(.t 31), (.t 32)]
    (.op (some 34) .nilchk [(.t 24)]
    (.op (some 35) (.addr 32) [(.t 34)]
    (.op (some 36) (.idxA 4 74) [(.t 35), (.t 25)]
    (.op none (.stN .heap 74) [(.t 36), (.t 33)]
    .nil)))))))))))))))
  (.seq (.reg 3 true (.op (some 37) .mov [(.t 0)]
    (.op (some 38) .mov [(.t 7)]
    (.op (some 39) .mov [(.t 0)]
    (.op (some 40) .mov [(.t 7)]
    (.op (some 41) .mov [(.t 8)]
    (.op (some 42) .mov [(.t 9)]
    (.op (some 43) .nilchk [(.t 37)]
    (.op (some 44) (.addr 24) [(.t 43)]
    (.op (some 45) (.idxA 4 1) [(.t 44), (.t 38)]
    (.op none (.st .heap) [(.t 45), (.t 41)]
    (.op (some 46) .nilchk [(.t 39)]
    (.op (some 47) (.addr 28) [(.t 46)]
    (.op (some 48) (.idxA 4 1) [(.t 47), (.t 40)]
    (.op none (.st .heap) [(.t 48), (.t 42)]
    .nil)))))))))))))))
  (.seq (.reg 4 false (.op (some 49) .mov [(.t 1)]
    (.op (some 50) .mov [(.t 7)]
    (.op (some 51) .mov [(.t 8)]
    (.op (some 52) .mov [(.t 9)]
    (.op (some 53) (.build (List.replicate 7 (Cell.int .i64 0)) [(1, 1), (2, 1), (3, 1), (5, 1), (6, 1)]) [(.t 49), (.k (.c (.int .i64 6))), (.t 50), (.t 51), (.t 52)]
    (.op none (.stAll (.slot 0) 7) [(.t 6), (.t 53)]
    .nil)))))))
  .ret))))) }


end Jq

namespace Jq
open Go

/- strconv.Itoa: 45 -/
def strconv_Itoa : Fn := { np := 1, nt := 5, ns := 0, res := [.t 2 .s], gc := false, code :=
  (.seq (.reg 0 false (.op (some 2) .mov [(.k (.c (.str (ByteArray.mk #[]))))]
    .nil))
  (.seq (.reg 1 false (.op (some 3) .mov [(.t 0)]
    (.op (some 4) (.call 46 [.s]) [(.t 3)]
    (.op (some 2) .mov [(.t 4)]
    .nil))))
  .ret)) }


end Jq

/- What a function needs of an environment. -/
namespace Jq
open Go

structure strconv_Itoa_In (E : Env) : Prop where
  fn : E.fn 45 = some strconv_Itoa
  c46 : istrconv_Itoa_In E

end Jq

/- What a function needs of an environment. -/
namespace Jq
open Go

structure vm_Name_In (E : Env) : Prop where
  fn : E.fn 167 = some vm_Name
  c45 : strconv_Itoa_In E

structure vm_copied_In (E : Env) : Prop where
  fn : E.fn 189 = some vm_copied
  c119 : slices_Clone_sIns_Ins_In E
  c202 : slices_Clone_sbyte_byte_In E
  c203 : slices_Clone_sint64_int64_In E

structure vm_New_In (E : Env) : Prop where
  fn : E.fn 171 = some vm_New
  c94 : prog_Start_In E
  c188 : prog_Ok_In E
  c189 : vm_copied_In E
  c190 : buf_New_In E

structure vm_VM_Enabled_In (E : Env) : Prop where
  fn : E.fn 172 = some vm_VM_Enabled
  c18 : set_Set_With_In E
  c105 : prog_Next_In E
  c191 : buf_Buf_Empty_In E
  c192 : buf_Buf_Oldest_In E

structure vm_VM_thread_In (E : Env) : Prop where
  fn : E.fn 193 = some vm_VM_thread
  c80 : event_Writes_In E
  c105 : prog_Next_In E
  c106 : prog_After_In E
  c109 : event_Of_In E
  c205 : buf_Buf_Newest_In E
  c206 : buf_Buf_Put_In E

structure vm_VM_flush_In (E : Env) : Prop where
  fn : E.fn 194 = some vm_VM_flush
  c192 : buf_Buf_Oldest_In E
  c207 : buf_Buf_Drop_In E

structure vm_VM_Pick_In (E : Env) : Prop where
  fn : E.fn 173 = some vm_VM_Pick
  c17 : set_Set_Has_In E
  c172 : vm_VM_Enabled_In E
  c193 : vm_VM_thread_In E
  c194 : vm_VM_flush_In E

structure vm_VM_Done_In (E : Env) : Prop where
  fn : E.fn 174 = some vm_VM_Done
  c172 : vm_VM_Enabled_In E

structure vm_VM_Steps_In (E : Env) : Prop where
  fn : E.fn 175 = some vm_VM_Steps
  c195 : slices_Clone_sStep_Step_In E

end Jq

/- What a function needs of an environment. -/
namespace Jq
open Go

structure play_run_In (E : Env) : Prop where
  fn : E.fn 278 = some play_run
  c171 : vm_New_In E
  c173 : vm_VM_Pick_In E

structure play_Run_In (E : Env) : Prop where
  fn : E.fn 271 = some play_Run
  c174 : vm_VM_Done_In E
  c175 : vm_VM_Steps_In E
  c278 : play_run_In E

structure play_Text_In (E : Env) : Prop where
  fn : E.fn 262 = some play_Text
  c167 : vm_Name_In E
  x272 : E.fn 272 = none

end Jq

/- What a function needs of an environment. -/
namespace Jq
open Go

structure jacquardlaw17_awake_In (E : Env) : Prop where
  fn : E.fn 261 = some jacquardlaw17_awake
  x260 : E.fn 260 = none
  c187 : jacquardlaw12_SB_In E
  c262 : play_Text_In E
  c271 : play_Run_In E

structure jacquardlaw17_PlayTexts_In (E : Env) : Prop where
  fn : E.fn 264 = some jacquardlaw17_PlayTexts
  x260 : E.fn 260 = none
  c168 : jacquardref16_Name_In E
  c261 : jacquardlaw17_awake_In E
  c262 : play_Text_In E

end Jq

namespace Jq
open Go

/- (jacquard/set.Set).Has: 17 -/
set_option maxRecDepth 100000 in
theorem set_Set_Has_eq (C : CallF) (L : LoopF) (G : Glo) (a0 : Int) (a1 : Int) (h0 : AHeap) :
    set_Set_Has.body C L G [(.c (.int .u64 a0)), (.c (.int .i64 a1))] h0 =
    c1 (C 19 [(.c (.int .i64 a1))] h0) fun y_2 h_1 => asI .u64 y_2 fun n_3 => some ([(.c (.bool ((G.band .u64 a0 n_3) != 0)))], h_1) := by kernel_rfl

/- (jacquard/set.Set).With: 18 -/
set_option maxRecDepth 100000 in
theorem set_Set_With_eq (C : CallF) (L : LoopF) (G : Glo) (a0 : Int) (a1 : Int) (h0 : AHeap) :
    set_Set_With.body C L G [(.c (.int .u64 a0)), (.c (.int .i64 a1))] h0 =
    c1 (C 19 [(.c (.int .i64 a1))] h0) fun y_2 h_1 => asI .u64 y_2 fun n_3 => some ([(.c (.int .u64 (G.bor .u64 a0 n_3)))], h_1) := by kernel_rfl

/- jacquard/set.bit: 19 -/
set_option maxRecDepth 100000 in
theorem set_bit_eq (C : CallF) (L : LoopF) (G : Glo) (a0 : Int) (h0 : AHeap) :
    set_bit.body C L G [(.c (.int .i64 a0))] h0 =
    scK (decide (a0 < 0)) false (some ((decide (a0 ≥ 64)), h0)) true h0 fun b_1 h_2 => if b_1 = true then some ([(.c (.int .u64 0))], h_2) else if (G.wrap .u64 a0) < 0 then none else some ([(.c (.int .u64 (G.shl .u64 1 (G.wrap .u64 a0))))], h_2) := by kernel_rfl


end Jq

/- Few numbers in one word: what the package's functions come to. -/
namespace Jq
open Go

/-- A number's bit. -/
def bitI (i : Int) : Nat := if 0 ≤ i ∧ i < 64 then 2 ^ i.toNat else 0

theorem bitI_lt (i : Int) : bitI i < 2 ^ 64 := by
  unfold bitI; split
  · exact Nat.pow_lt_pow_right (by omega) (by omega)
  · omega

/-- Whether a number is in it. -/
def hasI (s : Nat) (i : Int) : Bool := decide (0 ≤ i) && s.testBit i.toNat && decide (i < 64)

theorem and_bitI {s : Nat} (i : Int) : ((s &&& bitI i) != 0) = hasI s i := by
  unfold hasI bitI
  by_cases h : 0 ≤ i ∧ i < 64
  · rw [if_pos h]
    simp only [h.1, h.2, decide_true, Bool.true_and, Bool.and_true]
    cases hb : s.testBit i.toNat with
    | true =>
      simp only [bne_iff_ne, ne_eq]
      intro h0
      have := congrArg (fun x => x.testBit i.toNat) h0
      simp [Nat.testBit_and, hb, Nat.testBit_two_pow] at this
    | false =>
      have : s &&& 2 ^ i.toNat = 0 := by
        refine Nat.eq_of_testBit_eq fun j => ?_
        rw [Nat.testBit_and, Nat.testBit_two_pow, Nat.zero_testBit]
        by_cases hj : i.toNat = j
        · subst hj; simp [hb]
        · simp [hj]
      simp [this]
  · rw [if_neg h]
    have : ¬ (0 ≤ i) ∨ ¬ (i < 64) := by omega
    rcases this with h | h <;> simp [h]

theorem hasI_nat {s i : Nat} (hi : i < 64) : hasI s (i : Int) = s.testBit i := by
  unfold hasI; simp; omega

variable {E : Env}

theorem bit_R (hE : set_bit_In E) (i : Int) (h : AHeap) : R E 19 [.c (.int .i64 i)] h = some ([.c (.int .u64 (bitI i))], h) := by
  refine R_intro hE.fn ?_
  rw [set_bit_eq, scK_or]
  unfold bitI
  by_cases hi : 0 ≤ i ∧ i < 64
  · have h1 : (decide (i < 0) || decide (i ≥ 64)) = false := by simp; omega
    rw [h1, if_pos hi]
    obtain ⟨n, rfl⟩ := Int.eq_ofNat_of_zero_le hi.1
    have hw : E.glob.wrap .u64 (n : Int) = n := wrap_u64n (by omega)
    rw [hw]
    simp only [Bool.false_eq_true, if_false]
    rw [if_neg (by omega), show E.glob.shl .u64 1 (n : Int) = _ from std_shl_one (by omega)]
    simp
  · have h1 : (decide (i < 0) || decide (i ≥ 64)) = true := by simp; omega
    rw [h1, if_neg hi]; simp

theorem Has_R (hE : set_Set_Has_In E) {s : Nat} (hs : s < 2 ^ 64) (i : Int) (h : AHeap) : R E 17 [.c (.int .u64 s), .c (.int .i64 i)] h = some ([.c (.bool (hasI s i))], h) := by
  refine R_intro hE.fn ?_
  rw [set_Set_Has_eq, bit_R hE.c19, c1_ok, asI_ok, show E.glob.band .u64 (s : Int) _ = _ from std_band hs (bitI_lt i), ← and_bitI]
  have : (((s &&& bitI i : Nat) : Int) != 0) = (s &&& bitI i != 0) := by rw [Bool.eq_iff_iff]; simp
  rw [this]

theorem With_R (hE : set_Set_With_In E) {s : Nat} (hs : s < 2 ^ 64) (i : Int) (h : AHeap) : R E 18 [.c (.int .u64 s), .c (.int .i64 i)] h = some ([.c (.int .u64 ((s ||| bitI i : Nat) : Int))], h) := by
  refine R_intro hE.fn ?_
  rw [set_Set_With_eq, bit_R hE.c19, c1_ok, asI_ok, show E.glob.bor .u64 (s : Int) _ = _ from std_bor hs (bitI_lt i)]

end Jq

namespace Jq
open Go


end Jq

/- Relations: what the package's functions come to. -/
namespace Jq
open Go

/-- A relation's cells: over how many, the rows. -/
def relL (n : Nat) (f : Nat → Nat) : List Cell := .int .i64 n :: (List.range 64).map fun i => .int .u64 (f i)

def updF (f : Nat → Nat) (i v : Nat) : Nat → Nat := fun j => if j = i then v else f j

def zeroL : List Cell := [Cell.int .i64 0] ++ List.replicate 64 (Cell.int .u64 0)
/-- All rows are words. -/
def Words (f : Nat → Nat) : Prop := ∀ i, f i < 2 ^ 64

/-- Numbers, brought between nought and 64. -/
def clamp (a : Int) : Nat := min a.toNat 64

variable {E : Env}

def inR (n : Nat) (a : Int) : Bool := decide (0 ≤ a) && decide (a < n)

/-- Whether a leads to b. -/
def hasR (n : Nat) (f : Nat → Nat) (a b : Int) : Bool := inR n a && hasI (f a.toNat) b

/-- A relation with a pair. -/
def addR (n : Nat) (f : Nat → Nat) (a b : Int) : Nat → Nat := if inR n a && inR n b then updF f a.toNat (f a.toNat ||| bitI b) else f

/- Closing. -/

/-- One of a round: from i by k. -/
def clS (f : Nat → Nat) (k i : Nat) : Nat → Nat := if (f i).testBit k then updF f i (f i ||| f k) else f

def cl1 (k : Nat) : Nat → (Nat → Nat) → Nat → Nat
  | 0, f => f
  | i + 1, f => clS (cl1 k i f) k i

/-- The first k rounds. -/
def clK (n : Nat) (f : Nat → Nat) : Nat → Nat → Nat
  | 0 => f
  | k + 1 => cl1 k n (clK n f k)

/-- Whether none leads to itself. -/
def acycR (n : Nat) (f : Nat → Nat) : Bool := !(List.range n).any fun i => (clK n f n i).testBit i

end Jq

/- Relations: what closing is. -/
namespace Jq

/-- A way from one to another whose stops in between are below k. -/
inductive Way (f : Nat → Nat) (k : Nat) : Nat → Nat → Prop
  | one {a b : Nat} : (f a).testBit b = true → Way f k a b
  | step {a c b : Nat} : (f a).testBit c = true → c < k → Way f k c b → Way f k a b

theorem Way.mono {f : Nat → Nat} {k m : Nat} (hkm : k ≤ m) {a b : Nat} (w : Way f k a b) : Way f m a b := by
  induction w with
  | one h => exact .one h
  | step h hc _ ih => exact .step h (by omega) ih

theorem Way.trans {f : Nat → Nat} {k a c b : Nat} (w : Way f k a c) (hc : c < k) (v : Way f k c b) : Way f k a b := by
  induction w with
  | one h => exact .step h hc v
  | step h hc' _ ih => exact .step h hc' (ih hc v)

theorem Way.succ {f : Nat → Nat} {k a b : Nat} : Way f (k + 1) a b ↔ Way f k a b ∨ (Way f k a k ∧ Way f k k b) := by
  constructor
  · intro w
    induction w with
    | one h => exact .inl (.one h)
    | step h hc _ ih =>
      rcases Nat.lt_or_ge _ k with hk | hk
      · rcases ih with ih | ⟨i1, i2⟩
        · exact .inl (.step h hk ih)
        · exact .inr ⟨.step h hk i1, i2⟩
      · have : _ = k := Nat.le_antisymm (Nat.lt_succ_iff.1 hc) hk
        subst this
        rcases ih with ih | ⟨_, i2⟩
        · exact .inr ⟨.one h, ih⟩
        · exact .inr ⟨.one h, i2⟩
  · rintro (w | ⟨w1, w2⟩)
    · exact w.mono (by omega)
    · exact (w1.mono (by omega)).trans (Nat.lt_succ_self k) (w2.mono (by omega))

end Jq

namespace Jq
open Go


end Jq

/- What a function needs of an environment. -/
namespace Jq
open Go


end Jq

namespace Jq
open Go


end Jq

namespace Jq
open Go


end Jq

/- The statements of relations: what their helpers come to. -/
namespace Jq
open Go

/-- A relation of pairs. -/
def ofR (n : Nat) (l : List (Int × Int)) : Nat → Nat := l.foldl (fun f p => addR n f p.1 p.2) fun _ => 0

variable {E : Env}

end Jq

namespace Jq
open Go


end Jq

/- Bits counted, and the lowest one: what math/bits comes to. -/
namespace Jq
open Go

/-- How many of the first k bits are set. -/
def pcN : Nat → Nat → Nat
  | 0, _ => 0
  | k + 1, x => x % 2 + pcN k (x / 2)

/-- How many numbers a word has. -/
def pc (x : Nat) : Nat := pcN 64 x

/-- A function of each byte. -/
def mapB (f : Nat → Nat) : Nat → Nat → Nat
  | 0, _ => 0
  | k + 1, x => f (x % 256) + 256 * mapB f k (x / 256)

def repB (c : Nat) : Nat → Nat
  | 0 => 0
  | k + 1 => c + 256 * repB c k

def fb1 (b : Nat) : Nat := ((b / 2) &&& 0x55) + (b &&& 0x55)
def fb2 (b : Nat) : Nat := ((b / 4) &&& 0x33) + (b &&& 0x33)
def fb3 (b : Nat) : Nat := (b + b / 16) &&& 0x0f

variable {E : Env}

end Jq

/- The lowest bit: what math/bits comes to. -/
namespace Jq
open Go

variable {E : Env}

theorem getD_some {L : List Nat} {n i k : Nat} (hn : L.length = n) (hi : i < n) (hd : L.getD i 0 = k) : L[i]? = some k := by
  rw [List.getD_eq_getElem?_getD] at hd
  cases h : L[i]? with
  | none => rw [List.getElem?_eq_none_iff] at h; omega
  | some x => rw [h] at hd; exact congrArg some hd

end Jq

/- The numbers of a word, in order. -/
namespace Jq
open Go

/-- A word's numbers, rising. -/
def bitsL (s : Nat) : List Nat := (List.range 64).filter fun i => s.testBit i

/-- The first number; none: less than nought. -/
def firstI (s : Nat) : Int := if s = 0 then -1 else Lib.ctz 64 s

/-- What math/bits reads. -/
def TabOk (E : Env) : Prop := ∀ k, k < 64 → (E.tab 1)[k]? = (Lib.deBruijn64tab[k]?).map fun (n : Nat) => Cell.int .u8 (n : Int)

variable {E : Env}

/-- A row of natural numbers, as cells. -/
def natC (l : List Nat) : List Cell := intC .i64 (l.map fun (n : Nat) => (n : Int))

theorem natC_len (l : List Nat) : (natC l).length = l.length := by simp [natC, intC]
theorem natC_snoc (l : List Nat) (n : Nat) : natC (l ++ [n]) = natC l ++ [.int .i64 n] := by simp [natC, intC]
/-- A word of numbers. -/
def ofL (l : List Int) : Nat := l.foldl (fun s i => s ||| bitI i) 0

/-- The next greater word of as many numbers. -/
def nextN (s : Nat) : Nat :=
  if s = 0 then 0 else
    let up := (s + 2 ^ Lib.ctz 64 s) % 2 ^ 64
    if up = 0 then 0 else up ||| (((s ^^^ up) >>> 2) >>> Lib.ctz 64 s)

end Jq

/- Relations: joining, meeting, putting behind one another, turning, cutting down, pairs. -/
namespace Jq
open Go

/-- The word of these numbers. -/
def mkN (p : Nat → Bool) : Nat := (List.range 64).foldl (fun a j => if p j then a ||| 2 ^ j else a) 0

/-- Rows told so far. -/
def upF (T : Nat → Nat) (i : Nat) : Nat → Nat := fun j => if j < i then T j else 0

variable {E : Env}

/-- A relation by what it has. -/
def relM (n : Nat) (p : Nat → Nat → Bool) : List Cell := relL n fun i => mkN (p i)

/- Putting behind one another. -/
def orL (T : Nat → Nat) (l : List Nat) : Nat := l.foldl (fun a k => a ||| T k) 0

def thenF (n : Nat) (f g : Nat → Nat) (i : Nat) : Nat := orL (fun k => g k &&& (2 ^ n - 1)) (bitsL (f i &&& (2 ^ n - 1)))

/- Turning about. -/
/-- What has been turned: all of the rows below i, of row i what is done. -/
def invP (f : Nat → Nat) (i : Nat) (done : List Nat) : Nat → Nat := fun k => mkN fun j => (decide (j < i) && (f j).testBit k) || (decide (j = i) && decide (k ∈ done))

end Jq

/- Relations over one number: by what they have. -/
namespace Jq
open Go

def TH (n : Nat) (f g : Nat → Nat) : Nat → Nat := fun i => mkN fun j => decide (i < n) && decide (j < n) && (List.range n).any fun k => (f i).testBit k && (g k).testBit j
def UNI (n : Nat) (f g : Nat → Nat) : Nat → Nat := fun i => mkN fun j => decide (i < n) && decide (j < n) && ((f i).testBit j || (g i).testBit j)
def MIN (n : Nat) (f g : Nat → Nat) : Nat → Nat := fun i => mkN fun j => decide (i < n) && decide (j < n) && ((f i).testBit j && !(g i).testBit j)
def MEE (n : Nat) (f g : Nat → Nat) : Nat → Nat := fun i => mkN fun j => decide (i < n) && decide (j < n) && ((f i).testBit j && (g i).testBit j)
def INV (n : Nat) (f : Nat → Nat) : Nat → Nat := fun i => mkN fun j => decide (j < n) && (f j).testBit i
def KEE (n : Nat) (f : Nat → Nat) (s : Nat) : Nat → Nat := fun i => mkN fun j => decide (i < n) && s.testBit i && ((f i).testBit j && s.testBit j)

/-- All pairs are over n. -/
def Fit (n : Nat) (f : Nat → Nat) : Prop := ∀ i j, (f i).testBit j = true → i < n ∧ j < n

variable {E : Env} {n : Nat}

end Jq

/- A relation's pairs, told rising. -/
namespace Jq
open Go

/-- The pairs of one row. -/
def rowP (f : Nat → Nat) (i : Nat) : List (Int × Int) := (bitsL (f i)).map fun (k : Nat) => ((i : Int), (k : Int))

/-- All pairs. -/
def pairsP (n : Nat) (f : Nat → Nat) : List (Int × Int) := (List.range n).flatMap (rowP f)

theorem Own.keep {n : Nat} {h h' : AHeap} {x : Cell} {esz len : Nat} {cs : List Cell} (o : Own n h x esz cs len) (a : Kp h.length h h') : Own n h' x esz cs len := by
  refine ⟨o.1, o.2.imp id ?_⟩
  rintro ⟨k, rfl, hk, hb⟩
  exact ⟨k, rfl, hk, by rw [a.blk (blk_lt' hb)]; exact hb⟩

/-- Two rows lie apart. -/
def ApartB (x y : Cell) : Prop := ∀ k, isBlk y k → ¬ isBlk x k

theorem Own.apart {n m : Nat} {h : AHeap} {x y : Cell} {e1 e2 l1 l2 : Nat} {c1 c2 : List Cell} (o : Own n h x e1 c1 l1) (hm : h.length ≤ m) {h' : AHeap} (o2 : Own m h' y e2 c2 l2) : ApartB x y := by
  intro k hk hx
  rcases o.2 with ⟨rfl, _⟩ | ⟨k1, rfl, _, hb⟩
  · cases hx
  · rcases o2.2 with ⟨rfl, _⟩ | ⟨k2, rfl, hk2, _⟩
    · cases hk
    · have e1 : k1 = k := hx
      have e2 : k2 = k := hk
      have := blk_lt' hb
      omega

variable {E : Env}

end Jq

/- RelPairs: the pairs are the ones had, in order, no more; the relation of its pairs is itself. -/
namespace Jq
open Go

/-- A row's pairs below j. -/
def rowU (f : Nat → Nat) (i j : Nat) : List (Int × Int) := ((List.range j).filter fun k => (f i).testBit k).map fun (k : Nat) => ((i : Int), (k : Int))

section
variable {E : Env}
end

variable {E : Env}

end Jq

namespace Jq
open Go


end Jq

namespace Jq
open Go


end Jq

namespace Jq
open Go


end Jq

/- What a function needs of an environment. -/
namespace Jq
open Go


end Jq

/- What a function needs of an environment. -/
namespace Jq
open Go


end Jq

/- What a function needs of an environment. -/
namespace Jq
open Go


end Jq

namespace Jq
open Go


end Jq

namespace Jq
open Go


end Jq

namespace Jq
open Go

/- jacquard/jacquardref16.Name: 168 -/
set_option maxRecDepth 100000 in
theorem jacquardref16_Name_eq (C : CallF) (L : LoopF) (G : Glo) (a0 : Int) (h0 : AHeap) :
    jacquardref16_Name.body C L G [(.c (.int .i64 a0))] h0 =
    scK (decide (a0 ≥ 0)) true (some ((decide (a0 < 4)), h0)) false h0 fun b_1 h_2 => if b_1 = true then sliceStrK true true (.str (ByteArray.mk #[48, 49, 50, 51, 52, 53, 54, 55, 56, 57])) [.v (.c (.int .i64 a0)), .v (.c (.int .i64 (G.wrap .i64 (a0 + 1))))] fun x_3 => if ByteArray.size (ByteArray.mk #[116]) + ByteArray.size x_3 ≤ 1099511627776 then some ([(.c (.str ((ByteArray.mk #[116]) ++ x_3)))], h_2) else none else scK (decide (a0 ≥ 4)) true (some ((decide (a0 < 8)), h_2)) false h_2 fun b_4 h_5 => if b_4 = true then sliceStrK true true (.str (ByteArray.mk #[48, 49, 50, 51, 52, 53, 54, 55, 56, 57])) [.v (.c (.int .i64 (G.wrap .i64 (a0 - 4)))), .v (.c (.int .i64 (G.wrap .i64 (a0 - 3))))] fun x_6 => if ByteArray.size (ByteArray.mk #[102]) + ByteArray.size x_6 ≤ 1099511627776 then some ([(.c (.str ((ByteArray.mk #[102]) ++ x_6)))], h_5) else none else scK (decide (a0 ≥ 8)) true (some ((decide (a0 < 24)), h_5)) false h_5 fun b_7 h_8 => if b_7 = true then let v_9 : Int := (G.wrap .i64 ((G.quo .i64 (G.wrap .i64 (a0 - 8)) 4) + 1)); sliceStrK true true (.str (ByteArray.mk #[48, 49, 50, 51, 52, 53, 54, 55, 56, 57])) [.v (.c (.int .i64 (G.quo .i64 (G.wrap .i64 (a0 - 8)) 4))), .v (.c (.int .i64 v_9))] fun x_10 => if ByteArray.size (ByteArray.mk #[102]) + ByteArray.size x_10 ≤ 1099511627776 then if ByteArray.size ((ByteArray.mk #[102]) ++ x_10) + ByteArray.size (ByteArray.mk #[46]) ≤ 1099511627776 then let v_11 : Int := (G.wrap .i64 ((G.rem .i64 (G.wrap .i64 (a0 - 8)) 4) + 1)); sliceStrK true true (.str (ByteArray.mk #[48, 49, 50, 51, 52, 53, 54, 55, 56, 57])) [.v (.c (.int .i64 (G.rem .i64 (G.wrap .i64 (a0 - 8)) 4))), .v (.c (.int .i64 v_11))] fun x_12 => if ByteArray.size (((ByteArray.mk #[102]) ++ x_10) ++ (ByteArray.mk #[46])) + ByteArray.size x_12 ≤ 1099511627776 then some ([(.c (.str ((((ByteArray.mk #[102]) ++ x_10) ++ (ByteArray.mk #[46])) ++ x_12)))], h_8) else none else none else none else some ([(.c (.str (ByteArray.mk #[])))], h_8) := by kernel_rfl


end Jq

/- Steps: which clash; who wakes; who may be first. -/
namespace Jq
open Go

structure Stp where
  pick : Int
  t : Int
  kind : Int
  loc : Int
  r : Int
  w : Int
  frm : Int

def Stp.cs (s : Stp) : List Cell := [.int .i64 s.pick, .int .i64 s.t, .int .i64 s.kind, .int .i64 s.loc, .int .i64 s.r, .int .i64 s.w, .int .i64 s.frm]
def shStep : Sh := .agg (Sh.rep (.i .i64) 7)
def stepsC (l : List Stp) : List Cell := l.flatMap Stp.cs

theorem stp_len (s : Stp) : s.cs.length = 7 := rfl
theorem stepsC_len : ∀ l : List Stp, (stepsC l).length = l.length * 7
  | [] => rfl
  | s :: l => by simp only [stepsC, List.flatMap_cons, List.length_append]; rw [show (l.flatMap _).length = _ from stepsC_len l, stp_len]; simp; omega

theorem stepsC_at : ∀ (l : List Stp) (i : Nat) (s : Stp), l[i]? = some s → ((stepsC l).drop (i * 7)).take 7 = s.cs
  | [], _, _, h => by simp at h
  | q :: l, 0, s, h => by simp at h; subst h; rfl
  | q :: l, i + 1, s, h => by
    have := stepsC_at l i s (by simpa using h)
    have e : stepsC (q :: l) = q.cs ++ stepsC l := rfl
    rw [e, List.drop_append, List.drop_of_length_le (by rw [stp_len]; omega), List.nil_append, show (i + 1) * 7 - q.cs.length = i * 7 by rw [stp_len]; omega]
    exact this

theorem stepsC_snoc (l : List Stp) (s : Stp) : stepsC (l ++ [s]) = stepsC l ++ s.cs := by simp [stepsC]

/-- One of a row, wherever it is looked at. -/
theorem SlAt.elG {h : AHeap} {x : Cell} {esz len : Nat} {cs : List Cell} (s : SlAt h x esz cs len) {i : Nat} (hi : i < len) :
    ∃ off cs', (∀ {α : Type} (G : Nat → List Cell → Option α), (idxSK esz x (i : Int) fun k N o => rdH h k N fun l => G o l) = G off cs') ∧ off + esz ≤ cs'.length ∧ (cs'.drop off).take esz = (cs.drop (i * esz)).take esz := by
  rcases s.2 with ⟨_, rfl⟩ | ⟨k, N, off, rfl, h0 | ⟨b, hb, hN, hle, hat⟩⟩
  · omega
  · omega
  · have hlt : i * esz + esz ≤ len * esz := by
      have : (i + 1) * esz ≤ len * esz := Nat.mul_le_mul_right _ hi
      rw [Nat.succ_mul] at this; exact this
    refine ⟨off + i * esz, b.cs, fun G => by rw [idxSK_ok hi, rdH_ok hb hN], by omega, ?_⟩
    refine List.ext_getElem? fun j => ?_
    rw [List.getElem?_take, List.getElem?_take]
    by_cases hj : j < esz
    · rw [if_pos hj, if_pos hj, List.getElem?_drop, List.getElem?_drop, Nat.add_assoc, hat _ (by omega)]
    · rw [if_neg hj, if_neg hj]

/-- One of the steps. -/
theorem SlAt.step {α : Type} {h : AHeap} {x : Cell} {l : List Stp} (s : SlAt h x 7 (stepsC l) l.length) {i : Nat} {q : Stp} (hq : l[i]? = some q) {f : List Cell → Option α} :
    (idxSK 7 x (i : Int) fun k N o => rdH h k N fun l => if o + 7 ≤ l.length then f ((l.drop o).take 7) else none) = f q.cs := by
  have hi : i < l.length := by
    rcases Nat.lt_or_ge i l.length with h | h
    · exact h
    · rw [List.getElem?_eq_none h] at hq; cases hq
  rw [s.getN hi, stepsC_at l i q hq]

def wrS (s : Stp) (m : Int) : Bool := s.kind == 6 || s.kind == 4 || (m == 1 && s.kind == 2)
def rdS (s : Stp) : Bool := s.kind == 1 || s.kind == 4 || s.kind == 5
def fnS (s : Stp) : Bool := s.kind == 3 || s.kind == 4 || s.kind == 5
def tchS (s : Stp) (m : Int) : Bool := wrS s m || rdS s
/-- Do two steps clash? -/
def clash (a b : Stp) (m : Int) : Bool :=
  if (a.pick == b.pick) = true then true
  else if (a.t == b.t) = true then (a.kind == 6 && fnS b) || (b.kind == 6 && fnS a)
  else tchS a m && tchS b m && a.loc == b.loc && (wrS a m || wrS b m)

/-- The sleepers that stay asleep. -/
def wakeS (a : Stp) (m : Int) : List Stp → Nat → Nat
  | [], s => s
  | x :: l, s => wakeS a m l (if clash x a m = true then ndiff s (bitI x.pick) else s)

section
variable {E : Env}

/-- May the one at a place be first, of those from a place on? -/
def frI (f : Nat → Nat) (a k : Nat) : Nat → Bool
  | 0 => true
  | i + 1 => frI f a k i && !(decide (a ≤ i) && (f i).testBit k)

/-- Who may be first, of the first so many. -/
def iniS (f : Nat → Nat) (l : List Int) (a : Nat) : Nat → Nat
  | 0 => 0
  | k + 1 => if (decide (a ≤ k) && frI f a k l.length) = true then iniS f l a k ||| bitI (l.getD k 0) else iniS f l a k

end
end Jq

namespace Jq
open Go

/- jacquard/prog.Start: 94 -/
set_option maxRecDepth 100000 in
theorem prog_Start_eq (C : CallF) (L : LoopF) (G : Glo) (l0 : List Cell) (a1 : Int) (h0 : AHeap) :
    prog_Start.body C L G [(.agg l0), (.c (.int .i64 a1))] h0 =
    if 0 = 0 ∧ l0.length = 3 then c1 (C 113 [(.agg l0), (.c (.int .i64 a1))] h0) fun y_2 h_1 => asC y_2 fun x_3 => c1 (C 114 [(.c x_3), (.agg [Cell.int .i64 0, Cell.int .i64 0, Cell.int .i64 0, Cell.int .i64 0, Cell.int .i64 0])] h_1) fun y_5 h_4 => asA y_5 fun l_6 => if 0 = 0 ∧ [Cell.int .i64 0, Cell.int .i64 0, Cell.int .i64 0, Cell.int .i64 0, Cell.int .i64 0].length = 5 ∧ l_6.length = 5 then if 0 = 0 ∧ l_6.length = 5 then some ([(.agg l_6)], h_4) else none else none else none := by kernel_rfl

/- jacquard/prog.Size: 102 -/
def prog_Size_k2 (C : CallF) (L : LoopF) (G : Glo) (h0 : AHeap) : Ex → St → Option (List AV × AHeap) :=
  kSeq (fun st => prog_Size_p1.exec C L G st (prog_Size.fin G h0)) (prog_Size.fin G h0)
def prog_Size_k3 (C : CallF) (L : LoopF) (G : Glo) (h0 : AHeap) : Ex → St → Option (List AV × AHeap) :=
  kBlk 0 (prog_Size_k2 C L G h0)
def prog_Size_s1 (a3 : Int) (x7 : Cell) (a8 : Int) (a9 : Int) (h : AHeap) : St := ⟨[.top, .top, .top, .v (.c (.int .i64 a3)), .top, .top, .top, .v (.c x7), .v (.c (.int .i64 a8)), .v (.c (.int .i64 a9)), .top, .top, .top, .top, .top, .top, .top, .top, .top], [none], h⟩
def prog_Size_F1 (C : CallF) (L : LoopF) (G : Glo) : St → Option (Ex × St) :=
  roundF (fun st f => prog_Size_b1.exec C L G st f) [3, 7, 8, 9] [] [(1, [3], [])]
def prog_Size_x1_1 (a3 : Int) (h : AHeap) : St := ⟨[.top, .top, .top, .v (.c (.int .i64 a3)), .top, .top, .top, .top, .top, .top, .top, .top, .top, .top, .top, .top, .top, .top, .top], [none], h⟩
theorem prog_Size_r1 (C : CallF) (L : LoopF) (G : Glo) (a3 : Int) (x7 : Cell) (a8 : Int) (a9 : Int) (h : AHeap) :
    prog_Size_F1 C L G (prog_Size_s1 a3 x7 a8 a9 h) =
    if (decide (a9 < a8)) = true then idxSK 1 x7 a9 fun k_3 N_4 o_5 => rdH h k_3 N_4 fun l_6 => atK l_6 o_5 fun q_7 => lenK q_7 fun n_8 => some (.normal, (prog_Size_s1 (G.wrap .i64 (a3 + n_8)) x7 a8 (G.wrap .i64 (a9 + 1)) h)) else some ((.exit 0), (prog_Size_x1_1 a3 h)) := by kernel_rfl
theorem prog_Size_e1_1 (C : CallF) (L : LoopF) (G : Glo) (h0 : AHeap) (a3 : Int) (h : AHeap) :
    (prog_Size_k3 C L G h0) (.exit 0) (prog_Size_x1_1 a3 h) =
    some ([(.c (.int .i64 a3))], h) := by kernel_rfl
set_option maxRecDepth 100000 in
theorem prog_Size_eq (C : CallF) (L : LoopF) (G : Glo) (l0 : List Cell) (h0 : AHeap) :
    prog_Size.body C L G [(.agg l0)] h0 =
    atK l0 2 fun q_1 => lenK q_1 fun n_2 => (L (prog_Size_F1 C L G) (prog_Size_s1 0 q_1 n_2 0 h0)).bind fun p_9 => (prog_Size_k3 C L G h0) p_9.1 p_9.2 := by kernel_rfl

/- jacquard/prog.Next: 105 -/
set_option maxRecDepth 100000 in
theorem prog_Next_eq (C : CallF) (L : LoopF) (G : Glo) (l0 : List Cell) (a1 : Int) (l2 : List Cell) (h0 : AHeap) :
    prog_Next.body C L G [(.agg l0), (.c (.int .i64 a1)), (.agg l2)] h0 =
    if 0 = 0 ∧ l0.length = 3 then c1 (C 113 [(.agg l0), (.c (.int .i64 a1))] h0) fun y_2 h_1 => asC y_2 fun x_3 => atK l2 0 fun q_4 => asI .i64 (.c q_4) fun n_5 => scK (decide (n_5 < 0)) false (atK l2 0 fun q_6 => asI .i64 (.c q_6) fun n_7 => lenK x_3 fun n_8 => some ((decide (n_7 ≥ n_8)), h_1)) true h_1 fun b_9 h_10 => if b_9 = true then if 0 = 0 ∧ (List.replicate 9 (Cell.int .i64 0)).length = 9 ∧ (List.replicate 9 (Cell.int .i64 0)).length = 9 then if 0 = 0 ∧ (List.replicate 9 (Cell.int .i64 0)).length = 9 then some ([(.agg (List.replicate 9 (Cell.int .i64 0))), (.c (.bool false))], h_10) else none else none else atK l2 0 fun q_11 => asI .i64 (.c q_11) fun n_12 => idxSK 9 x_3 n_12 fun k_13 N_14 o_15 => rdH h_10 k_13 N_14 fun l_16 => if o_15 + 9 ≤ l_16.length then if 0 = 0 ∧ (List.replicate 9 (Cell.int .i64 0)).length = 9 ∧ ((l_16.drop o_15).take 9).length = 9 then atK ((l_16.drop o_15).take 9) 0 fun q_17 => asI .i64 (.c q_17) fun n_18 => scK (decide (n_18 < 1)) false (atK ((l_16.drop o_15).take 9) 0 fun q_19 => asI .i64 (.c q_19) fun n_20 => some ((decide (n_20 > 4)), h_10)) true h_10 fun b_21 h_22 => if b_21 = true then if 0 = 0 ∧ (List.replicate 9 (Cell.int .i64 0)).length = 9 ∧ (List.replicate 9 (Cell.int .i64 0)).length = 9 then if 0 = 0 ∧ (List.replicate 9 (Cell.int .i64 0)).length = 9 then some ([(.agg (List.replicate 9 (Cell.int .i64 0))), (.c (.bool false))], h_22) else none else none else if 0 = 0 ∧ ((l_16.drop o_15).take 9).length = 9 then if 0 = 0 ∧ (List.replicate 9 (Cell.int .i64 0)).length = 9 ∧ ((l_16.drop o_15).take 9).length = 9 then if 0 = 0 ∧ ((l_16.drop o_15).take 9).length = 9 then some ([(.agg ((l_16.drop o_15).take 9)), (.c (.bool true))], h_22) else none else none else none else none else none else none := by kernel_rfl

/- jacquard/prog.After: 106 -/
set_option maxRecDepth 100000 in
theorem prog_After_eq (C : CallF) (L : LoopF) (G : Glo) (l0 : List Cell) (a1 : Int) (l2 : List Cell) (a3 : Int) (h0 : AHeap) :
    prog_After.body C L G [(.agg l0), (.c (.int .i64 a1)), (.agg l2), (.c (.int .i64 a3))] h0 =
    if 0 = 0 ∧ l0.length = 3 then rdH (h0 ++ [some (Blk.mk true 0 (AV.cells (.agg l2)))]) h0.length ((AV.cells (.agg l2)).length) fun l_1 => if 0 = 0 ∧ l_1.length = 5 then c2 (C 105 [(.agg l0), (.c (.int .i64 a1)), (.agg l_1)] (h0 ++ [some (Blk.mk true 0 (AV.cells (.agg l2)))])) fun y_3 y_4 h_2 => asA y_3 fun l_5 => asB y_4 fun b_6 => if 0 = 0 ∧ (List.replicate 9 (Cell.int .i64 0)).length = 9 ∧ l_5.length = 9 then if (!b_6) = true then rdH h_2 h0.length ((AV.cells (.agg l2)).length) fun l_7 => if 0 = 0 ∧ l_7.length = 5 then if 0 = 0 ∧ [Cell.int .i64 0, Cell.int .i64 0, Cell.int .i64 0, Cell.int .i64 0, Cell.int .i64 0].length = 5 ∧ l_7.length = 5 then if 0 = 0 ∧ l_7.length = 5 then finish true h0 [(.agg l_7)] h_2 else none else none else none else atK l_5 0 fun q_8 => asI .i64 (.c q_8) fun n_9 => scK (n_9 == 2) false (atK l_5 0 fun q_10 => asI .i64 (.c q_10) fun n_11 => some ((n_11 == 4), h_2)) true h_2 fun b_12 h_13 => if b_12 = true then atK l_5 1 fun q_14 => asI .i64 (.c q_14) fun n_15 => c0 (C 124 [(.c (.ptr h0.length ((AV.cells (.agg l2)).length) 0)), (.c (.int .i64 n_15)), (.c (.int .i64 a3))] h_13) fun h_16 => rdH h_16 h0.length ((AV.cells (.agg l2)).length) fun l_17 => atK l_17 0 fun q_18 => asI .i64 (.c q_18) fun n_19 => rdH h_16 h0.length ((AV.cells (.agg l2)).length) fun l_20 => if 0 < l_20.length then putH h_16 h0.length (l_20.set 0 (.int .i64 (G.wrap .i64 (n_19 + 1)))) fun h_21 => if 0 = 0 ∧ l0.length = 3 then c1 (qh h_21 (C 113 [(.agg l0), (.c (.int .i64 a1))] h_21)) fun y_23 h_22 => asC y_23 fun x_24 => rdH h_21 h0.length ((AV.cells (.agg l2)).length) fun l_25 => if 0 = 0 ∧ l_25.length = 5 then c1 (qh h_21 (C 114 [(.c x_24), (.agg l_25)] h_21)) fun y_27 h_26 => asA y_27 fun l_28 => if 0 = 0 ∧ [Cell.int .i64 0, Cell.int .i64 0, Cell.int .i64 0, Cell.int .i64 0, Cell.int .i64 0].length = 5 ∧ l_28.length = 5 then if 0 = 0 ∧ l_28.length = 5 then finish true h0 [(.agg l_28)] h_21 else none else none else none else none else none else rdH h_13 h0.length ((AV.cells (.agg l2)).length) fun l_29 => atK l_29 0 fun q_30 => asI .i64 (.c q_30) fun n_31 => rdH h_13 h0.length ((AV.cells (.agg l2)).length) fun l_32 => if 0 < l_32.length then putH h_13 h0.length (l_32.set 0 (.int .i64 (G.wrap .i64 (n_31 + 1)))) fun h_33 => if 0 = 0 ∧ l0.length = 3 then c1 (qh h_33 (C 113 [(.agg l0), (.c (.int .i64 a1))] h_33)) fun y_35 h_34 => asC y_35 fun x_36 => rdH h_33 h0.length ((AV.cells (.agg l2)).length) fun l_37 => if 0 = 0 ∧ l_37.length = 5 then c1 (qh h_33 (C 114 [(.c x_36), (.agg l_37)] h_33)) fun y_39 h_38 => asA y_39 fun l_40 => if 0 = 0 ∧ [Cell.int .i64 0, Cell.int .i64 0, Cell.int .i64 0, Cell.int .i64 0, Cell.int .i64 0].length = 5 ∧ l_40.length = 5 then if 0 = 0 ∧ l_40.length = 5 then finish true h0 [(.agg l_40)] h_33 else none else none else none else none else none else none else none else none := by kernel_rfl

/- jacquard/prog.Value: 108 -/
set_option maxRecDepth 100000 in
theorem prog_Value_eq (C : CallF) (L : LoopF) (G : Glo) (l0 : List Cell) (l1 : List Cell) (h0 : AHeap) :
    prog_Value.body C L G [(.agg l0), (.agg l1)] h0 =
    atK l0 0 fun q_1 => asI .i64 (.c q_1) fun n_2 => scK (decide (n_2 ≥ 0)) true (atK l0 0 fun q_3 => asI .i64 (.c q_3) fun n_4 => some ((decide (n_4 < 4)), h0)) false h0 fun b_5 h_6 => if b_5 = true then atK l0 0 fun q_7 => asI .i64 (.c q_7) fun n_8 => if 0 ≤ n_8 ∧ n_8 < ((4 : Nat) : Int) then atK l1 (1 + ((Int.toNat n_8) * 1)) fun q_9 => asI .i64 (.c q_9) fun n_10 => some ([(.c (.int .i64 n_10))], h_6) else none else atK l0 1 fun q_11 => asI .i64 (.c q_11) fun n_12 => some ([(.c (.int .i64 n_12))], h_6) := by kernel_rfl

/- jacquard/prog.thread: 113 -/
set_option maxRecDepth 100000 in
theorem prog_thread_eq (C : CallF) (L : LoopF) (G : Glo) (l0 : List Cell) (a1 : Int) (h0 : AHeap) :
    prog_thread.body C L G [(.agg l0), (.c (.int .i64 a1))] h0 =
    scK (decide (a1 < 0)) false (atK l0 2 fun q_1 => lenK q_1 fun n_2 => some ((decide (a1 ≥ n_2)), h0)) true h0 fun b_3 h_4 => if b_3 = true then some ([(.c .nils)], h_4) else atK l0 2 fun q_5 => idxSK 1 q_5 a1 fun k_6 N_7 o_8 => rdH h_4 k_6 N_7 fun l_9 => atK l_9 o_8 fun q_10 => some ([(.c q_10)], h_4) := by kernel_rfl

/- jacquard/prog.normal: 114 -/
def prog_normal_k2 (C : CallF) (L : LoopF) (G : Glo) (h0 : AHeap) : Ex → St → Option (List AV × AHeap) :=
  kSeq (fun st => prog_normal_p1.exec C L G st (prog_normal.fin G h0)) (prog_normal.fin G h0)
def prog_normal_k3 (C : CallF) (L : LoopF) (G : Glo) (h0 : AHeap) : Ex → St → Option (List AV × AHeap) :=
  kBlk 0 (prog_normal_k2 C L G h0)
def prog_normal_s1 (x0 : Cell) (k3 : Nat) (N3 : Nat) (o3 : Nat) (s0 : List Cell) (h : AHeap) : St := ⟨[.v (.c x0), .top, .top, .v (.c (.ptr k3 N3 o3)), .loc 0 0, .top, .top, .top, .top, .top, .top, .top, .top, .top, .top, .top, .top, .top, .top, .top, .top, .top, .top, .top, .top, .top, .top, .top, .top, .top, .top, .top, .top, .top, .top, .top, .top, .top, .top, .top, .top, .top, .top, .top, .top, .top, .top, .top, .top, .top, .top, .top, .top, .top, .top, .top, .top, .top, .top, .top, .top, .top, .top, .top, .top, .top, .top, .top, .top, .top, .top, .top], [some s0, none], h⟩
def prog_normal_F1 (C : CallF) (L : LoopF) (G : Glo) : St → Option (Ex × St) :=
  roundF (fun st f => prog_normal_b1.exec C L G st f) [0, 3, 4] [0] [(0, [4], [0]), (1, [3, 4], [0])]
def prog_normal_x1_0 (s0 : List Cell) (h : AHeap) : St := ⟨[.top, .top, .top, .top, .loc 0 0, .top, .top, .top, .top, .top, .top, .top, .top, .top, .top, .top, .top, .top, .top, .top, .top, .top, .top, .top, .top, .top, .top, .top, .top, .top, .top, .top, .top, .top, .top, .top, .top, .top, .top, .top, .top, .top, .top, .top, .top, .top, .top, .top, .top, .top, .top, .top, .top, .top, .top, .top, .top, .top, .top, .top, .top, .top, .top, .top, .top, .top, .top, .top, .top, .top, .top, .top], [some s0, none], h⟩
def prog_normal_x1_1 (k3 : Nat) (N3 : Nat) (o3 : Nat) (s0 : List Cell) (h : AHeap) : St := ⟨[.top, .top, .top, .v (.c (.ptr k3 N3 o3)), .loc 0 0, .top, .top, .top, .top, .top, .top, .top, .top, .top, .top, .top, .top, .top, .top, .top, .top, .top, .top, .top, .top, .top, .top, .top, .top, .top, .top, .top, .top, .top, .top, .top, .top, .top, .top, .top, .top, .top, .top, .top, .top, .top, .top, .top, .top, .top, .top, .top, .top, .top, .top, .top, .top, .top, .top, .top, .top, .top, .top, .top, .top, .top, .top, .top, .top, .top, .top, .top], [some s0, none], h⟩
theorem prog_normal_r1 (C : CallF) (L : LoopF) (G : Glo) (x0 : Cell) (k3 : Nat) (N3 : Nat) (o3 : Nat) (s0 : List Cell) (h : AHeap) :
    prog_normal_F1 C L G (prog_normal_s1 x0 k3 N3 o3 s0 h) =
    rdH h k3 N3 fun l_1 => atK l_1 (o3 + 0) fun q_2 => asI .i64 (.c q_2) fun n_3 => scK (decide (n_3 ≥ 0)) true (rdH h k3 N3 fun l_4 => atK l_4 (o3 + 0) fun q_5 => asI .i64 (.c q_5) fun n_6 => lenK x0 fun n_7 => some ((decide (n_6 < n_7)), h)) false h fun b_8 h_9 => if b_8 = true then rdH h_9 k3 N3 fun l_10 => atK l_10 (o3 + 0) fun q_11 => asI .i64 (.c q_11) fun n_12 => idxSK 9 x0 n_12 fun k_13 N_14 o_15 => rdH h_9 k_13 N_14 fun l_16 => if o_15 + 9 ≤ l_16.length then if 0 = 0 ∧ (List.replicate 9 (Cell.int .i64 0)).length = 9 ∧ ((l_16.drop o_15).take 9).length = 9 then if 3 + 2 ≤ ((l_16.drop o_15).take 9).length then rdH h_9 k3 N3 fun l_17 => if o3 = 0 ∧ l_17.length = 5 then c1 (qh h_9 (C 108 [(.agg ((((l_16.drop o_15).take 9).drop 3).take 2)), (.agg l_17)] h_9)) fun y_19 h_18 => asI .i64 y_19 fun n_20 => if 6 + 2 ≤ ((l_16.drop o_15).take 9).length then rdH h_9 k3 N3 fun l_21 => if o3 = 0 ∧ l_21.length = 5 then c1 (qh h_9 (C 108 [(.agg ((((l_16.drop o_15).take 9).drop 6).take 2)), (.agg l_21)] h_9)) fun y_23 h_22 => asI .i64 y_23 fun n_24 => atK ((l_16.drop o_15).take 9) 0 fun q_25 => asI .i64 (.c q_25) fun n_26 => if (n_26 == 5) = true then atK ((l_16.drop o_15).take 9) 5 fun q_27 => asI .i64 (.c q_27) fun n_28 => c2 (C 125 [(.c (.int .i64 n_28)), (.c (.int .i64 n_20)), (.c (.int .i64 n_24))] h_9) fun y_30 y_31 h_29 => asI .i64 y_30 fun n_32 => asB y_31 fun b_33 => if b_33 = true then atK ((l_16.drop o_15).take 9) 1 fun q_34 => asI .i64 (.c q_34) fun n_35 => c0 (C 124 [(.c (.ptr k3 N3 o3)), (.c (.int .i64 n_35)), (.c (.int .i64 n_32))] h_29) fun h_36 => rdH h_36 k3 N3 fun l_37 => atK l_37 (o3 + 0) fun q_38 => asI .i64 (.c q_38) fun n_39 => rdH h_36 k3 N3 fun l_40 => if (o3 + 0) < l_40.length then putH h_36 k3 (l_40.set (o3 + 0) (.int .i64 (G.wrap .i64 (n_39 + 1)))) fun h_41 => some (.normal, (prog_normal_s1 x0 k3 N3 o3 s0 h_41)) else none else atK ((l_16.drop o_15).take 9) 1 fun q_42 => asI .i64 (.c q_42) fun n_43 => c0 (C 124 [(.c (.ptr k3 N3 o3)), (.c (.int .i64 n_43)), (.c (.int .i64 n_20))] h_29) fun h_44 => rdH h_44 k3 N3 fun l_45 => atK l_45 (o3 + 0) fun q_46 => asI .i64 (.c q_46) fun n_47 => rdH h_44 k3 N3 fun l_48 => if (o3 + 0) < l_48.length then putH h_44 k3 (l_48.set (o3 + 0) (.int .i64 (G.wrap .i64 (n_47 + 1)))) fun h_49 => some (.normal, (prog_normal_s1 x0 k3 N3 o3 s0 h_49)) else none else if (n_26 == 6) = true then if (n_20 == n_24) = true then rdH h_9 k3 N3 fun l_50 => atK l_50 (o3 + 0) fun q_51 => asI .i64 (.c q_51) fun n_52 => atK ((l_16.drop o_15).take 9) 8 fun q_53 => asI .i64 (.c q_53) fun n_54 => lenK x0 fun n_55 => let v_56 : Int := (if n_55 < (if 0 > n_54 then 0 else n_54) then n_55 else (if 0 > n_54 then 0 else n_54)); rdH h_9 k3 N3 fun l_57 => if (o3 + 0) < l_57.length then putH h_9 k3 (l_57.set (o3 + 0) (.int .i64 (G.wrap .i64 (n_52 + v_56)))) fun h_58 => rdH h_58 k3 N3 fun l_59 => atK l_59 (o3 + 0) fun q_60 => asI .i64 (.c q_60) fun n_61 => rdH h_58 k3 N3 fun l_62 => if (o3 + 0) < l_62.length then putH h_58 k3 (l_62.set (o3 + 0) (.int .i64 (G.wrap .i64 (n_61 + 1)))) fun h_63 => some (.normal, (prog_normal_s1 x0 k3 N3 o3 s0 h_63)) else none else none else rdH h_9 k3 N3 fun l_64 => atK l_64 (o3 + 0) fun q_65 => asI .i64 (.c q_65) fun n_66 => rdH h_9 k3 N3 fun l_67 => if (o3 + 0) < l_67.length then putH h_9 k3 (l_67.set (o3 + 0) (.int .i64 (G.wrap .i64 (n_66 + 1)))) fun h_68 => some (.normal, (prog_normal_s1 x0 k3 N3 o3 s0 h_68)) else none else rdH h_9 k3 N3 fun l_69 => if o3 = 0 ∧ l_69.length = 5 then if 0 = 0 ∧ s0.length = 5 ∧ l_69.length = 5 then some (.ret, (prog_normal_x1_0 l_69 h_9)) else none else none else none else none else none else none else none else none else some ((.exit 0), (prog_normal_x1_1 k3 N3 o3 s0 h_9)) := by kernel_rfl
theorem prog_normal_e1_0 (C : CallF) (L : LoopF) (G : Glo) (h0 : AHeap) (s0 : List Cell) (h : AHeap) :
    (prog_normal_k3 C L G h0) .ret (prog_normal_x1_0 s0 h) =
    if 0 = 0 ∧ s0.length = 5 then finish true h0 [(.agg s0)] h else none := by kernel_rfl
theorem prog_normal_e1_1 (C : CallF) (L : LoopF) (G : Glo) (h0 : AHeap) (k3 : Nat) (N3 : Nat) (o3 : Nat) (s0 : List Cell) (h : AHeap) :
    (prog_normal_k3 C L G h0) (.exit 0) (prog_normal_x1_1 k3 N3 o3 s0 h) =
    rdH h k3 N3 fun l_70 => if o3 = 0 ∧ l_70.length = 5 then if 0 = 0 ∧ s0.length = 5 ∧ l_70.length = 5 then if 0 = 0 ∧ l_70.length = 5 then finish true h0 [(.agg l_70)] h else none else none else none := by kernel_rfl
set_option maxRecDepth 100000 in
theorem prog_normal_eq (C : CallF) (L : LoopF) (G : Glo) (x0 : Cell) (l1 : List Cell) (h0 : AHeap) :
    prog_normal.body C L G [(.c x0), (.agg l1)] h0 =
    (L (prog_normal_F1 C L G) (prog_normal_s1 x0 h0.length ((AV.cells (.agg l1)).length) 0 [Cell.int .i64 0, Cell.int .i64 0, Cell.int .i64 0, Cell.int .i64 0, Cell.int .i64 0] (h0 ++ [some (Blk.mk true 0 (AV.cells (.agg l1)))]))).bind fun p_71 => (prog_normal_k3 C L G h0) p_71.1 p_71.2 := by kernel_rfl

/- jacquard/prog.set: 124 -/
set_option maxRecDepth 100000 in
theorem prog_set_eq (C : CallF) (L : LoopF) (G : Glo) (k0 : Nat) (N0 : Nat) (o0 : Nat) (a1 : Int) (a2 : Int) (h0 : AHeap) :
    prog_set.body C L G [(.c (.ptr k0 N0 o0)), (.c (.int .i64 a1)), (.c (.int .i64 a2))] h0 =
    scK (decide (a1 ≥ 0)) true (some ((decide (a1 < 4)), h0)) false h0 fun b_1 h_2 => if b_1 = true then if 0 ≤ a1 ∧ a1 < ((4 : Nat) : Int) then rdH h_2 k0 N0 fun l_3 => if ((o0 + 1) + ((Int.toNat a1) * 1)) < l_3.length then putH h_2 k0 (l_3.set ((o0 + 1) + ((Int.toNat a1) * 1)) (.int .i64 a2)) fun h_4 => some ([], h_4) else none else none else some ([], h_2) := by kernel_rfl

/- jacquard/prog.Ok: 188 -/
def prog_Ok_k2 (C : CallF) (L : LoopF) (G : Glo) (h0 : AHeap) : Ex → St → Option (List AV × AHeap) :=
  kSeq (fun st => prog_Ok_p1.exec C L G st (prog_Ok.fin G h0)) (prog_Ok.fin G h0)
def prog_Ok_k3 (C : CallF) (L : LoopF) (G : Glo) (h0 : AHeap) : Ex → St → Option (List AV × AHeap) :=
  kBlk 0 (prog_Ok_k2 C L G h0)
def prog_Ok_s1 (k1 : Nat) (N1 : Nat) (o1 : Nat) (x39 : Cell) (a40 : Int) (a41 : Int) (h : AHeap) : St := ⟨[.top, .v (.c (.ptr k1 N1 o1)), .top, .top, .top, .top, .top, .top, .top, .top, .top, .top, .top, .top, .top, .top, .top, .top, .top, .top, .top, .top, .top, .top, .top, .top, .top, .top, .top, .top, .top, .top, .top, .top, .top, .top, .top, .top, .top, .v (.c x39), .v (.c (.int .i64 a40)), .v (.c (.int .i64 a41)), .top, .top, .top, .top, .top, .top, .top, .top, .top, .top, .top, .top, .top, .top, .top, .top, .top, .top, .top, .top, .top, .top, .top, .top, .top, .top, .top, .top, .top, .top, .top, .top, .top, .top, .top, .top, .top, .top, .top, .top, .top, .top, .top, .top, .top], [], h⟩
def prog_Ok_F1 (C : CallF) (L : LoopF) (G : Glo) : St → Option (Ex × St) :=
  roundF (fun st f => prog_Ok_b1.exec C L G st f) [1, 39, 40, 41] [] [(0, [2], []), (1, [1], [])]
def prog_Ok_x1_0 (b2 : Bool) (h : AHeap) : St := ⟨[.top, .top, .v (.c (.bool b2)), .top, .top, .top, .top, .top, .top, .top, .top, .top, .top, .top, .top, .top, .top, .top, .top, .top, .top, .top, .top, .top, .top, .top, .top, .top, .top, .top, .top, .top, .top, .top, .top, .top, .top, .top, .top, .top, .top, .top, .top, .top, .top, .top, .top, .top, .top, .top, .top, .top, .top, .top, .top, .top, .top, .top, .top, .top, .top, .top, .top, .top, .top, .top, .top, .top, .top, .top, .top, .top, .top, .top, .top, .top, .top, .top, .top, .top, .top, .top, .top, .top, .top, .top, .top], [], h⟩
def prog_Ok_x1_1 (k1 : Nat) (N1 : Nat) (o1 : Nat) (h : AHeap) : St := ⟨[.top, .v (.c (.ptr k1 N1 o1)), .top, .top, .top, .top, .top, .top, .top, .top, .top, .top, .top, .top, .top, .top, .top, .top, .top, .top, .top, .top, .top, .top, .top, .top, .top, .top, .top, .top, .top, .top, .top, .top, .top, .top, .top, .top, .top, .top, .top, .top, .top, .top, .top, .top, .top, .top, .top, .top, .top, .top, .top, .top, .top, .top, .top, .top, .top, .top, .top, .top, .top, .top, .top, .top, .top, .top, .top, .top, .top, .top, .top, .top, .top, .top, .top, .top, .top, .top, .top, .top, .top, .top, .top, .top, .top], [], h⟩
def prog_Ok_k4 (C : CallF) (L : LoopF) (G : Glo) (h0 : AHeap) : Ex → St → Option (List AV × AHeap) :=
  kSeq (fun st => prog_Ok_p2.exec C L G st (prog_Ok.fin G h0)) (prog_Ok.fin G h0)
def prog_Ok_k5 (C : CallF) (L : LoopF) (G : Glo) (h0 : AHeap) : Ex → St → Option (List AV × AHeap) :=
  kBlk 2 (prog_Ok_k4 C L G h0)
def prog_Ok_s2 (k5 : Nat) (N5 : Nat) (o5 : Nat) (x67 : Cell) (a68 : Int) (a69 : Int) (h : AHeap) : St := ⟨[.top, .top, .top, .top, .top, .v (.c (.ptr k5 N5 o5)), .top, .top, .top, .top, .top, .top, .top, .top, .top, .top, .top, .top, .top, .top, .top, .top, .top, .top, .top, .top, .top, .top, .top, .top, .top, .top, .top, .top, .top, .top, .top, .top, .top, .top, .top, .top, .top, .top, .top, .top, .top, .top, .top, .top, .top, .top, .top, .top, .top, .top, .top, .top, .top, .top, .top, .top, .top, .top, .top, .top, .top, .v (.c x67), .v (.c (.int .i64 a68)), .v (.c (.int .i64 a69)), .top, .top, .top, .top, .top, .top, .top, .top, .top, .top, .top, .top, .top, .top, .top, .top, .top], [], h⟩
def prog_Ok_F2 (C : CallF) (L : LoopF) (G : Glo) : St → Option (Ex × St) :=
  roundF (fun st f => prog_Ok_b2.exec C L G st f) [5, 67, 68, 69] [] [(0, [2], []), (3, [], [])]
def prog_Ok_x2_0 (b2 : Bool) (h : AHeap) : St := ⟨[.top, .top, .v (.c (.bool b2)), .top, .top, .top, .top, .top, .top, .top, .top, .top, .top, .top, .top, .top, .top, .top, .top, .top, .top, .top, .top, .top, .top, .top, .top, .top, .top, .top, .top, .top, .top, .top, .top, .top, .top, .top, .top, .top, .top, .top, .top, .top, .top, .top, .top, .top, .top, .top, .top, .top, .top, .top, .top, .top, .top, .top, .top, .top, .top, .top, .top, .top, .top, .top, .top, .top, .top, .top, .top, .top, .top, .top, .top, .top, .top, .top, .top, .top, .top, .top, .top, .top, .top, .top, .top], [], h⟩
def prog_Ok_x2_3 (h : AHeap) : St := ⟨[.top, .top, .top, .top, .top, .top, .top, .top, .top, .top, .top, .top, .top, .top, .top, .top, .top, .top, .top, .top, .top, .top, .top, .top, .top, .top, .top, .top, .top, .top, .top, .top, .top, .top, .top, .top, .top, .top, .top, .top, .top, .top, .top, .top, .top, .top, .top, .top, .top, .top, .top, .top, .top, .top, .top, .top, .top, .top, .top, .top, .top, .top, .top, .top, .top, .top, .top, .top, .top, .top, .top, .top, .top, .top, .top, .top, .top, .top, .top, .top, .top, .top, .top, .top, .top, .top, .top], [], h⟩
theorem prog_Ok_r1 (C : CallF) (L : LoopF) (G : Glo) (k1 : Nat) (N1 : Nat) (o1 : Nat) (x39 : Cell) (a40 : Int) (a41 : Int) (h : AHeap) :
    prog_Ok_F1 C L G (prog_Ok_s1 k1 N1 o1 x39 a40 a41 h) =
    if (decide (a41 < a40)) = true then idxSK 1 x39 a41 fun k_31 N_32 o_33 => rdH h k_31 N_32 fun l_34 => atK l_34 o_33 fun q_35 => asI .u8 (.c q_35) fun n_36 => c1 (C 158 [(.c (.int .i64 (G.wrap .i64 n_36)))] h) fun y_38 h_37 => asB y_38 fun b_39 => scK (!b_39) false (scK (decide (a41 > 0)) true (rdH h_37 k1 N1 fun l_40 => atK l_40 (o1 + 0) fun q_41 => idxSK 1 q_41 (G.wrap .i64 (a41 - 1)) fun k_42 N_43 o_44 => rdH h_37 k_42 N_43 fun l_45 => atK l_45 o_44 fun q_46 => asI .u8 (.c q_46) fun n_47 => some ((decide (n_36 ≤ n_47)), h_37)) false h_37 fun b_48 h_49 => some (b_48, h_49)) true h_37 fun b_50 h_51 => if b_50 = true then some (.ret, (prog_Ok_x1_0 false h_51)) else some (.normal, (prog_Ok_s1 k1 N1 o1 x39 a40 (G.wrap .i64 (a41 + 1)) h_51)) else some ((.exit 0), (prog_Ok_x1_1 k1 N1 o1 h)) := by kernel_rfl
theorem prog_Ok_e1_0 (C : CallF) (L : LoopF) (G : Glo) (h0 : AHeap) (b2 : Bool) (h : AHeap) :
    (prog_Ok_k3 C L G h0) .ret (prog_Ok_x1_0 b2 h) =
    finish true h0 [(.c (.bool b2))] h := by kernel_rfl
theorem prog_Ok_r2 (C : CallF) (L : LoopF) (G : Glo) (k5 : Nat) (N5 : Nat) (o5 : Nat) (x67 : Cell) (a68 : Int) (a69 : Int) (h : AHeap) :
    prog_Ok_F2 C L G (prog_Ok_s2 k5 N5 o5 x67 a68 a69 h) =
    if (decide (a69 < a68)) = true then idxSK 1 x67 a69 fun k_57 N_58 o_59 => rdH h k_57 N_58 fun l_60 => atK l_60 o_59 fun q_61 => lenK q_61 fun n_62 => scK (decide (n_62 > 10)) false (c1 (C 148 [(.c q_61)] h) fun y_64 h_63 => asB y_64 fun b_65 => some ((!b_65), h_63)) true h fun b_66 h_67 => scK b_66 false (c1 (C 155 [(.c q_61), (.c (.fn 201 [(k5, N5, o5)]))] h_67) fun y_69 h_68 => asB y_69 fun b_70 => some (b_70, h_68)) true h_67 fun b_71 h_72 => if b_71 = true then some (.ret, (prog_Ok_x2_0 false h_72)) else some (.normal, (prog_Ok_s2 k5 N5 o5 x67 a68 (G.wrap .i64 (a69 + 1)) h_72)) else some ((.exit 2), (prog_Ok_x2_3 h)) := by kernel_rfl
theorem prog_Ok_e2_0 (C : CallF) (L : LoopF) (G : Glo) (h0 : AHeap) (b2 : Bool) (h : AHeap) :
    (prog_Ok_k5 C L G h0) .ret (prog_Ok_x2_0 b2 h) =
    finish true h0 [(.c (.bool b2))] h := by kernel_rfl
theorem prog_Ok_e2_3 (C : CallF) (L : LoopF) (G : Glo) (h0 : AHeap) (h : AHeap) :
    (prog_Ok_k5 C L G h0) (.exit 2) (prog_Ok_x2_3 h) =
    finish true h0 [(.c (.bool true))] h := by kernel_rfl
theorem prog_Ok_e1_1 (C : CallF) (L : LoopF) (G : Glo) (h0 : AHeap) (k1 : Nat) (N1 : Nat) (o1 : Nat) (h : AHeap) :
    (prog_Ok_k3 C L G h0) (.exit 0) (prog_Ok_x1_1 k1 N1 o1 h) =
    rdH (h ++ [some (Blk.mk true 0 ([Cell.nilf]))]) h.length (([Cell.nilf]).length) fun l_52 => if 0 < l_52.length then putH (h ++ [some (Blk.mk true 0 ([Cell.nilf]))]) h.length (l_52.set 0 (.fn 200 [(k1, N1, o1)])) fun h_53 => rdH h_53 k1 N1 fun l_54 => atK l_54 (o1 + 2) fun q_55 => lenK q_55 fun n_56 => (L (prog_Ok_F2 C L G) (prog_Ok_s2 h.length (([Cell.nilf]).length) 0 q_55 n_56 0 h_53)).bind fun p_73 => (prog_Ok_k5 C L G h0) p_73.1 p_73.2 else none := by kernel_rfl
set_option maxRecDepth 100000 in
theorem prog_Ok_eq (C : CallF) (L : LoopF) (G : Glo) (l0 : List Cell) (h0 : AHeap) :
    prog_Ok.body C L G [(.agg l0)] h0 =
    rdH (h0 ++ [some (Blk.mk true 0 (AV.cells (.agg l0)))]) h0.length ((AV.cells (.agg l0)).length) fun l_1 => atK l_1 2 fun q_2 => lenK q_2 fun n_3 => scK (n_3 == 0) false (rdH (h0 ++ [some (Blk.mk true 0 (AV.cells (.agg l0)))]) h0.length ((AV.cells (.agg l0)).length) fun l_4 => atK l_4 2 fun q_5 => lenK q_5 fun n_6 => some ((decide (n_6 > 4)), (h0 ++ [some (Blk.mk true 0 (AV.cells (.agg l0)))]))) true (h0 ++ [some (Blk.mk true 0 (AV.cells (.agg l0)))]) fun b_7 h_8 => scK b_7 false (rdH h_8 h0.length ((AV.cells (.agg l0)).length) fun l_9 => atK l_9 0 fun q_10 => lenK q_10 fun n_11 => some ((decide (n_11 > 4)), h_8)) true h_8 fun b_12 h_13 => scK b_12 false (rdH h_13 h0.length ((AV.cells (.agg l0)).length) fun l_14 => atK l_14 1 fun q_15 => lenK q_15 fun n_16 => rdH h_13 h0.length ((AV.cells (.agg l0)).length) fun l_17 => atK l_17 0 fun q_18 => lenK q_18 fun n_19 => some ((n_16 != n_19), h_13)) true h_13 fun b_20 h_21 => scK b_20 false (rdH h_21 h0.length ((AV.cells (.agg l0)).length) fun l_22 => if 0 = 0 ∧ l_22.length = 3 then c1 (C 102 [(.agg l_22)] h_21) fun y_24 h_23 => asI .i64 y_24 fun n_25 => some ((decide (n_25 > 24)), h_23) else none) true h_21 fun b_26 h_27 => if b_26 = true then finish true h0 [(.c (.bool false))] h_27 else rdH h_27 h0.length ((AV.cells (.agg l0)).length) fun l_28 => atK l_28 0 fun q_29 => lenK q_29 fun n_30 => (L (prog_Ok_F1 C L G) (prog_Ok_s1 h0.length ((AV.cells (.agg l0)).length) 0 q_29 n_30 0 h_27)).bind fun p_74 => (prog_Ok_k3 C L G h0) p_74.1 p_74.2 := by kernel_rfl

/- jacquard/prog.Ok$1: 200 -/
set_option maxRecDepth 100000 in
theorem prog_Ok_1_eq (C : CallF) (L : LoopF) (G : Glo) (a0 : Int) (k1 : Nat) (N1 : Nat) (o1 : Nat) (h0 : AHeap) :
    prog_Ok_1.body C L G [(.c (.int .i64 a0)), (.c (.ptr k1 N1 o1))] h0 =
    scK (decide (a0 ≥ 0)) true (rdH h0 k1 N1 fun l_1 => atK l_1 (o1 + 0) fun q_2 => lenK q_2 fun n_3 => some ((decide (a0 < n_3)), h0)) false h0 fun b_4 h_5 => some ([(.c (.bool b_4))], h_5) := by kernel_rfl

/- jacquard/prog.Ok$2: 201 -/
set_option maxRecDepth 100000 in
theorem prog_Ok_2_eq (C : CallF) (L : LoopF) (G : Glo) (l0 : List Cell) (k1 : Nat) (N1 : Nat) (o1 : Nat) (h0 : AHeap) :
    prog_Ok_2.body C L G [(.agg l0), (.c (.ptr k1 N1 o1))] h0 =
    if 0 = 0 ∧ l0.length = 9 then rdH h0 k1 N1 fun l_1 => atK l_1 o1 fun q_2 => c1 (C 159 [(.agg l0), (.c q_2)] h0) fun y_4 h_3 => asB y_4 fun b_5 => some ([(.c (.bool (!b_5)))], h_3) else none := by kernel_rfl


end Jq

namespace Jq
open Go

/- jacquard/num.Do: 125 -/
set_option maxRecDepth 100000 in
theorem num_Do_eq (C : CallF) (L : LoopF) (G : Glo) (a0 : Int) (a1 : Int) (a2 : Int) (h0 : AHeap) :
    num_Do.body C L G [(.c (.int .i64 a0)), (.c (.int .i64 a1)), (.c (.int .i64 a2))] h0 =
    if (a0 == 1) = true then some ([(.c (.int .i64 (G.wrap .i64 (a1 + a2)))), (.c (.bool true))], h0) else if (a0 == 2) = true then some ([(.c (.int .i64 (G.wrap .i64 (a1 - a2)))), (.c (.bool true))], h0) else if (a0 == 3) = true then some ([(.c (.int .i64 (G.wrap .i64 (a1 * a2)))), (.c (.bool true))], h0) else if (a0 == 4) = true then some ([(.c (.int .i64 (G.band .i64 a1 a2))), (.c (.bool true))], h0) else if (a0 == 5) = true then some ([(.c (.int .i64 (G.bor .i64 a1 a2))), (.c (.bool true))], h0) else if (a0 == 6) = true then some ([(.c (.int .i64 (G.bxor .i64 a1 a2))), (.c (.bool true))], h0) else if (a0 == 7) = true then if (G.rem .u64 (G.wrap .u64 a2) 64) < 0 then none else let v_1 : Int := (G.shl .i64 a1 (G.rem .u64 (G.wrap .u64 a2) 64)); some ([(.c (.int .i64 v_1)), (.c (.bool true))], h0) else if (a0 == 8) = true then if (G.rem .u64 (G.wrap .u64 a2) 64) < 0 then none else let v_2 : Int := (G.shr .i64 a1 (G.rem .u64 (G.wrap .u64 a2) 64)); some ([(.c (.int .i64 v_2)), (.c (.bool true))], h0) else if (a0 == 9) = true then c1 (C 139 [(.c (.bool (a1 == a2)))] h0) fun y_4 h_3 => asI .i64 y_4 fun n_5 => some ([(.c (.int .i64 n_5)), (.c (.bool true))], h_3) else if (a0 == 10) = true then c1 (C 139 [(.c (.bool (a1 != a2)))] h0) fun y_7 h_6 => asI .i64 y_7 fun n_8 => some ([(.c (.int .i64 n_8)), (.c (.bool true))], h_6) else if (a0 == 11) = true then c1 (C 139 [(.c (.bool (decide (a1 < a2))))] h0) fun y_10 h_9 => asI .i64 y_10 fun n_11 => some ([(.c (.int .i64 n_11)), (.c (.bool true))], h_9) else some ([(.c (.int .i64 0)), (.c (.bool false))], h0) := by kernel_rfl

/- jacquard/num.one: 139 -/
set_option maxRecDepth 100000 in
theorem num_one_eq (C : CallF) (L : LoopF) (G : Glo) (b0 : Bool) (h0 : AHeap) :
    num_one.body C L G [(.c (.bool b0))] h0 =
    if b0 = true then some ([(.c (.int .i64 1))], h0) else some ([(.c (.int .i64 0))], h0) := by kernel_rfl


end Jq

/- Programs: instructions, where a thread is; what is done at once. -/
namespace Jq
open Go

structure Opd where
  reg : Int
  val : Int
  deriving DecidableEq
structure Ins where
  kind : Int
  reg : Int
  loc : Int
  a : Opd
  op : Int
  b : Opd
  n : Int
  deriving DecidableEq
structure Lcl where
  pc : Int
  r0 : Int
  r1 : Int
  r2 : Int
  r3 : Int
  deriving DecidableEq

def Opd.cs (o : Opd) : List Cell := [.int .i64 o.reg, .int .i64 o.val]
def Ins.cs (i : Ins) : List Cell := [.int .i64 i.kind, .int .i64 i.reg, .int .i64 i.loc, .int .i64 i.a.reg, .int .i64 i.a.val, .int .i64 i.op, .int .i64 i.b.reg, .int .i64 i.b.val, .int .i64 i.n]
def Lcl.cs (l : Lcl) : List Cell := [.int .i64 l.pc, .int .i64 l.r0, .int .i64 l.r1, .int .i64 l.r2, .int .i64 l.r3]
def codeC (l : List Ins) : List Cell := l.flatMap Ins.cs
def Ins.zero : Ins := ⟨0, 0, 0, ⟨0, 0⟩, 0, ⟨0, 0⟩, 0⟩
def Lcl.zero : Lcl := ⟨0, 0, 0, 0, 0⟩

theorem Ins.len (i : Ins) : i.cs.length = 9 := rfl
theorem Lcl.len (l : Lcl) : l.cs.length = 5 := rfl
theorem zero5 : [Cell.int .i64 0, Cell.int .i64 0, Cell.int .i64 0, Cell.int .i64 0, Cell.int .i64 0] = Lcl.zero.cs := rfl

theorem codeC_len : ∀ l : List Ins, (codeC l).length = l.length * 9
  | [] => rfl
  | s :: l => by simp only [codeC, List.flatMap_cons, List.length_append]; rw [show (l.flatMap _).length = _ from codeC_len l, Ins.len]; simp; omega

theorem codeC_at : ∀ (l : List Ins) (i : Nat) (s : Ins), l[i]? = some s → ((codeC l).drop (i * 9)).take 9 = s.cs
  | [], _, _, h => by simp at h
  | q :: l, 0, s, h => by simp at h; subst h; rfl
  | q :: l, i + 1, s, h => by
    have := codeC_at l i s (by simpa using h)
    have e : codeC (q :: l) = q.cs ++ codeC l := rfl
    rw [e, List.drop_append, List.drop_of_length_le (by rw [Ins.len]; omega), List.nil_append, show (i + 1) * 9 - q.cs.length = i * 9 by rw [Ins.len]; omega]
    exact this

/-- One instruction, wherever it is looked at. -/
theorem SlAt.insG {h : AHeap} {x : Cell} {l : List Ins} (s : SlAt h x 9 (codeC l) l.length) {i : Nat} {q : Ins} (hq : l[i]? = some q) :
    ∃ off cs', (∀ {α : Type} (G : Nat → List Cell → Option α), (idxSK 9 x (i : Int) fun k N o => rdH h k N fun l => G o l) = G off cs') ∧ off + 9 ≤ cs'.length ∧ (cs'.drop off).take 9 = q.cs := by
  have hi : i < l.length := by
    rcases Nat.lt_or_ge i l.length with h | h
    · exact h
    · rw [List.getElem?_eq_none h] at hq; cases hq
  obtain ⟨off, cs', h1, h2, h3⟩ := s.elG hi
  exact ⟨off, cs', h1, h2, h3.trans (codeC_at l i q hq)⟩

/-- A register. -/
def Lcl.reg (l : Lcl) (i : Int) : Int := if i = 0 then l.r0 else if i = 1 then l.r1 else if i = 2 then l.r2 else l.r3
/-- A register set, if there is one. -/
def Lcl.setR (l : Lcl) (i v : Int) : Lcl := if i = 0 then { l with r0 := v } else if i = 1 then { l with r1 := v } else if i = 2 then { l with r2 := v } else if i = 3 then { l with r3 := v } else l
/-- An operand's number. -/
def opV (o : Opd) (l : Lcl) : Int := if 0 ≤ o.reg ∧ o.reg < 4 then l.reg o.reg else o.val

/-- Numbers as they are, no tables. -/
def GN : Glo := Glo.std fun _ => []

/-- What a sign makes of two numbers. -/
def doV (op a b : Int) : Option Int :=
  if op = 1 then some (GN.wrap .i64 (a + b)) else if op = 2 then some (GN.wrap .i64 (a - b)) else if op = 3 then some (GN.wrap .i64 (a * b))
  else if op = 4 then some (GN.band .i64 a b) else if op = 5 then some (GN.bor .i64 a b) else if op = 6 then some (GN.bxor .i64 a b)
  else if op = 7 then some (GN.shl .i64 a (GN.rem .u64 (GN.wrap .u64 b) 64)) else if op = 8 then some (GN.shr .i64 a (GN.rem .u64 (GN.wrap .u64 b) 64))
  else if op = 9 then some (if a = b then 1 else 0) else if op = 10 then some (if a = b then 0 else 1) else if op = 11 then some (if a < b then 1 else 0) else none

/-- One instruction that is done at once, if one comes. -/
def stepI (code : List Ins) (l : Lcl) : Option Lcl :=
  if 0 ≤ l.pc then match code[l.pc.toNat]? with
    | none => none
    | some i =>
      if i.kind = 5 then
        let m := l.setR i.reg ((doV i.op (opV i.a l) (opV i.b l)).getD (opV i.a l))
        some { m with pc := m.pc + 1 }
      else if i.kind = 6 then
        (if opV i.a l = opV i.b l then some { l with pc := l.pc + min (max i.n 0) code.length + 1 } else some { l with pc := l.pc + 1 })
      else none
  else none

def nrm (code : List Ins) : Nat → Lcl → Lcl
  | 0, l => l
  | k + 1, l => match stepI code l with
    | none => l
    | some l' => nrm code k l'

/-- Made normal. -/
def normL (code : List Ins) (l : Lcl) : Lcl := nrm code code.length l

theorem getI_lt {α : Type} {l : List α} {i : Nat} {v : α} (h : l[i]? = some v) : i < l.length := by
  rcases Nat.lt_or_ge i l.length with h1 | h1
  · exact h1
  · rw [List.getElem?_eq_none h1] at h; cases h

theorem Lcl.setR_pc (l : Lcl) (i v : Int) : (l.setR i v).pc = l.pc := by unfold Lcl.setR; repeat' split <;> try rfl

theorem stepI_pc {code : List Ins} {l l' : Lcl} (h : stepI code l = some l') : 0 ≤ l.pc ∧ l.pc < code.length ∧ l.pc < l'.pc ∧ l'.pc ≤ 2 * code.length := by
  unfold stepI at h
  split at h
  · rename_i h0
    cases hi : code[l.pc.toNat]? with
    | none => rw [hi] at h; cases h
    | some i =>
      rw [hi] at h
      have hlt := getI_lt hi
      simp only at h
      split at h
      · cases h
        have := l.setR_pc i.reg ((doV i.op (opV i.a l) (opV i.b l)).getD (opV i.a l))
        refine ⟨h0, by omega, ?_, ?_⟩ <;> simp only [this] <;> omega
      · split at h
        · split at h
          · cases h; refine ⟨h0, by omega, ?_, ?_⟩ <;> simp only <;> omega
          · cases h; refine ⟨h0, by omega, ?_, ?_⟩ <;> simp only <;> omega
        · cases h
  · cases h

section
variable {E : Env}

theorem lcl_get {l : Lcl} {i : Int} (h0 : 0 ≤ i) (h1 : i < 4) : l.cs[1 + Int.toNat i * 1]? = some (.int .i64 (l.reg i)) := by
  have h : i = 0 ∨ i = 1 ∨ i = 2 ∨ i = 3 := by omega
  rcases h with rfl | rfl | rfl | rfl <;> rfl

theorem lcl_set {l : Lcl} {i v : Int} (h0 : 0 ≤ i) (h1 : i < 4) : l.cs.set (1 + Int.toNat i * 1) (.int .i64 v) = (l.setR i v).cs := by
  have h : i = 0 ∨ i = 1 ∨ i = 2 ∨ i = 3 := by omega
  rcases h with rfl | rfl | rfl | rfl <;> rfl

theorem Value_R (hE : prog_Value_In E) (o : Opd) (l : Lcl) (h : AHeap) : R E 108 [.agg o.cs, .agg l.cs] h = some ([.c (.int .i64 (opV o l))], h) := by
  refine R_intro hE.fn ?_
  have a0 : ∀ {α : Type} (f : Cell → Option α), atK o.cs 0 f = f (.int .i64 o.reg) := fun _ => rfl
  have a1 : ∀ {α : Type} (f : Cell → Option α), atK o.cs 1 f = f (.int .i64 o.val) := fun _ => rfl
  unfold opV
  rw [prog_Value_eq]
  simp only [a0, a1, asI_ok, scK_and]
  by_cases h1 : 0 ≤ o.reg ∧ o.reg < 4
  · rw [if_pos (by simp; exact h1), if_pos ⟨h1.1, h1.2⟩, if_pos h1, atK_ok (lcl_get h1.1 h1.2), asI_ok]
  · rw [if_neg (by simp; omega), if_neg h1]

theorem set_R (hE : prog_set_In E) (i v : Int) {l : Lcl} {k : Nat} {h : AHeap} (hk : blk? h k = some ⟨true, 0, l.cs⟩) :
    R E 124 [.c (.ptr k 5 0), .c (.int .i64 i), .c (.int .i64 v)] h = some ([], setBlk h k (some ⟨true, 0, (l.setR i v).cs⟩)) := by
  refine R_intro hE.fn ?_
  rw [prog_set_eq, scK_and]
  by_cases h1 : 0 ≤ i ∧ i < 4
  · rw [if_pos (by simp; exact h1), if_pos ⟨h1.1, h1.2⟩, rdH_ok hk (Lcl.len l), if_pos (by rw [Lcl.len]; omega), show 0 + 1 + Int.toNat i * 1 = 1 + Int.toNat i * 1 by omega, lcl_set h1.1 h1.2, putH_ok hk rfl]
  · have e : l.setR i v = l := by unfold Lcl.setR; rw [if_neg (by omega), if_neg (by omega), if_neg (by omega), if_neg (by omega)]
    have e2 : setBlk h k (some ⟨true, 0, l.cs⟩) = h := by
      refine List.ext_getElem? fun j => ?_
      unfold setBlk
      rw [List.getElem?_set]
      by_cases hj : k = j
      · subst hj
        rw [if_pos rfl, if_pos (blk_lt' hk)]
        unfold blk? at hk
        cases hh : h[k]? with
        | none => rw [hh] at hk; cases hk
        | some b => rw [hh] at hk; simp at hk; rw [hk]
      · rw [if_neg hj]
    rw [if_neg (by simp; omega), e, e2]

theorem one_R (hE : num_one_In E) (b : Bool) (h : AHeap) : R E 139 [.c (.bool b)] h = some ([.c (.int .i64 (if b = true then 1 else 0))], h) := by
  refine R_intro hE.fn ?_
  rw [num_one_eq]
  cases b <;> rfl

theorem Do_R (hE : num_Do_In E) (op a b : Int) (h : AHeap) : R E 125 [.c (.int .i64 op), .c (.int .i64 a), .c (.int .i64 b)] h = some ([.c (.int .i64 ((doV op a b).getD 0)), .c (.bool (doV op a b).isSome)], h) := by
  refine R_intro hE.fn ?_
  rw [num_Do_eq]
  simp only [one_R hE.c139, c1_ok, asI_ok]
  have hr : ∀ x : Int, ¬ E.glob.rem .u64 (E.glob.wrap .u64 x) 64 < 0 := by
    intro x
    show ¬ Int.tmod (IntKind.wrap .u64 x) 64 < 0
    have h0 : 0 ≤ IntKind.wrap .u64 x := by
      simp only [IntKind.wrap, IntKind.signed, IntKind.bits, Bool.false_and, Bool.false_eq_true, if_false]
      exact Int.emod_nonneg _ (by omega)
    rw [Int.tmod_eq_emod_of_nonneg h0]
    have := Int.emod_nonneg (IntKind.wrap .u64 x) (b := 64) (by omega)
    omega
  simp only [hr, if_false]
  unfold doV
  have key : ∀ k : Int, ((op == k) = true) = (op = k) := fun k => by rw [beq_iff_eq]
  simp only [key]
  by_cases h1 : op = 1
  · simp only [if_pos h1]; rfl
  simp only [if_neg h1]
  by_cases h2 : op = 2
  · simp only [if_pos h2]; rfl
  simp only [if_neg h2]
  by_cases h3 : op = 3
  · simp only [if_pos h3]; rfl
  simp only [if_neg h3]
  by_cases h4 : op = 4
  · simp only [if_pos h4]; rfl
  simp only [if_neg h4]
  by_cases h5 : op = 5
  · simp only [if_pos h5]; rfl
  simp only [if_neg h5]
  by_cases h6 : op = 6
  · simp only [if_pos h6]; rfl
  simp only [if_neg h6]
  by_cases h7 : op = 7
  · simp only [if_pos h7]; rfl
  simp only [if_neg h7]
  by_cases h8 : op = 8
  · simp only [if_pos h8]; rfl
  simp only [if_neg h8]
  by_cases h9 : op = 9
  · simp only [if_pos h9]; (by_cases hab : a = b <;> simp [hab])
  simp only [if_neg h9]
  by_cases h10 : op = 10
  · simp only [if_pos h10]; (by_cases hab : a = b <;> simp [hab])
  simp only [if_neg h10]
  by_cases h11 : op = 11
  · simp only [if_pos h11]; (by_cases hab : a < b <;> simp [hab])
  simp only [if_neg h11]
  rfl

end
end Jq

/- RelAlgebra: joining and meeting are the same both ways; turned twice a relation is itself; closed twice it is closed. -/
namespace Jq
open Go

variable {E : Env}

end Jq

/- Relations told once more, by hand: closing, none leading to itself, cutting down, whether two are the same. -/
namespace Jq
open Go

theorem Low_mono {n m : Nat} (hm : n ≤ m) : ∀ {x : Cell}, Low n x → Low m x := by
  intro x h
  unfold Low at *
  split <;> simp_all
  omega

/-- What holds, over r. -/
def ACC (r : Nat) (q : Nat → Nat → Bool) : Nat → Nat := fun a => mkN fun b => decide (a < r) && decide (b < r) && q a b

variable {E : Env}

/-- Up to row i, place j. -/
def upto (i j a b : Nat) : Bool := decide (a < i) || (decide (a = i) && decide (b < j))

end Jq

/- Programs: made normal, begun, gone on. -/
namespace Jq
open Go

section
variable {E : Env}

theorem rdL {α : Type} {h : AHeap} {k : Nat} {l : Lcl} (hk : blk? h k = some ⟨true, 0, l.cs⟩) {F : List Cell → Option α} : rdH h k 5 F = F l.cs := rdH_ok hk rfl
theorem lcl_pc {α : Type} {l : Lcl} {f : Cell → Option α} : atK l.cs 0 f = f (.int .i64 l.pc) := rfl
theorem lcl_pc' {α : Type} {l : Lcl} {f : Cell → Option α} : atK l.cs (0 + 0) f = f (.int .i64 l.pc) := rfl
theorem lcl_setpc {l : Lcl} {v : Int} : l.cs.set 0 (.int .i64 v) = ({ l with pc := v } : Lcl).cs := rfl
theorem lcl_setpc' {l : Lcl} {v : Int} : l.cs.set (0 + 0) (.int .i64 v) = ({ l with pc := v } : Lcl).cs := rfl
theorem ins_kind {α : Type} {i : Ins} {f : Cell → Option α} : atK i.cs 0 f = f (.int .i64 i.kind) := rfl
theorem ins_reg {α : Type} {i : Ins} {f : Cell → Option α} : atK i.cs 1 f = f (.int .i64 i.reg) := rfl
theorem ins_loc {α : Type} {i : Ins} {f : Cell → Option α} : atK i.cs 2 f = f (.int .i64 i.loc) := rfl
theorem ins_op {α : Type} {i : Ins} {f : Cell → Option α} : atK i.cs 5 f = f (.int .i64 i.op) := rfl
theorem ins_n {α : Type} {i : Ins} {f : Cell → Option α} : atK i.cs 8 f = f (.int .i64 i.n) := rfl
theorem ins_a {i : Ins} : (i.cs.drop 3).take 2 = i.a.cs := rfl
theorem ins_b {i : Ins} : (i.cs.drop 6).take 2 = i.b.cs := rfl

theorem avOk_lcl (m : Nat) (l : Lcl) : avOk m (.agg l.cs) = true := by simp [avOk, AV.cells, Lcl.cs, idOk]

theorem normal_round (hE : prog_normal_In E) {x : Cell} {code : List Ins} {h : AHeap} (hlen : code.length < 4000000000000000000) (z : List Cell) (l : Lcl) (hx : SlAt (h ++ [some ⟨true, 0, l.cs⟩]) x 9 (codeC code) code.length) :
    prog_normal_F1 (R E) Lim E.glob (prog_normal_s1 x h.length 5 0 z (h ++ [some ⟨true, 0, l.cs⟩])) = match stepI code l with
      | some l' => some (.normal, prog_normal_s1 x h.length 5 0 z (h ++ [some ⟨true, 0, l'.cs⟩]))
      | none => if 0 ≤ l.pc ∧ l.pc < code.length then (if z.length = 5 then some (.ret, prog_normal_x1_0 l.cs (h ++ [some ⟨true, 0, l.cs⟩])) else none) else some (.exit 0, prog_normal_x1_1 h.length 5 0 z (h ++ [some ⟨true, 0, l.cs⟩])) := by
  have hb : ∀ l : Lcl, blk? (h ++ [some ⟨true, 0, l.cs⟩]) h.length = some ⟨true, 0, l.cs⟩ := fun l => blk_new _ _
  rw [prog_normal_r1, rdL (hb l), lcl_pc', asI_ok]
  by_cases h0 : 0 ≤ l.pc
  · rw [show decide (l.pc ≥ 0) = true from decide_eq_true h0, scK_ok, rdL (hb l), lcl_pc', asI_ok, hx.len, bind_ok]
    dsimp only
    by_cases h1 : l.pc < code.length
    · obtain ⟨p, hp⟩ : ∃ p : Nat, l.pc = (p : Int) := ⟨l.pc.toNat, by omega⟩
      have hpl : p < code.length := by omega
      have hq : code[p]? = some code[p] := List.getElem?_eq_getElem hpl
      generalize code[p] = i at hq
      obtain ⟨off, cs', hG0, hle, hcs⟩ := hx.insG hq
      have hG : ∀ {α : Type} (G : Nat → List Cell → Option α), (idxSK 9 x l.pc fun k N o => rdH (h ++ [some ⟨true, 0, l.cs⟩]) k N fun l => G o l) = G off cs' := by intro α G; rw [hp]; exact hG0 G
      have hst : stepI code l = if i.kind = 5 then
          some { (l.setR i.reg ((doV i.op (opV i.a l) (opV i.b l)).getD (opV i.a l))) with pc := (l.setR i.reg ((doV i.op (opV i.a l) (opV i.b l)).getD (opV i.a l))).pc + 1 }
        else if i.kind = 6 then (if opV i.a l = opV i.b l then some { l with pc := l.pc + min (max i.n 0) code.length + 1 } else some { l with pc := l.pc + 1 }) else none := by
        unfold stepI
        rw [if_pos h0, show l.pc.toNat = p by omega, hq]
      rw [hst, if_pos (decide_eq_true h1), rdL (hb l), lcl_pc', asI_ok, hG, if_pos hle, hcs, if_pos ⟨rfl, rfl, rfl⟩, if_pos (show 3 + 2 ≤ i.cs.length by rw [Ins.len]; omega), rdL (hb l), if_pos ⟨rfl, rfl⟩, ins_a, Value_R hE.c108, qh_ok, c1_ok, asI_ok, if_pos (show 6 + 2 ≤ i.cs.length by rw [Ins.len]; omega), rdL (hb l), if_pos ⟨rfl, rfl⟩, ins_b, Value_R hE.c108, qh_ok, c1_ok, asI_ok, ins_kind, asI_ok]
      by_cases k5 : i.kind = 5
      · rw [if_pos (by rw [k5]; rfl), if_pos k5, ins_op, asI_ok, Do_R hE.c125, c2_ok, asI_ok, asB_ok]
        cases hd : doV i.op (opV i.a l) (opV i.b l) with
        | some v =>
          have hpc := l.setR_pc i.reg v
          rw [show (some v : Option Int).isSome = true from rfl, if_pos rfl, ins_reg, asI_ok, set_R hE.c124 _ _ (hb l), setBlk_last, c0_ok, rdL (hb _), lcl_pc', asI_ok, rdL (hb _), if_pos (by rw [Lcl.len]; omega), lcl_setpc', putH_ok (hb _) rfl, setBlk_last]
          rw [show (some v : Option Int).getD 0 = v from rfl, show (some v : Option Int).getD (opV i.a l) = v from rfl, hpc, g_wrap_i64 (x := l.pc + 1) (by omega) (by omega)]
        | none =>
          have hpc := l.setR_pc i.reg (opV i.a l)
          rw [show (none : Option Int).isSome = false from rfl, if_neg (by simp), ins_reg, asI_ok, set_R hE.c124 _ _ (hb l), setBlk_last, c0_ok, rdL (hb _), lcl_pc', asI_ok, rdL (hb _), if_pos (by rw [Lcl.len]; omega), lcl_setpc', putH_ok (hb _) rfl, setBlk_last]
          rw [show (none : Option Int).getD (opV i.a l) = opV i.a l from rfl, hpc, g_wrap_i64 (x := l.pc + 1) (by omega) (by omega)]
      · rw [if_neg (by rw [beq_iff_eq]; exact k5), if_neg k5]
        by_cases k6 : i.kind = 6
        · rw [if_pos (by rw [k6]; rfl), if_pos k6]
          by_cases hab : opV i.a l = opV i.b l
          · have hv : (if (code.length : Int) < (if 0 > i.n then 0 else i.n) then (code.length : Int) else (if 0 > i.n then 0 else i.n)) = min (max i.n 0) code.length := by
              split <;> split at * <;> omega
            rw [if_pos (by rw [hab]; exact beq_self_eq_true _), if_pos hab, rdL (hb l), lcl_pc', asI_ok, ins_n, asI_ok, hx.len]
            dsimp only
            rw [hv, rdL (hb l), if_pos (by rw [Lcl.len]; omega), lcl_setpc', putH_ok (hb _) rfl, setBlk_last, rdL (hb _), lcl_pc', asI_ok, rdL (hb _), if_pos (by rw [Lcl.len]; omega), lcl_setpc', putH_ok (hb _) rfl, setBlk_last]
            dsimp only
            rw [g_wrap_i64 (x := l.pc + min (max i.n 0) code.length) (by omega) (by omega), g_wrap_i64 (x := l.pc + min (max i.n 0) code.length + 1) (by omega) (by omega)]
          · rw [if_neg (by rw [beq_iff_eq]; exact hab), if_neg hab, rdL (hb l), lcl_pc', asI_ok, rdL (hb l), if_pos (by rw [Lcl.len]; omega), lcl_setpc', putH_ok (hb _) rfl, setBlk_last, g_wrap_i64 (x := l.pc + 1) (by omega) (by omega)]
        · rw [if_neg (by rw [beq_iff_eq]; exact k6), if_neg k6, rdL (hb l), if_pos ⟨rfl, rfl⟩]
          dsimp only
          rw [if_pos (show 0 ≤ l.pc ∧ l.pc < code.length from ⟨h0, h1⟩)]
          by_cases hz : z.length = 5
          · rw [if_pos ⟨rfl, hz, rfl⟩, if_pos hz]
          · rw [if_neg (fun q => hz q.2.1), if_neg hz]
    · have hst : stepI code l = none := by
        unfold stepI
        rw [if_pos h0, List.getElem?_eq_none (by omega)]
      rw [hst, if_neg (by simpa using h1)]
      dsimp only
      rw [if_neg (fun q => h1 q.2)]
  · have hst : stepI code l = none := by unfold stepI; rw [if_neg h0]
    rw [hst, show decide (l.pc ≥ 0) = false from decide_eq_false h0, scK_ft, if_neg (by simp)]
    dsimp only
    rw [if_neg (fun q => h0 q.1)]

theorem normal_R (hE : prog_normal_In E) {x : Cell} {code : List Ins} {h : AHeap} (hlen : code.length < 4000000000000000000) (hx : SlAt h x 9 (codeC code) code.length) (hlow : Low h.length x) (l : Lcl) :
    R E 114 [.c x, .agg l.cs] h = some ([.agg (normL code l).cs], h) := by
  refine R_intro hE.fn ?_
  have hx' : ∀ l : Lcl, SlAt (h ++ [some ⟨true, 0, l.cs⟩]) x 9 (codeC code) code.length := fun l => hx.keep hlow (Kp.app _ (Nat.le_refl _))
  have hb : ∀ l : Lcl, blk? (h ++ [some ⟨true, 0, l.cs⟩]) h.length = some ⟨true, 0, l.cs⟩ := fun l => blk_new _ _
  have loop : ∀ (k : Nat) (l : Lcl), (0 ≤ l.pc → (code.length : Int) ≤ l.pc + k) → (Lim (prog_normal_F1 (R E) Lim E.glob) (prog_normal_s1 x h.length 5 0 Lcl.zero.cs (h ++ [some ⟨true, 0, l.cs⟩]))).bind (fun p => prog_normal_k3 (R E) Lim E.glob h p.1 p.2) = some ([.agg (nrm code k l).cs], h) := by
    intro k
    have stop : ∀ l : Lcl, stepI code l = none → (Lim (prog_normal_F1 (R E) Lim E.glob) (prog_normal_s1 x h.length 5 0 Lcl.zero.cs (h ++ [some ⟨true, 0, l.cs⟩]))).bind (fun p => prog_normal_k3 (R E) Lim E.glob h p.1 p.2) = some ([.agg l.cs], h) := by
      intro l hs
      have hr := normal_round hE hlen Lcl.zero.cs l (hx' l)
      rw [hs] at hr
      dsimp only at hr
      have fin : finish true h [.agg l.cs] (h ++ [some ⟨true, 0, l.cs⟩]) = some ([.agg l.cs], h) := finish_gc (Kp.app _ (Nat.le_refl _)) (by simp [avOk_lcl])
      split at hr
      · rw [if_pos (show Lcl.zero.cs.length = 5 from rfl)] at hr
        rw [Lim_ret hr, bind_ok, prog_normal_e1_0, if_pos ⟨rfl, rfl⟩, fin]
      · rw [Lim_exit hr, bind_ok, prog_normal_e1_1, rdL (hb l), if_pos ⟨rfl, rfl⟩, if_pos ⟨rfl, rfl, rfl⟩, if_pos ⟨rfl, rfl⟩, fin]
    induction k with
    | zero =>
      intro l hk
      rw [nrm]
      refine stop l ?_
      cases hs : stepI code l with
      | none => rfl
      | some l' => have := stepI_pc hs; have := hk this.1; omega
    | succ k ih =>
      intro l hk
      rw [nrm]
      cases hs : stepI code l with
      | none => exact stop l hs
      | some l' =>
        have hr := normal_round hE hlen Lcl.zero.cs l (hx' l)
        rw [hs] at hr
        have h3 := stepI_pc hs
        have := ih l' (fun _ => by have := hk h3.1; omega)
        cases hL : Lim (prog_normal_F1 (R E) Lim E.glob) (prog_normal_s1 x h.length 5 0 Lcl.zero.cs (h ++ [some ⟨true, 0, l'.cs⟩])) with
        | none => rw [hL] at this; cases this
        | some p => rw [Lim_next hr hL]; rw [hL] at this; exact this
  have hc : AV.cells (.agg l.cs) = l.cs := rfl
  rw [prog_normal_eq, hc, Lcl.len]
  exact loop code.length l (fun _ => by omega)

/-- A program, made of its parts. -/
structure PProg where
  locs : List Int
  init : List Int
  thr : List (List Ins)

/-- A program lies there. -/
def ProgAt (h : AHeap) (cs : List Cell) (P : PProg) : Prop :=
  ∃ a b c ts, cs = [a, b, c] ∧ (SlAt h a 1 (intC .u8 P.locs) P.locs.length ∧ Low h.length a) ∧ (SlAt h b 1 (intC .i64 P.init) P.init.length ∧ Low h.length b) ∧ (SlAt h c 1 ts P.thr.length ∧ Low h.length c) ∧
    ∀ (t : Nat) (code : List Ins), P.thr[t]? = some code → ∃ x : Cell, ts[t]? = some x ∧ SlAt h x 9 (codeC code) code.length ∧ Low h.length x

theorem ProgAt.len {h : AHeap} {cs : List Cell} {P : PProg} (p : ProgAt h cs P) : cs.length = 3 := by
  obtain ⟨a, b, c, ts, rfl, _⟩ := p; rfl

theorem ProgAt.keep {h h' : AHeap} {cs : List Cell} {P : PProg} (p : ProgAt h cs P) (hk : Kp h.length h h') : ProgAt h' cs P := by
  obtain ⟨a, b, c, ts, e, ⟨a1, a2⟩, ⟨b1, b2⟩, ⟨c1, c2⟩, ht⟩ := p
  exact ⟨a, b, c, ts, e, ⟨a1.keep a2 hk, Low_mono hk.1 a2⟩, ⟨b1.keep b2 hk, Low_mono hk.1 b2⟩, ⟨c1.keep c2 hk, Low_mono hk.1 c2⟩, fun t code h1 => by
    obtain ⟨x, x1, x2, x3⟩ := ht t code h1
    exact ⟨x, x1, x2.keep x3 hk, Low_mono hk.1 x3⟩⟩

/-- No thread is too long. -/
def PProg.fits (P : PProg) : Prop := P.thr.length < 4000000000000000000 ∧ ∀ code ∈ P.thr, code.length < 4000000000000000000

/-- A thread's instructions, or none. -/
def PProg.code (P : PProg) (t : Int) : List Ins := if 0 ≤ t then P.thr.getD t.toNat [] else []

theorem PProg.code_fits {P : PProg} (hf : P.fits) (t : Int) : (P.code t).length < 4000000000000000000 := by
  unfold PProg.code
  split
  · rw [List.getD_eq_getElem?_getD]
    cases h : P.thr[t.toNat]? with
    | none => show (0 : Nat) < _; omega
    | some c => exact hf.2 c (List.mem_of_getElem? h)
  · show (0 : Nat) < _; omega

theorem thread_R (hE : prog_thread_In E) {cs : List Cell} {P : PProg} {h : AHeap} (p : ProgAt h cs P) (t : Int) :
    ∃ x, R E 113 [.agg cs, .c (.int .i64 t)] h = some ([.c x], h) ∧ SlAt h x 9 (codeC (P.code t)) (P.code t).length ∧ Low h.length x := by
  obtain ⟨a, b, c, ts, rfl, _, _, ⟨hc, hcl⟩, ht⟩ := p
  have a2 : ∀ {α : Type} (f : Cell → Option α), atK [a, b, c] 2 f = f c := fun _ => rfl
  by_cases h0 : 0 ≤ t
  · by_cases h1 : t.toNat < P.thr.length
    · have hg : P.thr[t.toNat]? = some P.thr[t.toNat] := List.getElem?_eq_getElem h1
      generalize P.thr[t.toNat] = code at hg
      obtain ⟨x, x1, x2, x3⟩ := ht _ _ hg
      have hcode : P.code t = code := by unfold PProg.code; rw [if_pos h0, List.getD_eq_getElem?_getD, hg]; rfl
      rw [hcode]
      refine ⟨x, R_intro hE.fn ?_, x2, x3⟩
      have hti : t = ((t.toNat : Nat) : Int) := by omega
      rw [prog_thread_eq, show decide (t < 0) = false from decide_eq_false (by omega), scK_ok, a2, hc.len, show decide (t ≥ (P.thr.length : Int)) = false from decide_eq_false (by omega), bind_ok]
      dsimp only
      rw [if_neg (by simp), a2, hc.getAt t.toNat hti h1 x1]
    · have hcode : P.code t = [] := by unfold PProg.code; rw [if_pos h0, List.getD_eq_getElem?_getD, List.getElem?_eq_none (by omega)]; rfl
      rw [hcode]
      refine ⟨.nils, R_intro hE.fn ?_, ⟨rfl, .inl ⟨rfl, rfl⟩⟩, trivial⟩
      rw [prog_thread_eq, show decide (t < 0) = false from decide_eq_false (by omega), scK_ok, a2, hc.len, show decide (t ≥ (P.thr.length : Int)) = true from decide_eq_true (by omega), bind_ok]
      dsimp only
      rw [if_pos rfl]
  · have hcode : P.code t = [] := by unfold PProg.code; rw [if_neg h0]
    rw [hcode]
    refine ⟨.nils, R_intro hE.fn ?_, ⟨rfl, .inl ⟨rfl, rfl⟩⟩, trivial⟩
    rw [prog_thread_eq, show decide (t < 0) = true from decide_eq_true (by omega), scK_tf, if_pos rfl]

def startL (P : PProg) (t : Int) : Lcl := normL (P.code t) Lcl.zero

theorem PStart_R (hE : prog_Start_In E) {cs : List Cell} {P : PProg} {h : AHeap} (hf : P.fits) (p : ProgAt h cs P) (t : Int) :
    R E 94 [.agg cs, .c (.int .i64 t)] h = some ([.agg (startL P t).cs], h) := by
  refine R_intro hE.fn ?_
  obtain ⟨x, hr, hx, hl⟩ := thread_R hE.c113 p t
  rw [prog_Start_eq, if_pos ⟨rfl, p.len⟩, hr, c1_ok, asC_ok, zero5, normal_R hE.c114 (PProg.code_fits hf t) hx hl, c1_ok, asA_ok, if_pos ⟨rfl, rfl, rfl⟩, if_pos ⟨rfl, rfl⟩]
  rfl

/-- The instruction that comes, if one comes that touches memory. -/
def nextI (code : List Ins) (l : Lcl) : Option Ins :=
  if 0 ≤ l.pc then match code[l.pc.toNat]? with
    | none => none
    | some i => if 1 ≤ i.kind ∧ i.kind ≤ 4 then some i else none
  else none

theorem nextI_kind {code : List Ins} {l : Lcl} {i : Ins} (h : nextI code l = some i) : 0 ≤ l.pc ∧ l.pc < code.length ∧ code[l.pc.toNat]? = some i ∧ 1 ≤ i.kind ∧ i.kind ≤ 4 := by
  unfold nextI at h
  split at h
  · rename_i h0
    cases hi : code[l.pc.toNat]? with
    | none => rw [hi] at h; cases h
    | some j =>
      rw [hi] at h
      simp only at h
      split at h
      · cases h
        have := getI_lt hi
        rename_i hk
        exact ⟨h0, by omega, rfl, hk⟩
      · cases h
  · cases h

theorem PNext_R (hE : prog_Next_In E) {cs : List Cell} {P : PProg} {h : AHeap} (p : ProgAt h cs P) (t : Int) (l : Lcl) :
    R E 105 [.agg cs, .c (.int .i64 t), .agg l.cs] h = some ([.agg ((nextI (P.code t) l).getD Ins.zero).cs, .c (.bool (nextI (P.code t) l).isSome)], h) := by
  refine R_intro hE.fn ?_
  obtain ⟨x, hr, hx, hlo⟩ := thread_R hE.c113 p t
  generalize P.code t = code at *
  rw [prog_Next_eq, if_pos ⟨rfl, p.len⟩, hr, c1_ok, asC_ok, lcl_pc, asI_ok]
  by_cases h0 : 0 ≤ l.pc
  · rw [show decide (l.pc < 0) = false from decide_eq_false (by omega), scK_ok, lcl_pc, asI_ok, hx.len, bind_ok]
    dsimp only
    by_cases h1 : l.pc < code.length
    · obtain ⟨q, hq⟩ : ∃ q : Nat, l.pc = (q : Int) := ⟨l.pc.toNat, by omega⟩
      have hql : q < code.length := by omega
      have hg : code[q]? = some code[q] := List.getElem?_eq_getElem hql
      generalize code[q] = i at hg
      obtain ⟨off, cs', hG0, hle, hcs⟩ := hx.insG hg
      have hG : ∀ {α : Type} (G : Nat → List Cell → Option α), (idxSK 9 x l.pc fun k N o => rdH h k N fun l => G o l) = G off cs' := by intro α G; rw [hq]; exact hG0 G
      have hn : nextI code l = if 1 ≤ i.kind ∧ i.kind ≤ 4 then some i else none := by
        unfold nextI
        rw [if_pos h0, show l.pc.toNat = q by omega, hg]
      rw [show decide (l.pc ≥ (code.length : Int)) = false from decide_eq_false (by omega), if_neg (by simp), lcl_pc, asI_ok, hG, if_pos hle, hcs, if_pos ⟨rfl, rfl, rfl⟩, ins_kind, asI_ok, ins_kind, asI_ok, scK_or, hn]
      by_cases hk : 1 ≤ i.kind ∧ i.kind ≤ 4
      · rw [if_neg (by simp; omega), if_pos hk, if_pos ⟨rfl, rfl⟩, if_pos ⟨rfl, rfl, rfl⟩, if_pos ⟨rfl, rfl⟩]; rfl
      · rw [if_pos (by simp; omega), if_neg hk, if_pos ⟨rfl, rfl, rfl⟩, if_pos ⟨rfl, rfl⟩]; rfl
    · have hn : nextI code l = none := by unfold nextI; rw [if_pos h0, List.getElem?_eq_none (by omega)]
      rw [show decide (l.pc ≥ (code.length : Int)) = true from decide_eq_true (by omega), if_pos rfl, hn, if_pos ⟨rfl, rfl, rfl⟩, if_pos ⟨rfl, rfl⟩]; rfl
  · have hn : nextI code l = none := by unfold nextI; rw [if_neg h0]
    rw [show decide (l.pc < 0) = true from decide_eq_true (by omega), scK_tf, if_pos rfl, hn, if_pos ⟨rfl, rfl, rfl⟩, if_pos ⟨rfl, rfl⟩]; rfl

/-- Where a thread is behind an instruction that reads a value. -/
def afterL (code : List Ins) (l : Lcl) (v : Int) : Lcl := match nextI code l with
  | none => l
  | some i => normL code { (if i.kind = 2 ∨ i.kind = 4 then l.setR i.reg v else l) with pc := l.pc + 1 }

theorem PAfter_R (hE : prog_After_In E) {cs : List Cell} {P : PProg} {h : AHeap} (hf : P.fits) (p : ProgAt h cs P) (t : Int) (l : Lcl) (v : Int) :
    R E 106 [.agg cs, .c (.int .i64 t), .agg l.cs, .c (.int .i64 v)] h = some ([.agg (afterL (P.code t) l v).cs], h) := by
  refine R_intro hE.fn ?_
  have hK : ∀ b, Kp h.length h (h ++ [some b]) := fun b => Kp.app _ (Nat.le_refl _)
  have p' : ∀ b, ProgAt (h ++ [some b]) cs P := fun b => p.keep (hK b)
  have hb : ∀ l : Lcl, blk? (h ++ [some ⟨true, 0, l.cs⟩]) h.length = some ⟨true, 0, l.cs⟩ := fun l => blk_new _ _
  have fin : ∀ (m l : Lcl), finish true h [.agg m.cs] (h ++ [some ⟨true, 0, l.cs⟩]) = some ([.agg m.cs], h) := fun m l => finish_gc (hK _) (by simp [avOk_lcl])
  have hc : AV.cells (.agg l.cs) = l.cs := rfl
  have hfit := PProg.code_fits hf t
  rw [prog_After_eq, if_pos ⟨rfl, p.len⟩, hc, Lcl.len, rdL (hb l), if_pos ⟨rfl, rfl⟩, PNext_R hE.c105 (p' _), c2_ok, asA_ok, asB_ok, if_pos ⟨rfl, rfl, rfl⟩]
  unfold afterL
  cases hn : nextI (P.code t) l with
  | none =>
    rw [show (none : Option Ins).isSome = false from rfl, if_pos (show (!false) = true from rfl), rdL (hb l), if_pos ⟨rfl, rfl⟩, if_pos ⟨rfl, rfl, rfl⟩, if_pos ⟨rfl, rfl⟩, fin]
  | some i =>
    obtain ⟨n0, n1, n2, n3, n4⟩ := nextI_kind hn
    rw [show (some i : Option Ins).isSome = true from rfl, if_neg (by simp), show (some i : Option Ins).getD Ins.zero = i from rfl, ins_kind, asI_ok, ins_kind, asI_ok, scK_or]
    by_cases hk : i.kind = 2 ∨ i.kind = 4
    · have hpc := l.setR_pc i.reg v
      obtain ⟨x, hr, hx, hlo⟩ := thread_R hE.c113 (p' ⟨true, 0, ({ (l.setR i.reg v) with pc := l.pc + 1 } : Lcl).cs⟩) t
      rw [if_pos (by rw [Bool.or_eq_true, beq_iff_eq, beq_iff_eq]; exact hk), ins_reg, asI_ok, set_R hE.c124 _ _ (hb l), setBlk_last, c0_ok, rdL (hb _), lcl_pc, asI_ok, rdL (hb _), if_pos (by rw [Lcl.len]; omega), lcl_setpc, putH_ok (hb _) rfl, setBlk_last, if_pos ⟨rfl, p.len⟩, hpc, g_wrap_i64 (x := l.pc + 1) (by omega) (by omega), hr, qh_ok, c1_ok, asC_ok, rdL (hb _), if_pos ⟨rfl, rfl⟩, normal_R hE.c114 hfit hx hlo, qh_ok, c1_ok, asA_ok, if_pos ⟨rfl, rfl, rfl⟩, if_pos ⟨rfl, rfl⟩, fin]
      dsimp only
      rw [if_pos hk]
    · obtain ⟨x, hr, hx, hlo⟩ := thread_R hE.c113 (p' ⟨true, 0, ({ l with pc := l.pc + 1 } : Lcl).cs⟩) t
      rw [if_neg (by rw [Bool.or_eq_true, beq_iff_eq, beq_iff_eq]; exact hk), rdL (hb _), lcl_pc, asI_ok, rdL (hb _), if_pos (by rw [Lcl.len]; omega), lcl_setpc, putH_ok (hb _) rfl, setBlk_last, if_pos ⟨rfl, p.len⟩, g_wrap_i64 (x := l.pc + 1) (by omega) (by omega), hr, qh_ok, c1_ok, asC_ok, rdL (hb _), if_pos ⟨rfl, rfl⟩, normal_R hE.c114 hfit hx hlo, qh_ok, c1_ok, asA_ok, if_pos ⟨rfl, rfl, rfl⟩, if_pos ⟨rfl, rfl⟩, fin]
      dsimp only
      rw [if_neg hk]

end
end Jq

namespace Jq
open Go


end Jq

/- Programs as the document says: what is done at once, what comes next. -/
namespace Jq
open Go

/-- An instruction that may be, in a thread of so many. -/
structure GoodI (len : Nat) (i : Ins) : Prop where
  kind : 1 ≤ i.kind ∧ i.kind ≤ 6
  reg : i.kind = 2 ∨ i.kind = 4 ∨ i.kind = 5 → 0 ≤ i.reg ∧ i.reg < 4
  op : i.kind = 5 → 0 ≤ i.op ∧ i.op ≤ 11
  n : i.kind = 6 → 0 ≤ i.n ∧ i.n ≤ len

def GoodC (code : List Ins) : Prop := ∀ i ∈ code, GoodI code.length i

section
variable {E : Env}

/-- One thread of a program that lies there. -/
theorem ProgAt.thr {h : AHeap} {cs : List Cell} {P : PProg} (p : ProgAt h cs P) {t : Nat} {code : List Ins} (ht : P.thr[t]? = some code) :
    ∃ x, SlAt h x 9 (codeC code) code.length ∧ Low h.length x ∧ ∀ {α : Type} (f : Cell → Option α), (atK cs 2 fun q => idxSK 1 q (t : Int) fun k N o => rdH h k N fun l => atK l o f) = f x := by
  obtain ⟨a, b, c, ts, rfl, _, _, ⟨hc, hcl⟩, hts⟩ := p
  obtain ⟨x, x1, x2, x3⟩ := hts _ _ ht
  refine ⟨x, x2, x3, fun f => ?_⟩
  show (idxSK 1 c (t : Int) fun k N o => rdH h k N fun l => atK l o f) = f x
  exact hc.get1 (getI_lt ht) x1

/-- Each thread may be. -/
def PProg.good (P : PProg) : Prop := P.fits ∧ ∀ code ∈ P.thr, GoodC code

end
end Jq

namespace Jq
open Go

/- jacquard/event.Writes: 80 -/
set_option maxRecDepth 100000 in
theorem event_Writes_eq (C : CallF) (L : LoopF) (G : Glo) (l0 : List Cell) (h0 : AHeap) :
    event_Writes.body C L G [(.agg l0)] h0 =
    atK l0 2 fun q_1 => asI .i64 (.c q_1) fun n_2 => scK (n_2 == 2) false (atK l0 2 fun q_3 => asI .i64 (.c q_3) fun n_4 => some ((n_4 == 4), h0)) true h0 fun b_5 h_6 => some ([(.c (.bool b_5))], h_6) := by kernel_rfl

/- jacquard/event.Of: 109 -/
set_option maxRecDepth 100000 in
theorem event_Of_eq (C : CallF) (L : LoopF) (G : Glo) (l0 : List Cell) (l1 : List Cell) (a2 : Int) (h0 : AHeap) :
    event_Of.body C L G [(.agg l0), (.agg l1), (.c (.int .i64 a2))] h0 =
    atK l0 0 fun q_1 => asI .i64 (.c q_1) fun n_2 => if (n_2 == 1) = true then atK l0 2 fun q_3 => asI .i64 (.c q_3) fun n_4 => if 3 + 2 ≤ l0.length then if 0 = 0 ∧ l1.length = 5 then c1 (qh h0 (C 108 [(.agg ((l0.drop 3).take 2)), (.agg l1)] h0)) fun y_6 h_5 => asI .i64 y_6 fun n_7 => if 0 = 0 ∧ [Cell.int .i64 0, Cell.int .i64 0, Cell.int .i64 0, Cell.int .i64 0, Cell.int .i64 0, Cell.int .i64 0].length = 6 ∧ (splice (splice (splice [Cell.int .i64 0, Cell.int .i64 0, Cell.int .i64 0, Cell.int .i64 0, Cell.int .i64 0, Cell.int .i64 0] 2 ([(.int .i64 2)] : List Cell)) 3 ([(.int .i64 n_4)] : List Cell)) 5 ([(.int .i64 n_7)] : List Cell)).length = 6 then if 0 = 0 ∧ (splice (splice (splice [Cell.int .i64 0, Cell.int .i64 0, Cell.int .i64 0, Cell.int .i64 0, Cell.int .i64 0, Cell.int .i64 0] 2 ([(.int .i64 2)] : List Cell)) 3 ([(.int .i64 n_4)] : List Cell)) 5 ([(.int .i64 n_7)] : List Cell)).length = 6 then some ([(.agg (splice (splice (splice [Cell.int .i64 0, Cell.int .i64 0, Cell.int .i64 0, Cell.int .i64 0, Cell.int .i64 0, Cell.int .i64 0] 2 ([(.int .i64 2)] : List Cell)) 3 ([(.int .i64 n_4)] : List Cell)) 5 ([(.int .i64 n_7)] : List Cell))), (.c (.bool false))], h0) else none else none else none else none else if (n_2 == 2) = true then atK l0 2 fun q_8 => asI .i64 (.c q_8) fun n_9 => if 0 = 0 ∧ [Cell.int .i64 0, Cell.int .i64 0, Cell.int .i64 0, Cell.int .i64 0, Cell.int .i64 0, Cell.int .i64 0].length = 6 ∧ (splice (splice (splice [Cell.int .i64 0, Cell.int .i64 0, Cell.int .i64 0, Cell.int .i64 0, Cell.int .i64 0, Cell.int .i64 0] 2 ([(.int .i64 1)] : List Cell)) 3 ([(.int .i64 n_9)] : List Cell)) 4 ([(.int .i64 a2)] : List Cell)).length = 6 then if 0 = 0 ∧ (splice (splice (splice [Cell.int .i64 0, Cell.int .i64 0, Cell.int .i64 0, Cell.int .i64 0, Cell.int .i64 0, Cell.int .i64 0] 2 ([(.int .i64 1)] : List Cell)) 3 ([(.int .i64 n_9)] : List Cell)) 4 ([(.int .i64 a2)] : List Cell)).length = 6 then some ([(.agg (splice (splice (splice [Cell.int .i64 0, Cell.int .i64 0, Cell.int .i64 0, Cell.int .i64 0, Cell.int .i64 0, Cell.int .i64 0] 2 ([(.int .i64 1)] : List Cell)) 3 ([(.int .i64 n_9)] : List Cell)) 4 ([(.int .i64 a2)] : List Cell))), (.c (.bool true))], h0) else none else none else if (n_2 == 4) = true then if 3 + 2 ≤ l0.length then if 0 = 0 ∧ l1.length = 5 then c1 (C 108 [(.agg ((l0.drop 3).take 2)), (.agg l1)] h0) fun y_11 h_10 => asI .i64 y_11 fun n_12 => if (n_12 == a2) = true then atK l0 2 fun q_13 => asI .i64 (.c q_13) fun n_14 => if 6 + 2 ≤ l0.length then if 0 = 0 ∧ l1.length = 5 then c1 (qh h_10 (C 108 [(.agg ((l0.drop 6).take 2)), (.agg l1)] h_10)) fun y_16 h_15 => asI .i64 y_16 fun n_17 => if 0 = 0 ∧ [Cell.int .i64 0, Cell.int .i64 0, Cell.int .i64 0, Cell.int .i64 0, Cell.int .i64 0, Cell.int .i64 0].length = 6 ∧ (splice (splice (splice (splice [Cell.int .i64 0, Cell.int .i64 0, Cell.int .i64 0, Cell.int .i64 0, Cell.int .i64 0, Cell.int .i64 0] 2 ([(.int .i64 4)] : List Cell)) 3 ([(.int .i64 n_14)] : List Cell)) 4 ([(.int .i64 a2)] : List Cell)) 5 ([(.int .i64 n_17)] : List Cell)).length = 6 then if 0 = 0 ∧ (splice (splice (splice (splice [Cell.int .i64 0, Cell.int .i64 0, Cell.int .i64 0, Cell.int .i64 0, Cell.int .i64 0, Cell.int .i64 0] 2 ([(.int .i64 4)] : List Cell)) 3 ([(.int .i64 n_14)] : List Cell)) 4 ([(.int .i64 a2)] : List Cell)) 5 ([(.int .i64 n_17)] : List Cell)).length = 6 then some ([(.agg (splice (splice (splice (splice [Cell.int .i64 0, Cell.int .i64 0, Cell.int .i64 0, Cell.int .i64 0, Cell.int .i64 0, Cell.int .i64 0] 2 ([(.int .i64 4)] : List Cell)) 3 ([(.int .i64 n_14)] : List Cell)) 4 ([(.int .i64 a2)] : List Cell)) 5 ([(.int .i64 n_17)] : List Cell))), (.c (.bool true))], h_10) else none else none else none else none else atK l0 2 fun q_18 => asI .i64 (.c q_18) fun n_19 => if 0 = 0 ∧ [Cell.int .i64 0, Cell.int .i64 0, Cell.int .i64 0, Cell.int .i64 0, Cell.int .i64 0, Cell.int .i64 0].length = 6 ∧ (splice (splice (splice [Cell.int .i64 0, Cell.int .i64 0, Cell.int .i64 0, Cell.int .i64 0, Cell.int .i64 0, Cell.int .i64 0] 2 ([(.int .i64 5)] : List Cell)) 3 ([(.int .i64 n_19)] : List Cell)) 4 ([(.int .i64 a2)] : List Cell)).length = 6 then if 0 = 0 ∧ (splice (splice (splice [Cell.int .i64 0, Cell.int .i64 0, Cell.int .i64 0, Cell.int .i64 0, Cell.int .i64 0, Cell.int .i64 0] 2 ([(.int .i64 5)] : List Cell)) 3 ([(.int .i64 n_19)] : List Cell)) 4 ([(.int .i64 a2)] : List Cell)).length = 6 then some ([(.agg (splice (splice (splice [Cell.int .i64 0, Cell.int .i64 0, Cell.int .i64 0, Cell.int .i64 0, Cell.int .i64 0, Cell.int .i64 0] 2 ([(.int .i64 5)] : List Cell)) 3 ([(.int .i64 n_19)] : List Cell)) 4 ([(.int .i64 a2)] : List Cell))), (.c (.bool true))], h_10) else none else none else none else none else if 0 = 0 ∧ [Cell.int .i64 0, Cell.int .i64 0, Cell.int .i64 0, Cell.int .i64 0, Cell.int .i64 0, Cell.int .i64 0].length = 6 ∧ (splice [Cell.int .i64 0, Cell.int .i64 0, Cell.int .i64 0, Cell.int .i64 0, Cell.int .i64 0, Cell.int .i64 0] 2 ([(.int .i64 3)] : List Cell)).length = 6 then if 0 = 0 ∧ (splice [Cell.int .i64 0, Cell.int .i64 0, Cell.int .i64 0, Cell.int .i64 0, Cell.int .i64 0, Cell.int .i64 0] 2 ([(.int .i64 3)] : List Cell)).length = 6 then some ([(.agg (splice [Cell.int .i64 0, Cell.int .i64 0, Cell.int .i64 0, Cell.int .i64 0, Cell.int .i64 0, Cell.int .i64 0] 2 ([(.int .i64 3)] : List Cell))), (.c (.bool false))], h0) else none else none := by kernel_rfl


end Jq

/- Events: what an instruction does; a thread unfolded. -/
namespace Jq
open Go

structure Evt where
  t : Int
  i : Int
  kind : Int
  loc : Int
  r : Int
  w : Int
  deriving DecidableEq

def Evt.cs (e : Evt) : List Cell := [.int .i64 e.t, .int .i64 e.i, .int .i64 e.kind, .int .i64 e.loc, .int .i64 e.r, .int .i64 e.w]
def evsC (l : List Evt) : List Cell := l.flatMap Evt.cs
theorem Evt.len (e : Evt) : e.cs.length = 6 := rfl
/-- The event of an instruction that reads v. -/
def evOf (i : Ins) (l : Lcl) (v : Int) : Evt :=
  if i.kind = 1 then ⟨0, 0, 2, i.loc, 0, opV i.a l⟩
  else if i.kind = 2 then ⟨0, 0, 1, i.loc, v, 0⟩
  else if i.kind = 4 then (if opV i.a l = v then ⟨0, 0, 4, i.loc, v, opV i.b l⟩ else ⟨0, 0, 5, i.loc, v, 0⟩)
  else ⟨0, 0, 3, 0, 0, 0⟩

def rdI (i : Ins) : Bool := decide (i.kind = 2 ∨ i.kind = 4)

/-- A thread unfolded: its events, where it is, and whether it would read more. -/
def unf (code : List Ins) (t : Int) : Nat → Lcl → List Int → List Evt → List Evt × Lcl × Bool
  | 0, l, _, out => (out, l, false)
  | k + 1, l, rs, out => match nextI code l with
    | none => (out, l, false)
    | some i =>
      if rdI i = true then match rs with
        | [] => (out, l, true)
        | v :: rs => unf code t k (afterL code l v) rs (out ++ [{ evOf i l v with t := t, i := out.length }])
      else unf code t k (afterL code l 0) rs (out ++ [{ evOf i l 0 with t := t, i := out.length }])

theorem nrm_pc {code : List Ins} : ∀ (k : Nat) (l : Lcl), l.pc ≤ (nrm code k l).pc
  | 0, l => by rw [nrm]; omega
  | k + 1, l => by
    rw [nrm]
    cases hs : stepI code l with
    | none => show l.pc ≤ l.pc; omega
    | some l' =>
      have h1 := stepI_pc hs
      have h2 := nrm_pc (code := code) k l'
      show l.pc ≤ (nrm code k l').pc
      omega

theorem afterL_pc {code : List Ins} {l : Lcl} {i : Ins} (h : nextI code l = some i) (v : Int) : l.pc + 1 ≤ (afterL code l v).pc := by
  unfold afterL
  rw [h]
  exact nrm_pc _ _

section
variable {E : Env}

theorem evOf_prog (hE : event_Of_In E) (i : Ins) (l : Lcl) (v : Int) (h : AHeap) : R E 109 [.agg i.cs, .agg l.cs, .c (.int .i64 v)] h = some ([.agg (evOf i l v).cs, .c (.bool (rdI i))], h) := by
  refine R_intro hE.fn ?_
  have n3 : (3 + 2 ≤ i.cs.length) := by rw [Ins.len]; omega
  have n6 : (6 + 2 ≤ i.cs.length) := by rw [Ins.len]; omega
  unfold evOf rdI
  rw [event_Of_eq, ins_kind, asI_ok]
  by_cases k1 : i.kind = 1
  · rw [if_pos (by rw [k1]; rfl), if_pos k1, ins_loc, asI_ok, if_pos n3, if_pos ⟨rfl, rfl⟩, ins_a, Value_R hE.c108, qh_ok, c1_ok, asI_ok, if_pos ⟨rfl, rfl, rfl⟩, if_pos ⟨rfl, rfl⟩, show decide (i.kind = 2 ∨ i.kind = 4) = false from decide_eq_false (by omega)]
    rfl
  · rw [if_neg (by rw [beq_iff_eq]; exact k1), if_neg k1]
    by_cases k2 : i.kind = 2
    · rw [if_pos (by rw [k2]; rfl), if_pos k2, ins_loc, asI_ok, if_pos ⟨rfl, rfl, rfl⟩, if_pos ⟨rfl, rfl⟩, show decide (i.kind = 2 ∨ i.kind = 4) = true from decide_eq_true (by omega)]
      rfl
    · rw [if_neg (by rw [beq_iff_eq]; exact k2), if_neg k2]
      by_cases k4 : i.kind = 4
      · rw [if_pos (by rw [k4]; rfl), if_pos k4, if_pos n3, if_pos ⟨rfl, rfl⟩, ins_a, Value_R hE.c108, c1_ok, asI_ok, show decide (i.kind = 2 ∨ i.kind = 4) = true from decide_eq_true (by omega)]
        by_cases hv : opV i.a l = v
        · rw [if_pos (by rw [hv]; exact beq_self_eq_true _), if_pos hv, ins_loc, asI_ok, if_pos n6, if_pos ⟨rfl, rfl⟩, ins_b, Value_R hE.c108, qh_ok, c1_ok, asI_ok, if_pos ⟨rfl, rfl, rfl⟩, if_pos ⟨rfl, rfl⟩]
          rfl
        · rw [if_neg (by rw [beq_iff_eq]; exact hv), if_neg hv, ins_loc, asI_ok, if_pos ⟨rfl, rfl, rfl⟩, if_pos ⟨rfl, rfl⟩]
          rfl
      · rw [if_neg (by rw [beq_iff_eq]; exact k4), if_neg k4, if_pos ⟨rfl, rfl, rfl⟩, if_pos ⟨rfl, rfl⟩, show decide (i.kind = 2 ∨ i.kind = 4) = false from decide_eq_false (by omega)]
        rfl

/-- A row that can be cut, whatever is made behind it. -/
def SlOkE (h : AHeap) (esz : Nat) (x : Cell) : Prop := ∀ k N off len, x = .sl k N off len → ∀ h', Kp h.length h h' → okSl h' esz k N = true

theorem SlOk.e {h : AHeap} {x : Cell} (s : SlOk h x) (esz : Nat) : SlOkE h esz x := fun k N off len e h' hk => s k N off len e h' hk esz

theorem SlOkE.mono {h h' : AHeap} {esz : Nat} {x : Cell} (s : SlOkE h esz x) (hk : Kp h.length h h') : SlOkE h' esz x :=
  fun k N off len e h2 hk2 => s k N off len e h2 (hk.trans (hk2.mono hk.1))

/-- No thread is long. -/
def PProg.small (P : PProg) : Prop := P.thr.length ≤ 1000 ∧ ∀ code ∈ P.thr, code.length ≤ 1000
theorem PProg.small.fits {P : PProg} (h : P.small) : P.fits := ⟨by have := h.1; omega, fun c hc => by have := h.2 c hc; omega⟩
theorem PProg.small.code {P : PProg} (h : P.small) (t : Int) : (P.code t).length ≤ 1000 := by
  unfold PProg.code
  split
  · rw [List.getD_eq_getElem?_getD]
    cases hq : P.thr[t.toNat]? with
    | none => show (0 : Nat) ≤ _; omega
    | some c => exact h.2 c (List.mem_of_getElem? hq)
  · show (0 : Nat) ≤ _; omega

end
end Jq

namespace Jq
open Go


end Jq

/- What a function needs of an environment. -/
namespace Jq
open Go


end Jq

namespace Jq
open Go


end Jq

namespace Jq
open Go

/- slices.Clone(()jacquard/api.Ins,jacquard/api.Ins): 119 -/
set_option maxRecDepth 100000 in
theorem slices_Clone_sIns_Ins_eq (C : CallF) (L : LoopF) (G : Glo) (x0 : Cell) (h0 : AHeap) :
    slices_Clone_sIns_Ins.body C L G [(.c x0)] h0 =
    eqNilK false x0 .nils fun b_1 => if b_1 = true then some ([(.c .nils)], h0) else if ([] : List Cell).length = 0 * 9 then (slCells (h0 ++ [some (Blk.mk true 9 ([] : List Cell))]) 9 x0).bind fun l_4 => appK 9 72 (.sl h0.length (([] : List Cell).length) 0 0) l_4 (h0 ++ [some (Blk.mk true 9 ([] : List Cell))]) fun x_2 h_3 => some ([(.c x_2)], h_3) else none := by kernel_rfl

/- slices.ContainsFunc(()jacquard/api.Ins,jacquard/api.Ins): 155 -/
set_option maxRecDepth 100000 in
theorem slices_ContainsFunc_sIns_Ins_eq (C : CallF) (L : LoopF) (G : Glo) (x0 : Cell) (x1 : Cell) (h0 : AHeap) :
    slices_ContainsFunc_sIns_Ins.body C L G [(.c x0), (.c x1)] h0 =
    c1 (C 156 [(.c x0), (.c x1)] h0) fun y_2 h_1 => asI .i64 y_2 fun n_3 => some ([(.c (.bool (decide (n_3 ≥ 0))))], h_1) := by kernel_rfl

/- slices.IndexFunc(()jacquard/api.Ins,jacquard/api.Ins): 156 -/
def slices_IndexFunc_sIns_Ins_k2 (C : CallF) (L : LoopF) (G : Glo) (h0 : AHeap) : Ex → St → Option (List AV × AHeap) :=
  kSeq (fun st => slices_IndexFunc_sIns_Ins_p1.exec C L G st (slices_IndexFunc_sIns_Ins.fin G h0)) (slices_IndexFunc_sIns_Ins.fin G h0)
def slices_IndexFunc_sIns_Ins_k3 (C : CallF) (L : LoopF) (G : Glo) (h0 : AHeap) : Ex → St → Option (List AV × AHeap) :=
  kBlk 0 (slices_IndexFunc_sIns_Ins_k2 C L G h0)
def slices_IndexFunc_sIns_Ins_s1 (x0 : Cell) (x1 : Cell) (a7 : Int) (a8 : Int) (h : AHeap) : St := ⟨[.v (.c x0), .v (.c x1), .top, .top, .top, .top, .top, .v (.c (.int .i64 a7)), .v (.c (.int .i64 a8)), .top, .top, .top, .top, .top, .top, .top, .top, .top, .top], [], h⟩
def slices_IndexFunc_sIns_Ins_F1 (C : CallF) (L : LoopF) (G : Glo) : St → Option (Ex × St) :=
  roundF (fun st f => slices_IndexFunc_sIns_Ins_b1.exec C L G st f) [0, 1, 7, 8] [] [(0, [4], []), (1, [], [])]
def slices_IndexFunc_sIns_Ins_x1_0 (a4 : Int) (h : AHeap) : St := ⟨[.top, .top, .top, .top, .v (.c (.int .i64 a4)), .top, .top, .top, .top, .top, .top, .top, .top, .top, .top, .top, .top, .top, .top], [], h⟩
def slices_IndexFunc_sIns_Ins_x1_1 (h : AHeap) : St := ⟨[.top, .top, .top, .top, .top, .top, .top, .top, .top, .top, .top, .top, .top, .top, .top, .top, .top, .top, .top], [], h⟩
theorem slices_IndexFunc_sIns_Ins_r1 (C : CallF) (L : LoopF) (G : Glo) (x0 : Cell) (x1 : Cell) (a7 : Int) (a8 : Int) (h : AHeap) :
    slices_IndexFunc_sIns_Ins_F1 C L G (slices_IndexFunc_sIns_Ins_s1 x0 x1 a7 a8 h) =
    if (decide (a8 < a7)) = true then idxSK 9 x0 a8 fun k_2 N_3 o_4 => rdH h k_2 N_3 fun l_5 => if o_4 + 9 ≤ l_5.length then fnK x1 fun g_6 l_7 => c1 (C g_6 ([(.agg ((l_5.drop o_4).take 9))] ++ l_7) h) fun y_9 h_8 => asB y_9 fun b_10 => if b_10 = true then some (.ret, (slices_IndexFunc_sIns_Ins_x1_0 a8 h_8)) else some (.normal, (slices_IndexFunc_sIns_Ins_s1 x0 x1 a7 (G.wrap .i64 (a8 + 1)) h_8)) else none else some ((.exit 0), (slices_IndexFunc_sIns_Ins_x1_1 h)) := by kernel_rfl
theorem slices_IndexFunc_sIns_Ins_e1_0 (C : CallF) (L : LoopF) (G : Glo) (h0 : AHeap) (a4 : Int) (h : AHeap) :
    (slices_IndexFunc_sIns_Ins_k3 C L G h0) .ret (slices_IndexFunc_sIns_Ins_x1_0 a4 h) =
    some ([(.c (.int .i64 a4))], h) := by kernel_rfl
theorem slices_IndexFunc_sIns_Ins_e1_1 (C : CallF) (L : LoopF) (G : Glo) (h0 : AHeap) (h : AHeap) :
    (slices_IndexFunc_sIns_Ins_k3 C L G h0) (.exit 0) (slices_IndexFunc_sIns_Ins_x1_1 h) =
    some ([(.c (.int .i64 (-1)))], h) := by kernel_rfl
set_option maxRecDepth 100000 in
theorem slices_IndexFunc_sIns_Ins_eq (C : CallF) (L : LoopF) (G : Glo) (x0 : Cell) (x1 : Cell) (h0 : AHeap) :
    slices_IndexFunc_sIns_Ins.body C L G [(.c x0), (.c x1)] h0 =
    lenK x0 fun n_1 => (L (slices_IndexFunc_sIns_Ins_F1 C L G) (slices_IndexFunc_sIns_Ins_s1 x0 x1 n_1 0 h0)).bind fun p_11 => (slices_IndexFunc_sIns_Ins_k3 C L G h0) p_11.1 p_11.2 := by kernel_rfl

/- slices.Clone(()jacquard/api.Step,jacquard/api.Step): 195 -/
set_option maxRecDepth 100000 in
theorem slices_Clone_sStep_Step_eq (C : CallF) (L : LoopF) (G : Glo) (x0 : Cell) (h0 : AHeap) :
    slices_Clone_sStep_Step.body C L G [(.c x0)] h0 =
    eqNilK false x0 .nils fun b_1 => if b_1 = true then some ([(.c .nils)], h0) else if ([] : List Cell).length = 0 * 7 then (slCells (h0 ++ [some (Blk.mk true 7 ([] : List Cell))]) 7 x0).bind fun l_4 => appK 7 56 (.sl h0.length (([] : List Cell).length) 0 0) l_4 (h0 ++ [some (Blk.mk true 7 ([] : List Cell))]) fun x_2 h_3 => some ([(.c x_2)], h_3) else none := by kernel_rfl

/- slices.Clone(()byte,byte): 202 -/
set_option maxRecDepth 100000 in
theorem slices_Clone_sbyte_byte_eq (C : CallF) (L : LoopF) (G : Glo) (x0 : Cell) (h0 : AHeap) :
    slices_Clone_sbyte_byte.body C L G [(.c x0)] h0 =
    eqNilK false x0 .nils fun b_1 => if b_1 = true then some ([(.c .nils)], h0) else if ([] : List Cell).length = 0 * 1 then (slCells (h0 ++ [some (Blk.mk true 1 ([] : List Cell))]) 1 x0).bind fun l_4 => appK 1 1 (.sl h0.length (([] : List Cell).length) 0 0) l_4 (h0 ++ [some (Blk.mk true 1 ([] : List Cell))]) fun x_2 h_3 => some ([(.c x_2)], h_3) else none := by kernel_rfl

/- slices.Clone(()int64,int64): 203 -/
set_option maxRecDepth 100000 in
theorem slices_Clone_sint64_int64_eq (C : CallF) (L : LoopF) (G : Glo) (x0 : Cell) (h0 : AHeap) :
    slices_Clone_sint64_int64.body C L G [(.c x0)] h0 =
    eqNilK false x0 .nils fun b_1 => if b_1 = true then some ([(.c .nils)], h0) else if ([] : List Cell).length = 0 * 1 then (slCells (h0 ++ [some (Blk.mk true 1 ([] : List Cell))]) 1 x0).bind fun l_4 => appK 1 8 (.sl h0.length (([] : List Cell).length) 0 0) l_4 (h0 ++ [some (Blk.mk true 1 ([] : List Cell))]) fun x_2 h_3 => some ([(.c x_2)], h_3) else none := by kernel_rfl


end Jq

/- Events: those at the beginning; their order; whether two rows are the same; laws of them. -/
namespace Jq
open Go

def initsE (l : List Int) : List Evt := (List.range l.length).map fun (i : Nat) => ⟨-1, i, 2, i, 0, l.getD i 0⟩

theorem getDI {l : List Int} {i : Nat} (hi : i < l.length) : l[i]? = some (l.getD i 0) := by
  rw [List.getD_eq_getElem?_getD, List.getElem?_eq_getElem hi]; rfl

theorem takeI_succ {α : Type} {l : List α} {i : Nat} {p : α} (h : l[i]? = some p) : l.take (i + 1) = l.take i ++ [p] := by
  rw [List.take_add_one, h]; rfl

def shEv : Sh := .agg (Sh.rep (.i .i64) 6)
section
variable {E : Env}

theorem ProgAt.initG {h : AHeap} {cs : List Cell} {P : PProg} (p : ProgAt h cs P) : ∃ b, SlAt h b 1 (intC .i64 P.init) P.init.length ∧ Low h.length b ∧ ∀ {α : Type} (f : Cell → Option α), atK cs 1 f = f b := by
  obtain ⟨a, b, c, ts, rfl, _, ⟨hb, hbl⟩, _⟩ := p
  exact ⟨b, hb, hbl, fun _ => rfl⟩
theorem rdE_eq {k : Int} {e : Evt} (h : e.kind = k) {α : Type} {f : Cell → Option α} : atK e.cs 2 f = f (.int .i64 k) := by subst h; rfl

def evRd (e : Evt) : Bool := e.kind == 1 || e.kind == 4 || e.kind == 5
def evWr (e : Evt) : Bool := e.kind == 2 || e.kind == 4
def evFn (e : Evt) : Bool := e.kind == 3 || e.kind == 4 || e.kind == 5

theorem evWrites_R (hE : event_Writes_In E) (e : Evt) (h : AHeap) : R E 80 [.agg e.cs] h = some ([.c (.bool (evWr e))], h) := by
  refine R_intro hE.fn ?_
  rw [event_Writes_eq]
  simp only [rdE_eq (e := e) rfl, asI_ok, scK_or]; rfl
/-- Is one ahead of another by their threads? -/
def poB (a b : Evt) : Bool := (decide (a.t < 0) && decide (b.t ≥ 0)) || (decide (a.t ≥ 0) && a.t == b.t && decide (a.i < b.i))
def poL (l : List Evt) (a b : Nat) : Bool := poB (l.getD a ⟨0, 0, 0, 0, 0, 0⟩) (l.getD b ⟨0, 0, 0, 0, 0, 0⟩)

end
end Jq

/- Tests in memory; their locations; made ready as the document says. -/
namespace Jq
open Go

structure Atm where
  thread : Int
  reg : Int
  loc : Int
  value : Int
def Atm.cs (a : Atm) : List Cell := [.int .i64 a.thread, .int .i64 a.reg, .int .i64 a.loc, .int .i64 a.value]
def atmC (l : List Atm) : List Cell := l.flatMap Atm.cs
theorem Atm.len (a : Atm) : a.cs.length = 4 := rfl
structure PTest where
  name : ByteArray
  inits : List (Int × Int)
  thr : List (List Ins)
  ck : Int
  any : List (List Atm)

/-- Rows that lie there. -/
def RowsOf {α : Type} (esz : Nat) (C : List α → List Cell) (h : AHeap) (x : Cell) (rows : List (List α)) : Prop :=
  ∃ ts, SlAt h x 1 ts rows.length ∧ Low h.length x ∧ ∀ (t : Nat) (r : List α), rows[t]? = some r → ∃ y : Cell, ts[t]? = some y ∧ SlAt h y esz (C r) r.length ∧ Low h.length y

theorem RowsOf.keep {α : Type} {esz : Nat} {C : List α → List Cell} {h h' : AHeap} {x : Cell} {rows : List (List α)} (r : RowsOf esz C h x rows) (hk : Kp h.length h h') : RowsOf esz C h' x rows := by
  obtain ⟨ts, h1, h2, h3⟩ := r
  exact ⟨ts, h1.keep h2 hk, Low_mono hk.1 h2, fun t r hr => by
    obtain ⟨y, y1, y2, y3⟩ := h3 t r hr
    exact ⟨y, y1, y2.keep y3 hk, Low_mono hk.1 y3⟩⟩

theorem RowsOf.get {α β : Type} {esz : Nat} {C : List α → List Cell} {h : AHeap} {x : Cell} {rows : List (List α)} (r : RowsOf esz C h x rows) {t : Nat} {row : List α} (ht : rows[t]? = some row) :
    ∃ y, SlAt h y esz (C row) row.length ∧ Low h.length y ∧ ∀ (f : Cell → Option β), (idxSK 1 x (t : Int) fun k N o => rdH h k N fun l => atK l o f) = f y := by
  obtain ⟨ts, h1, h2, h3⟩ := r
  obtain ⟨y, y1, y2, y3⟩ := h3 t row ht
  exact ⟨y, y2, y3, fun f => h1.get1 (getI_lt ht) y1⟩

theorem RowsOf.len {α β : Type} {esz : Nat} {C : List α → List Cell} {h : AHeap} {x : Cell} {rows : List (List α)} (r : RowsOf esz C h x rows) {f : Int → Option β} : lenK x f = f rows.length := by
  obtain ⟨ts, h1, _⟩ := r; exact h1.len

/-- A test lies there. -/
def TestAt (h : AHeap) (cs : List Cell) (T : PTest) : Prop :=
  ∃ a b c, cs = [.str T.name, a, b, .int .i64 T.ck, c] ∧ (SlAt h a 2 (pairC T.inits) T.inits.length ∧ Low h.length a) ∧ RowsOf 9 codeC h b T.thr ∧ RowsOf 4 atmC h c T.any

theorem TestAt.keep {h h' : AHeap} {cs : List Cell} {T : PTest} (p : TestAt h cs T) (hk : Kp h.length h h') : TestAt h' cs T := by
  obtain ⟨a, b, c, e, ⟨a1, a2⟩, hb, hc⟩ := p
  exact ⟨a, b, c, e, ⟨a1.keep a2 hk, Low_mono hk.1 a2⟩, hb.keep hk, hc.keep hk⟩

theorem TestAt.len {h : AHeap} {cs : List Cell} {T : PTest} (p : TestAt h cs T) : cs.length = 5 := by
  obtain ⟨a, b, c, rfl, _⟩ := p; rfl

/-- Nothing of a test is long. -/
structure PTest.small (T : PTest) : Prop where
  inits : T.inits.length ≤ 1000
  thr : T.thr.length ≤ 1000
  code : ∀ c ∈ T.thr, c.length ≤ 1000
  any : T.any.length ≤ 1000
  row : ∀ c ∈ T.any, c.length ≤ 1000

/-- Is a letter named? -/
def thereT (T : PTest) (b : Nat) : Bool := (T.inits.any fun p => p.1 % 256 == (b : Int)) || (T.thr.any fun c => c.any fun i => i.loc % 256 == (b : Int)) || (T.any.any fun c => c.any fun a => a.loc % 256 == (b : Int))

/-- The locations, in order. -/
def locsF (S : Nat → Bool) (n : Nat) : List Int := ((List.range n).filter fun c => S (97 + c)).map fun (c : Nat) => ((97 + c : Nat) : Int)
def locsT (T : PTest) : List Int := locsF (thereT T) 26

theorem locsF_succ (S : Nat → Bool) (n : Nat) : locsF S (n + 1) = if S (97 + n) = true then locsF S n ++ [((97 + n : Nat) : Int)] else locsF S n := by
  unfold locsF
  rw [List.range_succ, List.filter_append, List.filter_cons, List.filter_nil]
  split <;> simp

theorem locsF_mem {S : Nat → Bool} {n : Nat} {x : Int} : x ∈ locsF S n ↔ ∃ c, c < n ∧ S (97 + c) = true ∧ x = ((97 + c : Nat) : Int) := by
  unfold locsF
  rw [List.mem_map]
  constructor
  · rintro ⟨c, hc, rfl⟩
    rw [List.mem_filter] at hc
    exact ⟨c, by simpa using hc.1, hc.2, rfl⟩
  · rintro ⟨c, h1, h2, rfl⟩
    exact ⟨c, by rw [List.mem_filter]; exact ⟨by simpa using h1, h2⟩, rfl⟩

section
variable {E : Env}

end
end Jq

/- A test made ready as the document says. -/
namespace Jq
open Go

theorem Own.keepK {n : Nat} {h h' : AHeap} {x : Cell} {esz len : Nat} {cs : List Cell} (o : Own n h x esz cs len) (hk : Kp h.length h h') : Own n h' x esz cs len := by
  refine ⟨o.1, o.2.imp id ?_⟩
  rintro ⟨k, e, hn, hb⟩
  exact ⟨k, e, hn, by rw [hk.blk (blk_lt' hb)]; exact hb⟩
theorem Own.monoN {n m : Nat} (hm : m ≤ n) {h : AHeap} {x : Cell} {esz len : Nat} {cs : List Cell} (o : Own n h x esz cs len) : Own m h x esz cs len :=
  ⟨o.1, o.2.imp id fun ⟨k, e, hn, hb⟩ => ⟨k, e, by omega, hb⟩⟩
theorem Own.blkLt {n : Nat} {h : AHeap} {x : Cell} {esz len : Nat} {cs : List Cell} (o : Own n h x esz cs len) {k : Nat} (hk : isBlk x k) : k < h.length ∧ n ≤ k := by
  rcases o.2 with ⟨rfl, _⟩ | ⟨j, rfl, hn, hb⟩
  · cases hk
  · have : j = k := hk
    subst this; exact ⟨blk_lt' hb, hn⟩

/-- Rows of the call's own, each in a block of its own. -/
def RowsOwn {α : Type} (esz : Nat) (C : List α → List Cell) (n : Nat) (h : AHeap) (y : Cell) (rows : List (List α)) : Prop :=
  ∃ ts, Own n h y 1 ts rows.length ∧ ∀ (t : Nat) (r : List α), rows[t]? = some r → ∃ x : Cell, ts[t]? = some x ∧ Own n h x esz (C r) r.length ∧ ∀ k, isBlk x k → ¬ isBlk y k

section rows
variable {α : Type} {esz : Nat} {C : List α → List Cell} {n : Nat}

theorem RowsOwn.nil (h : AHeap) : RowsOwn esz C n h .nils ([] : List (List α)) := ⟨[], Own.nil _ _ _, fun t r hr => by simp at hr⟩

theorem RowsOwn.keep {h h' : AHeap} {y : Cell} {rows : List (List α)} (r : RowsOwn esz C n h y rows) (hk : Kp h.length h h') : RowsOwn esz C n h' y rows := by
  obtain ⟨ts, h1, h2⟩ := r
  exact ⟨ts, h1.keepK hk, fun t r hr => by obtain ⟨x, x1, x2, x3⟩ := h2 t r hr; exact ⟨x, x1, x2.keepK hk, x3⟩⟩

theorem RowsOwn.blkLt {h : AHeap} {y : Cell} {rows : List (List α)} (r : RowsOwn esz C n h y rows) {k : Nat} (hk : isBlk y k) : k < h.length ∧ n ≤ k := by
  obtain ⟨ts, h1, _⟩ := r; exact h1.blkLt hk

theorem RowsOwn.of {h : AHeap} {y : Cell} {rows : List (List α)} (r : RowsOwn esz C n h y rows) : RowsOf esz C h y rows := by
  obtain ⟨ts, h1, h2⟩ := r
  exact ⟨ts, h1.at, h1.low, fun t r hr => by obtain ⟨x, x1, x2, _⟩ := h2 t r hr; exact ⟨x, x1, x2.at, x2.low⟩⟩

theorem RowsOwn.push {h : AHeap} {y x : Cell} {rows : List (List α)} {r : List α} (w : RowsOwn esz C n h y rows) (hx : Own n h x esz (C r) r.length) (hd : ∀ k, isBlk x k → ¬ isBlk y k) (hn : n ≤ h.length) (hl : rows.length ≤ 2000) :
    ∃ y' h', (∀ {β : Type} (f : Cell → AHeap → Option β), appK 1 24 y [x] h f = f y' h') ∧ RowsOwn esz C n h' y' (rows ++ [r]) ∧ Kp n h h' ∧ ∀ j b, blk? h j = some b → ¬ isBlk y j → blk? h' j = some b ∧ ¬ isBlk y' j := by
  have hm : maxBytes ≥ 2001 * 24 := by unfold maxBytes; omega
  obtain ⟨ts, h1, h2⟩ := w
  obtain ⟨y', h', ha, ho, hk, hf⟩ := h1.app (bytes := 24) (xs := [x]) hn rfl (by omega) (by omega) (by omega)
  have mv : ∀ {z : Cell} {cs : List Cell} {len : Nat}, Own n h z esz cs len → (∀ k, isBlk z k → ¬ isBlk y k) → Own n h' z esz cs len ∧ ∀ k, isBlk z k → ¬ isBlk y' k := by
    intro z cs len oz dz
    rcases oz.2 with e | ⟨k, e, hnk, hb⟩
    · refine ⟨⟨oz.1, .inl e⟩, fun k hk => ?_⟩
      rw [e.1] at hk; cases hk
    · have hik : isBlk z k := by rw [e]; rfl
      obtain ⟨b1, b2⟩ := hf k _ hb (dz k hik)
      refine ⟨⟨oz.1, .inr ⟨k, e, hnk, b1⟩⟩, fun j hj => ?_⟩
      rw [e] at hj
      have : k = j := hj
      subst this; exact b2
  refine ⟨y', h', ha, ⟨ts ++ [x], by rw [List.length_append, List.length_singleton]; exact ho, fun t r' hr => ?_⟩, hk, hf⟩
  have hts : ts.length = rows.length := by have := h1.1; omega
  by_cases ht : t < rows.length
  · rw [List.getElem?_append_left ht] at hr
    obtain ⟨z, z1, z2, z3⟩ := h2 t r' hr
    obtain ⟨w1, w2⟩ := mv z2 z3
    exact ⟨z, by rw [List.getElem?_append_left (by omega)]; exact z1, w1, w2⟩
  · rw [List.getElem?_append_right (by omega)] at hr
    have h0 : t - rows.length = 0 := by
      rcases Nat.eq_zero_or_pos (t - rows.length) with e | e
      · exact e
      · rw [List.getElem?_eq_none (by simp; omega)] at hr; cases hr
    rw [h0] at hr
    obtain rfl : r = r' := by simpa using hr
    obtain ⟨w1, w2⟩ := mv hx hd
    exact ⟨x, by rw [List.getElem?_append_right (by omega), show t - ts.length = 0 by omega]; rfl, w1, w2⟩
end rows

/-- Where a letter stands. -/
def plc : List Int → Int → Nat → Int
  | [], _, _ => -1
  | c :: t, x, i => if c = x then i else plc t x (i + 1)

def initV (l : List (Int × Int)) (c : Int) : Int := l.foldl (fun v p => if p.1 = c then p.2 else v) 0
def compI (locs : List Int) (i : Ins) : Ins := if i.loc ≠ 0 then { i with loc := plc locs i.loc 0 } else i
def compT (T : PTest) : PProg := ⟨locsT T, (locsT T).map (initV T.inits), T.thr.map fun c => c.map (compI (locsT T))⟩

section
variable {E : Env}

/-- A program whose row of threads is the call's own. -/
def ProgOwn (n : Nat) (h : AHeap) (cs : List Cell) (P : PProg) : Prop :=
  ∃ (m : Nat) (a b y : Cell), cs = [a, b, y] ∧ n ≤ m ∧ m ≤ h.length ∧ (SlAt h a 1 (intC .u8 P.locs) P.locs.length ∧ Low m a) ∧ (SlAt h b 1 (intC .i64 P.init) P.init.length ∧ Low m b) ∧ RowsOwn 9 codeC m h y P.thr

theorem ProgOwn.at {n : Nat} {h : AHeap} {cs : List Cell} {P : PProg} (p : ProgOwn n h cs P) : ProgAt h cs P := by
  obtain ⟨m, a, b, y, rfl, h1, h2, ⟨a1, a2⟩, ⟨b1, b2⟩, hy⟩ := p
  obtain ⟨ts, y1, y2, y3⟩ := hy.of
  exact ⟨a, b, y, ts, rfl, ⟨a1, Low_mono h2 a2⟩, ⟨b1, Low_mono h2 b2⟩, ⟨y1, y2⟩, y3⟩

end
end Jq

/- Is there one in a row? (printed by tools/gen_any.py) -/
namespace Jq
open Go

def pairCs (p : Int × Int) : List Cell := [.int .i64 p.1, .int .i64 p.2]
section
variable {E : Env}

theorem any_sIns_Ins_R (hE : slices_ContainsFunc_sIns_Ins_In E) {x f : Cell} {l : List (Ins)} {h : AHeap} (hx : SlAt h x 9 (codeC l) l.length) (hl : l.length < 9223372036854775807) (p : Ins → Bool)
    (hf : ∀ i ∈ l, ∀ {α : Type} (F : AV → AHeap → Option α), (fnK f fun g cs => c1 (R E g ([.agg (i.cs)] ++ cs) h) F) = F (.c (.bool (p i))) h) : R E 155 [.c x, .c f] h = some ([.c (.bool (l.any p))], h) := by
  have loop : ∀ (n i : Nat), i + n = l.length → ∃ r : Int, (Lim (slices_IndexFunc_sIns_Ins_F1 (R E) Lim E.glob) (slices_IndexFunc_sIns_Ins_s1 x f l.length (i : Int) h)).bind (fun q => slices_IndexFunc_sIns_Ins_k3 (R E) Lim E.glob h q.1 q.2) = some ([.c (.int .i64 r)], h) ∧ decide (r ≥ 0) = (l.drop i).any p := by
    intro n
    induction n with
    | zero =>
      intro i hi
      refine ⟨-1, ?_, ?_⟩
      · have hr : slices_IndexFunc_sIns_Ins_F1 (R E) Lim E.glob (slices_IndexFunc_sIns_Ins_s1 x f l.length (i : Int) h) = some (.exit 0, slices_IndexFunc_sIns_Ins_x1_1 h) := by rw [slices_IndexFunc_sIns_Ins_r1, if_neg (by simp; omega)]
        rw [Lim_exit hr, bind_ok, slices_IndexFunc_sIns_Ins_e1_1]
      · rw [List.drop_of_length_le (by omega)]; rfl
    | succ n ih =>
      intro i hi
      have hq : l[i]? = some l[i] := List.getElem?_eq_getElem (by omega)
      have hdr : l.drop i = l[i] :: l.drop (i + 1) := List.drop_eq_getElem_cons (by omega)
      generalize l[i] = q at hq hdr
      obtain ⟨off, c, g1, g2, g3⟩ := hx.insG hq
      have hp := @hf q (List.mem_of_getElem? hq) (Ex × St)
      rw [hdr, List.any_cons]
      cases hb : p q with
      | true =>
        refine ⟨(i : Int), ?_, ?_⟩
        · have hr : slices_IndexFunc_sIns_Ins_F1 (R E) Lim E.glob (slices_IndexFunc_sIns_Ins_s1 x f l.length (i : Int) h) = some (.ret, slices_IndexFunc_sIns_Ins_x1_0 (i : Int) h) := by rw [slices_IndexFunc_sIns_Ins_r1, if_pos (by simp; omega), g1, if_pos g2, g3, hp, asB_ok, hb, if_pos rfl]
          rw [Lim_ret hr, bind_ok, slices_IndexFunc_sIns_Ins_e1_0]
        · rw [Bool.true_or]; exact decide_eq_true (by omega)
      | false =>
        obtain ⟨r, h1, h2⟩ := ih (i + 1) (by omega)
        refine ⟨r, ?_, by rw [Bool.false_or]; exact h2⟩
        cases hL : Lim (slices_IndexFunc_sIns_Ins_F1 (R E) Lim E.glob) (slices_IndexFunc_sIns_Ins_s1 x f l.length ((i + 1 : Nat) : Int) h) with
        | none => rw [hL] at h1; cases h1
        | some w =>
          have hr : slices_IndexFunc_sIns_Ins_F1 (R E) Lim E.glob (slices_IndexFunc_sIns_Ins_s1 x f l.length (i : Int) h) = some (.normal, slices_IndexFunc_sIns_Ins_s1 x f l.length ((i + 1 : Nat) : Int) h) := by rw [slices_IndexFunc_sIns_Ins_r1, if_pos (by simp; omega), g1, if_pos g2, g3, hp, asB_ok, hb, if_neg (by simp), g_succ (by omega)]
          rw [Lim_next hr hL]
          rw [hL] at h1; exact h1
  obtain ⟨r, h1, h2⟩ := loop l.length 0 (by omega)
  have h3 : R E 156 [.c x, .c f] h = some ([.c (.int .i64 r)], h) := by
    refine R_intro hE.c156.fn ?_
    rw [slices_IndexFunc_sIns_Ins_eq, hx.len]; exact h1
  refine R_intro hE.fn ?_
  rw [slices_ContainsFunc_sIns_Ins_eq, h3, c1_ok, asI_ok, h2]; rfl

end
end Jq

