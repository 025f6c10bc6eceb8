/- YtnjjcoobhpldcaaDoorVmCopiesA: a part of the proof; no conditions of its own. -/
import Derived.KernelRfl
import Derived.Lib.TrailingZeros
import Derived.Test.YtnjjcoobhpldcaaDoorRows
import Derived.Test.YtnjjcoobhpldcaaDoorCoreC
set_option linter.unusedVariables false
set_option linter.unusedSimpArgs false

namespace Jq
open Go
def q42 : Fn := { np := 1, nt := 14, ns := 0, res := [.t 2 (.i .i64)], gc := false, code := (.seq (.reg 0 false (.op (some 2) .mov [(.k (.c (.int .i64 0)))] .nil)) (.seq (.seq (.reg 1 false (.op (some 3) .mov [(.t 0)] (.op (some 4) (.bin .eql) [(.t 3), (.k (.c (.int .u64 0)))] .nil))) (.cond (.t 4) (.seq (.reg 2 false (.op (some 2) .mov [(.k (.c (.int .i64 64)))] .nil)) .ret) .skip)) (.seq (.reg 3 false (.op (some 5) .mov [(.t 0)] (.op (some 6) .mov [(.t 0)] (.op (some 7) (.un .neg) [(.t 6)] (.op (some 8) (.bin .and) [(.t 5), (.t 7)] (.op (some 9) (.bin .mul) [(.t 8), (.k (.c (.int .u64 285870213051353865)))] (.op (some 10) (.bin .shr) [(.t 9), (.k (.c (.int .u64 58)))] (.op (some 11) (.idxA 64 1) [(.k (.c (.gptr 1 0))), (.t 10)] (.op (some 12) (.ld .heap (.i .u8)) [(.t 11)] (.op (some 13) (.conv .i64) [(.t 12)] (.op (some 2) .mov [(.t 13)] .nil))))))))))) .ret))) }
end Jq

namespace Jq
open Go
structure q42_In (E : Env) : Prop where
  fn : E.fn 42 = some q42
end Jq

namespace Jq
open Go
def q190 : Fn := { np := 1, nt := 11, ns := 1, res := [.all (.slot 0) 2 74], gc := false, code := (.seq (.reg 0 false (.al 2 0 (List.replicate 74 (Cell.int .i64 0)) .nil)) (.seq (.seq (.reg 1 false (.op (some 3) .mov [(.t 0)] (.op (some 4) (.bin .neq) [(.t 3), (.k (.c (.int .i64 2)))] (.op (some 5) .mov [(.t 4)] (.sc 5 true (.op (some 6) .mov [(.t 0)] (.op (some 7) (.bin .neq) [(.t 6), (.k (.c (.int .i64 3)))] .nil)) 7 8 false .nil))))) (.cond (.t 8) (.reg 2 false (.op (some 0) .mov [(.k (.c (.int .i64 0)))] .nil)) .skip)) (.seq (.reg 3 false (.op (some 9) .mov [(.t 0)] (.op (some 10) (.build (List.replicate 74 (Cell.int .i64 0)) [(0, 1)]) [(.t 9)] (.op none (.stAll (.slot 0) 74) [(.t 2), (.t 10)] .nil)))) .ret))) }
def q191 : Fn := { np := 1, nt := 6, ns := 1, res := [.t 2 .b], gc := false, code := (.seq (.reg 0 false (.box 1 0 (.t 0) (.op (some 2) .mov [(.k (.c (.bool false)))] .nil))) (.seq (.reg 1 false (.op (some 3) (.addr 1) [(.t 1)] (.op (some 4) (.ld (.slot 0) (.i .i64)) [(.t 3)] (.op (some 5) (.bin .eql) [(.t 4), (.k (.c (.int .i64 0)))] (.op (some 2) .mov [(.t 5)] .nil))))) .ret)) }
def q192 : Fn := { np := 2, nt := 29, ns := 1, res := [.t 4 (.i .i64), .t 5 (.i .i64), .t 6 (.i .i64), .t 7 .b], gc := false, code := (.seq (.reg 0 false (.box 2 0 (.t 0) (.op (some 4) .mov [(.k (.c (.int .i64 0)))] (.op (some 5) .mov [(.k (.c (.int .i64 0)))] (.op (some 6) .mov [(.k (.c (.int .i64 0)))] (.op (some 7) .mov [(.k (.c (.bool false)))] .nil)))))) (.seq (.reg 1 false (.op (some 9) (.ldAll (.slot 0) 74) [(.t 2)] (.op (some 10) .mov [(.t 1)] (.op (some 11) (.call 204 [(.i .i64)]) [(.t 9), (.t 10)] (.op (some 8) .mov [(.t 11)] .nil))))) (.seq (.seq (.reg 2 false (.op (some 12) .mov [(.t 8)] (.op (some 13) (.bin .lss) [(.t 12), (.k (.c (.int .i64 0)))] .nil))) (.cond (.t 13) (.seq (.reg 3 false (.op (some 4) .mov [(.k (.c (.int .i64 0)))] (.op (some 5) .mov [(.k (.c (.int .i64 0)))] (.op (some 6) .mov [(.k (.c (.int .i64 0)))] (.op (some 7) .mov [(.k (.c (.bool false)))] .nil))))) .ret) .skip)) (.seq (.reg 4 true (.op (some 14) .mov [(.t 8)] (.op (some 15) (.addr 2) [(.t 2)] (.op (some 16) (.idxA 24 3) [(.t 15), (.t 14)] (.op (some 17) (.addr 0) [(.t 16)] (.op (some 18) (.ld (.slot 0) (.i .i64)) [(.t 17)] (.op (some 19) .mov [(.t 8)] (.op (some 20) (.addr 2) [(.t 2)] (.op (some 21) (.idxA 24 3) [(.t 20), (.t 19)] (.op (some 22) (.addr 1) [(.t 21)] (.op (some 23) (.ld (.slot 0) (.i .i64)) [(.t 22)] (.op (some 24) .mov [(.t 8)] (.op (some 25) (.addr 2) [(.t 2)] (.op (some 26) (.idxA 24 3) [(.t 25), (.t 24)] (.op (some 27) (.addr 2) [(.t 26)] (.op (some 28) (.ld (.slot 0) (.i .i64)) [(.t 27)] (.op (some 4) .mov [(.t 18)] (.op (some 5) .mov [(.t 23)] (.op (some 6) .mov [(.t 28)] (.op (some 7) .mov [(.k (.c (.bool true)))] .nil)))))))))))))))))))) .ret)))) }
def q204_b1 : IC := (.seq (.reg 2 false (.op (some 9) (.bin .lss) [(.t 8), (.t 7)] .nil)) (.seq (.cond (.t 9) .skip (.exit 0)) (.seq (.blk 1 (.seq (.reg 3 false (.op (some 10) .mov [(.t 8)] (.op (some 5) .mov [(.t 10)] .nil))) (.seq (.reg 4 false (.op (some 11) (.addr 0) [(.t 2)] (.op (some 12) (.ld (.slot 0) (.i .i64)) [(.t 11)] (.op (some 13) (.bin .eql) [(.t 12), (.k (.c (.int .i64 2)))] (.op (some 14) .mov [(.t 13)] (.sc 14 false (.op (some 15) .mov [(.t 5)] (.op (some 16) (.addr 2) [(.t 2)] (.op (some 17) (.idxA 24 3) [(.t 16), (.t 15)] (.op (some 18) (.addr 0) [(.t 17)] (.op (some 19) (.ld (.slot 0) (.i .i64)) [(.t 18)] (.op (some 20) .mov [(.t 1)] (.op (some 21) (.bin .eql) [(.t 19), (.t 20)] .nil))))))) 21 22 true .nil)))))) (.cond (.t 22) (.seq (.reg 5 false (.op (some 23) .mov [(.t 5)] (.op (some 4) .mov [(.t 23)] .nil))) .ret) .skip)))) (.reg 6 false (.op (some 24) (.bin .add) [(.t 8), (.k (.c (.int .i64 1)))] (.op (some 8) .mov [(.t 24)] .nil))))))
def q204_p1 : IC := (.seq (.reg 7 false (.op (some 4) .mov [(.k (.c (.int .i64 (-1))))] .nil)) .ret)
def q204 : Fn := { np := 2, nt := 25, ns := 1, res := [.t 4 (.i .i64)], gc := false, code := (.seq (.reg 0 false (.box 2 0 (.t 0) (.op (some 4) .mov [(.k (.c (.int .i64 0)))] .nil))) (.seq (.seq (.reg 1 false (.op (some 6) (.addr 1) [(.t 2)] (.op (some 7) (.ld (.slot 0) (.i .i64)) [(.t 6)] (.op (some 8) .mov [(.k (.c (.int .i64 0)))] .nil)))) (.blk 0 (.loop [1, 2, 7, 8] [0] [(0, [4], []), (1, [], [])] q204_b1))) q204_p1)) }
def q205_b1 : IC := (.seq (.seq (.reg 2 false (.op (some 11) .mov [(.t 7)] (.op (some 12) (.bin .geq) [(.t 11), (.k (.c (.int .i64 0)))] .nil))) (.cond (.t 12) .skip (.exit 0))) (.seq (.blk 1 (.seq (.reg 4 false (.op (some 15) .mov [(.t 7)] (.op (some 16) (.addr 2) [(.t 2)] (.op (some 17) (.idxA 24 3) [(.t 16), (.t 15)] (.op (some 18) (.addr 0) [(.t 17)] (.op (some 19) (.ld (.slot 0) (.i .i64)) [(.t 18)] (.op (some 20) .mov [(.t 1)] (.op (some 21) (.bin .eql) [(.t 19), (.t 20)] .nil)))))))) (.cond (.t 21) (.seq (.reg 5 true (.op (some 22) .mov [(.t 7)] (.op (some 23) (.addr 2) [(.t 2)] (.op (some 24) (.idxA 24 3) [(.t 23), (.t 22)] (.op (some 25) (.addr 1) [(.t 24)] (.op (some 26) (.ld (.slot 0) (.i .i64)) [(.t 25)] (.op (some 27) .mov [(.t 7)] (.op (some 28) (.addr 2) [(.t 2)] (.op (some 29) (.idxA 24 3) [(.t 28), (.t 27)] (.op (some 30) (.addr 2) [(.t 29)] (.op (some 31) (.ld (.slot 0) (.i .i64)) [(.t 30)] (.op (some 4) .mov [(.t 26)] (.op (some 5) .mov [(.t 31)] (.op (some 6) .mov [(.k (.c (.bool true)))] .nil)))))))))))))) .ret) .skip))) (.reg 3 false (.op (some 13) .mov [(.t 7)] (.op (some 14) (.bin .sub) [(.t 13), (.k (.c (.int .i64 1)))] (.op (some 7) .mov [(.t 14)] .nil))))))
def q205_p1 : IC := (.seq (.reg 6 false (.op (some 4) .mov [(.k (.c (.int .i64 0)))] (.op (some 5) .mov [(.k (.c (.int .i64 0)))] (.op (some 6) .mov [(.k (.c (.bool false)))] .nil)))) .ret)
def q205 : Fn := { np := 2, nt := 32, ns := 1, res := [.t 4 (.i .i64), .t 5 (.i .i64), .t 6 .b], gc := false, code := (.seq (.reg 0 false (.box 2 0 (.t 0) (.op (some 4) .mov [(.k (.c (.int .i64 0)))] (.op (some 5) .mov [(.k (.c (.int .i64 0)))] (.op (some 6) .mov [(.k (.c (.bool false)))] .nil))))) (.seq (.seq (.reg 1 false (.op (some 8) (.addr 1) [(.t 2)] (.op (some 9) (.ld (.slot 0) (.i .i64)) [(.t 8)] (.op (some 10) (.bin .sub) [(.t 9), (.k (.c (.int .i64 1)))] (.op (some 7) .mov [(.t 10)] .nil))))) (.blk 0 (.loop [1, 2, 7] [0] [(0, [4, 5, 6], []), (1, [], [])] q205_b1))) q205_p1)) }
def q206 : Fn := { np := 4, nt := 39, ns := 2, res := [.all (.slot 1) 8 74], gc := false, code := (.seq (.reg 0 false (.box 4 0 (.t 0) (.al 8 1 (List.replicate 74 (Cell.int .i64 0)) .nil))) (.seq (.seq (.reg 1 false (.op (some 9) (.addr 0) [(.t 4)] (.op (some 10) (.ld (.slot 0) (.i .i64)) [(.t 9)] (.op (some 11) (.bin .eql) [(.t 10), (.k (.c (.int .i64 0)))] (.op (some 12) .mov [(.t 11)] (.sc 12 false (.op (some 13) .mov [(.t 1)] (.op (some 14) (.bin .lss) [(.t 13), (.k (.c (.int .i64 0)))] .nil)) 14 15 true (.op (some 16) .mov [(.t 15)] (.sc 16 false (.op (some 17) .mov [(.t 1)] (.op (some 18) (.bin .geq) [(.t 17), (.k (.c (.int .i64 4)))] .nil)) 18 19 true (.op (some 20) .mov [(.t 19)] (.sc 20 false (.op (some 21) (.addr 1) [(.t 4)] (.op (some 22) (.ld (.slot 0) (.i .i64)) [(.t 21)] (.op (some 23) (.bin .geq) [(.t 22), (.k (.c (.int .i64 24)))] .nil))) 23 24 true .nil)))))))))) (.cond (.t 24) (.seq (.reg 2 false (.op (some 25) (.ldAll (.slot 0) 74) [(.t 4)] (.op none (.stAll (.slot 1) 74) [(.t 8), (.t 25)] .nil))) .ret) .skip)) (.seq (.reg 3 false (.op (some 26) (.addr 1) [(.t 4)] (.op (some 27) (.ld (.slot 0) (.i .i64)) [(.t 26)] (.op (some 28) .mov [(.t 1)] (.op (some 29) .mov [(.t 2)] (.op (some 30) .mov [(.t 3)] (.op (some 31) (.build ([Cell.int .i64 0, Cell.int .i64 0, Cell.int .i64 0]) [(0, 1), (1, 1), (2, 1)]) [(.t 28), (.t 29), (.t 30)] (.op (some 32) (.addr 2) [(.t 4)] (.op (some 33) (.idxA 24 3) [(.t 32), (.t 27)] (.op none (.stN (.slot 0) 3) [(.t 33), (.t 31)] .nil)))))))))) (.seq (.reg 4 false (.op (some 34) (.addr 1) [(.t 4)] (.op (some 35) (.ld (.slot 0) (.i .i64)) [(.t 34)] (.op (some 36) (.bin .add) [(.t 35), (.k (.c (.int .i64 1)))] (.op (some 37) (.addr 1) [(.t 4)] (.op none (.st (.slot 0)) [(.t 37), (.t 36)] .nil)))))) (.seq (.reg 5 false (.op (some 38) (.ldAll (.slot 0) 74) [(.t 4)] (.op none (.stAll (.slot 1) 74) [(.t 8), (.t 38)] .nil))) .ret))))) }
def q207 : Fn := { np := 2, nt := 30, ns := 1, res := [.all (.slot 0) 4 74], gc := true, code := (.seq (.reg 0 false (.op (some 2) .boxH [(.t 0)] (.al 4 0 (List.replicate 74 (Cell.int .i64 0)) .nil))) (.seq (.reg 1 false (.op (some 6) (.ldAll .heap 74) [(.t 2)] (.op (some 7) .mov [(.t 1)] (.op (some 8) (.call 204 [(.i .i64)]) [(.t 6), (.t 7)] (.op (some 5) .mov [(.t 8)] .nil))))) (.seq (.seq (.reg 2 false (.op (some 9) .mov [(.t 5)] (.op (some 10) (.bin .lss) [(.t 9), (.k (.c (.int .i64 0)))] .nil))) (.cond (.t 10) (.seq (.reg 3 false (.op (some 11) (.ldAll .heap 74) [(.t 2)] (.op none (.stAll (.slot 0) 74) [(.t 4), (.t 11)] .nil))) .ret) .skip)) (.seq (.reg 4 true (.op (some 12) (.addr 2) [(.t 2)] (.op (some 13) .mov [(.t 5)] (.op (some 14) (.slcA 24 3 true false) [(.t 12), (.t 13)] (.op (some 15) (.addr 2) [(.t 2)] (.op (some 16) .mov [(.t 5)] (.op (some 17) (.bin .add) [(.t 16), (.k (.c (.int .i64 1)))] (.op (some 18) (.slcA 24 3 true false) [(.t 15), (.t 17)] (.op (some 19) (.copy 3) [(.t 14), (.t 18)] .nil))))))))) (.seq (.reg 5 false (.op (some 20) (.addr 1) [(.t 2)] (.op (some 21) (.ld .heap (.i .i64)) [(.t 20)] (.op (some 22) (.bin .sub) [(.t 21), (.k (.c (.int .i64 1)))] (.op (some 23) (.addr 1) [(.t 2)] (.op none (.st .heap) [(.t 23), (.t 22)] .nil)))))) (.seq (.reg 6 false (.op (some 24) (.addr 1) [(.t 2)] (.op (some 25) (.ld .heap (.i .i64)) [(.t 24)] (.op (some 26) (.build ([Cell.int .i64 0, Cell.int .i64 0, Cell.int .i64 0]) []) [] (.op (some 27) (.addr 2) [(.t 2)] (.op (some 28) (.idxA 24 3) [(.t 27), (.t 25)] (.op none (.stN .heap 3) [(.t 28), (.t 26)] .nil))))))) (.seq (.reg 7 false (.op (some 29) (.ldAll .heap 74) [(.t 2)] (.op none (.stAll (.slot 0) 74) [(.t 4), (.t 29)] .nil))) .ret))))))) }
end Jq

namespace Jq
open Go
structure q190_In (E : Env) : Prop where
  fn : E.fn 190 = some q190
structure q191_In (E : Env) : Prop where
  fn : E.fn 191 = some q191
structure q204_In (E : Env) : Prop where
  fn : E.fn 204 = some q204
structure q192_In (E : Env) : Prop where
  fn : E.fn 192 = some q192
  c204 : q204_In E
structure q205_In (E : Env) : Prop where
  fn : E.fn 205 = some q205
structure q206_In (E : Env) : Prop where
  fn : E.fn 206 = some q206
structure q207_In (E : Env) : Prop where
  fn : E.fn 207 = some q207
  c204 : q204_In E
end Jq

namespace Jq
open Go
def q80 : Fn := { np := 1, nt := 11, ns := 1, res := [.t 2 .b], gc := false, code := (.seq (.reg 0 false (.box 1 0 (.t 0) (.op (some 2) .mov [(.k (.c (.bool false)))] .nil))) (.seq (.reg 1 false (.op (some 3) (.addr 2) [(.t 1)] (.op (some 4) (.ld (.slot 0) (.i .i64)) [(.t 3)] (.op (some 5) (.bin .eql) [(.t 4), (.k (.c (.int .i64 2)))] (.op (some 6) .mov [(.t 5)] (.sc 6 false (.op (some 7) (.addr 2) [(.t 1)] (.op (some 8) (.ld (.slot 0) (.i .i64)) [(.t 7)] (.op (some 9) (.bin .eql) [(.t 8), (.k (.c (.int .i64 4)))] .nil))) 9 10 true (.op (some 2) .mov [(.t 10)] .nil))))))) .ret)) }
def q109 : Fn := { np := 3, nt := 46, ns := 3, res := [.all (.slot 2) 6 6, .t 7 .b], gc := false, code := (.seq (.reg 0 false (.box 3 0 (.t 0) (.box 4 1 (.t 1) (.al 6 2 ([Cell.int .i64 0, Cell.int .i64 0, Cell.int .i64 0, Cell.int .i64 0, Cell.int .i64 0, Cell.int .i64 0]) (.op (some 7) .mov [(.k (.c (.bool false)))] .nil))))) (.seq (.seq (.reg 1 false (.op (some 8) (.addr 0) [(.t 3)] (.op (some 9) (.ld (.slot 0) (.i .i64)) [(.t 8)] .nil))) (.blk 0 (.seq (.reg 2 false (.op (some 11) (.bin .eql) [(.t 9), (.k (.c (.int .i64 1)))] (.op (some 10) .mov [(.t 11)] .nil))) (.cond (.t 10) (.seq (.reg 3 true (.op (some 12) (.addr 2) [(.t 3)] (.op (some 13) (.ld (.slot 0) (.i .i64)) [(.t 12)] (.op (some 14) (.addr 3) [(.t 3)] (.op (some 15) (.ldN (.slot 0) 2) [(.t 14)] (.op (some 16) (.ldAll (.slot 1) 5) [(.t 4)] (.op (some 17) (.qcall 108 [(.i .i64)]) [(.t 15), (.t 16)] (.op (some 18) (.build ([Cell.int .i64 0, Cell.int .i64 0, Cell.int .i64 0, Cell.int .i64 0, Cell.int .i64 0, Cell.int .i64 0]) [(2, 1), (3, 1), (5, 1)]) [(.k (.c (.int .i64 2))), (.t 13), (.t 17)] (.op none (.stAll (.slot 2) 6) [(.t 6), (.t 18)] (.op (some 7) .mov [(.k (.c (.bool false)))] .nil)))))))))) .ret) (.seq (.reg 4 false (.op (some 20) (.bin .eql) [(.t 9), (.k (.c (.int .i64 2)))] (.op (some 19) .mov [(.t 20)] .nil))) (.cond (.t 19) (.seq (.reg 5 false (.op (some 21) (.addr 2) [(.t 3)] (.op (some 22) (.ld (.slot 0) (.i .i64)) [(.t 21)] (.op (some 23) .mov [(.t 2)] (.op (some 24) (.build ([Cell.int .i64 0, Cell.int .i64 0, Cell.int .i64 0, Cell.int .i64 0, Cell.int .i64 0, Cell.int .i64 0]) [(2, 1), (3, 1), (4, 1)]) [(.k (.c (.int .i64 1))), (.t 22), (.t 23)] (.op none (.stAll (.slot 2) 6) [(.t 6), (.t 24)] (.op (some 7) .mov [(.k (.c (.bool true)))] .nil))))))) .ret) (.seq (.reg 6 false (.op (some 26) (.bin .eql) [(.t 9), (.k (.c (.int .i64 4)))] (.op (some 25) .mov [(.t 26)] .nil))) (.cond (.t 25) (.seq (.seq (.reg 7 false (.op (some 27) (.addr 3) [(.t 3)] (.op (some 28) (.ldN (.slot 0) 2) [(.t 27)] (.op (some 29) (.ldAll (.slot 1) 5) [(.t 4)] (.op (some 30) (.call 108 [(.i .i64)]) [(.t 28), (.t 29)] (.op (some 31) .mov [(.t 2)] (.op (some 32) (.bin .eql) [(.t 30), (.t 31)] .nil))))))) (.cond (.t 32) (.seq (.reg 8 true (.op (some 33) (.addr 2) [(.t 3)] (.op (some 34) (.ld (.slot 0) (.i .i64)) [(.t 33)] (.op (some 35) .mov [(.t 2)] (.op (some 36) (.addr 6) [(.t 3)] (.op (some 37) (.ldN (.slot 0) 2) [(.t 36)] (.op (some 38) (.ldAll (.slot 1) 5) [(.t 4)] (.op (some 39) (.qcall 108 [(.i .i64)]) [(.t 37), (.t 38)] (.op (some 40) (.build ([Cell.int .i64 0, Cell.int .i64 0, Cell.int .i64 0, Cell.int .i64 0, Cell.int .i64 0, Cell.int .i64 0]) [(2, 1), (3, 1), (4, 1), (5, 1)]) [(.k (.c (.int .i64 4))), (.t 34), (.t 35), (.t 39)] (.op none (.stAll (.slot 2) 6) [(.t 6), (.t 40)] (.op (some 7) .mov [(.k (.c (.bool true)))] .nil))))))))))) .ret) .skip)) (.seq (.reg 9 false (.op (some 41) (.addr 2) [(.t 3)] (.op (some 42) (.ld (.slot 0) (.i .i64)) [(.t 41)] (.op (some 43) .mov [(.t 2)] (.op (some 44) (.build ([Cell.int .i64 0, Cell.int .i64 0, Cell.int .i64 0, Cell.int .i64 0, Cell.int .i64 0, Cell.int .i64 0]) [(2, 1), (3, 1), (4, 1)]) [(.k (.c (.int .i64 5))), (.t 42), (.t 43)] (.op none (.stAll (.slot 2) 6) [(.t 6), (.t 44)] (.op (some 7) .mov [(.k (.c (.bool true)))] .nil))))))) .ret)) .skip)))))))) (.seq (.reg 10 false (.op (some 45) (.build ([Cell.int .i64 0, Cell.int .i64 0, Cell.int .i64 0, Cell.int .i64 0, Cell.int .i64 0, Cell.int .i64 0]) [(2, 1)]) [(.k (.c (.int .i64 3)))] (.op none (.stAll (.slot 2) 6) [(.t 6), (.t 45)] (.op (some 7) .mov [(.k (.c (.bool false)))] .nil)))) .ret))) }
end Jq

namespace Jq
open Go
def q94 : Fn := { np := 2, nt := 10, ns := 2, res := [.all (.slot 1) 4 5], gc := false, code := (.seq (.reg 0 false (.box 2 0 (.t 0) (.al 4 1 ([Cell.int .i64 0, Cell.int .i64 0, Cell.int .i64 0, Cell.int .i64 0, Cell.int .i64 0]) .nil))) (.seq (.reg 1 false (.op (some 5) (.ldAll (.slot 0) 3) [(.t 2)] (.op (some 6) .mov [(.t 1)] (.op (some 7) (.call 113 [.any]) [(.t 5), (.t 6)] (.op (some 8) (.build ([Cell.int .i64 0, Cell.int .i64 0, Cell.int .i64 0, Cell.int .i64 0, Cell.int .i64 0]) []) [] (.op (some 9) (.call 114 [.agg]) [(.t 7), (.t 8)] (.op none (.stAll (.slot 1) 5) [(.t 4), (.t 9)] .nil))))))) .ret)) }
def q102_b1 : IC := (.seq (.reg 3 false (.op (some 10) (.bin .lss) [(.t 9), (.t 8)] .nil)) (.seq (.cond (.t 10) .skip (.exit 0)) (.seq (.blk 1 (.seq (.reg 4 false (.op (some 11) (.idxS 1) [(.t 7), (.t 9)] (.op (some 12) (.ld .heap .any) [(.t 11)] (.op (some 5) .mov [(.t 12)] .nil)))) (.reg 5 false (.op (some 13) .mov [(.t 3)] (.op (some 14) .mov [(.t 5)] (.op (some 15) .len [(.t 14)] (.op (some 16) (.bin .add) [(.t 13), (.t 15)] (.op (some 3) .mov [(.t 16)] .nil)))))))) (.reg 6 false (.op (some 17) (.bin .add) [(.t 9), (.k (.c (.int .i64 1)))] (.op (some 9) .mov [(.t 17)] .nil))))))
def q102_p1 : IC := (.seq (.reg 7 false (.op (some 18) .mov [(.t 3)] (.op (some 2) .mov [(.t 18)] .nil))) .ret)
def q102 : Fn := { np := 1, nt := 19, ns := 1, res := [.t 2 (.i .i64)], gc := false, code := (.seq (.reg 0 false (.box 1 0 (.t 0) (.op (some 2) .mov [(.k (.c (.int .i64 0)))] .nil))) (.seq (.reg 1 false (.op (some 3) .mov [(.k (.c (.int .i64 0)))] .nil)) (.seq (.seq (.reg 2 false (.op (some 6) (.addr 2) [(.t 1)] (.op (some 7) (.ld (.slot 0) .any) [(.t 6)] (.op (some 8) .len [(.t 7)] (.op (some 9) .mov [(.k (.c (.int .i64 0)))] .nil))))) (.blk 0 (.loop [3, 7, 8, 9] [] [(1, [3], [])] q102_b1))) q102_p1))) }
def q105 : Fn := { np := 3, nt := 39, ns := 4, res := [.all (.slot 2) 6 9, .t 7 .b], gc := false, code := (.seq (.reg 0 false (.box 3 0 (.t 0) (.box 5 1 (.t 2) (.al 6 2 (List.replicate 9 (Cell.int .i64 0)) (.op (some 7) .mov [(.k (.c (.bool false)))] .nil))))) (.seq (.reg 1 false (.op (some 10) (.ldAll (.slot 0) 3) [(.t 3)] (.op (some 11) .mov [(.t 1)] (.op (some 12) (.call 113 [.any]) [(.t 10), (.t 11)] (.op (some 8) .mov [(.t 12)] .nil))))) (.seq (.seq (.reg 2 false (.op (some 13) (.addr 0) [(.t 5)] (.op (some 14) (.ld (.slot 1) (.i .i64)) [(.t 13)] (.op (some 15) (.bin .lss) [(.t 14), (.k (.c (.int .i64 0)))] (.op (some 16) .mov [(.t 15)] (.sc 16 false (.op (some 17) (.addr 0) [(.t 5)] (.op (some 18) (.ld (.slot 1) (.i .i64)) [(.t 17)] (.op (some 19) .mov [(.t 8)] (.op (some 20) .len [(.t 19)] (.op (some 21) (.bin .geq) [(.t 18), (.t 20)] .nil))))) 21 22 true .nil)))))) (.cond (.t 22) (.seq (.reg 3 false (.op (some 23) (.build (List.replicate 9 (Cell.int .i64 0)) []) [] (.op none (.stAll (.slot 2) 9) [(.t 6), (.t 23)] (.op (some 7) .mov [(.k (.c (.bool false)))] .nil)))) .ret) .skip)) (.seq (.reg 4 false (.op (some 24) .mov [(.t 8)] (.op (some 25) (.addr 0) [(.t 5)] (.op (some 26) (.ld (.slot 1) (.i .i64)) [(.t 25)] (.op (some 27) (.idxS 9) [(.t 24), (.t 26)] (.op (some 28) (.ldN .heap 9) [(.t 27)] (.al 9 3 (List.replicate 9 (Cell.int .i64 0)) (.op none (.stAll (.slot 3) 9) [(.t 9), (.t 28)] .nil)))))))) (.seq (.seq (.reg 5 false (.op (some 29) (.addr 0) [(.t 9)] (.op (some 30) (.ld (.slot 3) (.i .i64)) [(.t 29)] (.op (some 31) (.bin .lss) [(.t 30), (.k (.c (.int .i64 1)))] (.op (some 32) .mov [(.t 31)] (.sc 32 false (.op (some 33) (.addr 0) [(.t 9)] (.op (some 34) (.ld (.slot 3) (.i .i64)) [(.t 33)] (.op (some 35) (.bin .gtr) [(.t 34), (.k (.c (.int .i64 4)))] .nil))) 35 36 true .nil)))))) (.cond (.t 36) (.seq (.reg 6 false (.op (some 37) (.build (List.replicate 9 (Cell.int .i64 0)) []) [] (.op none (.stAll (.slot 2) 9) [(.t 6), (.t 37)] (.op (some 7) .mov [(.k (.c (.bool false)))] .nil)))) .ret) .skip)) (.seq (.reg 7 false (.op (some 38) (.ldAll (.slot 3) 9) [(.t 9)] (.op none (.stAll (.slot 2) 9) [(.t 6), (.t 38)] (.op (some 7) .mov [(.k (.c (.bool true)))] .nil)))) .ret)))))) }
def q106 : Fn := { np := 4, nt := 42, ns := 3, res := [.all (.slot 1) 8 5], gc := true, code := (.seq (.reg 0 false (.box 4 0 (.t 0) (.op (some 6) .boxH [(.t 2)] (.al 8 1 ([Cell.int .i64 0, Cell.int .i64 0, Cell.int .i64 0, Cell.int .i64 0, Cell.int .i64 0]) .nil)))) (.seq (.reg 1 false (.op (some 12) (.ldAll (.slot 0) 3) [(.t 4)] (.op (some 13) .mov [(.t 1)] (.op (some 14) (.ldAll .heap 5) [(.t 6)] (.op (some 15) (.call 105 [.agg, .b]) [(.t 12), (.t 13), (.t 14)] (.op (some 11) .mov [(.t 15)] (.op (some 16) (.ext 0) [(.t 11)] (.op (some 17) (.ext 1) [(.t 11)] (.al 9 2 (List.replicate 9 (Cell.int .i64 0)) (.op none (.stAll (.slot 2) 9) [(.t 9), (.t 16)] (.op (some 10) .mov [(.t 17)] .nil))))))))))) (.seq (.seq (.reg 2 false (.op (some 18) .mov [(.t 10)] (.op (some 19) (.un .not) [(.t 18)] .nil))) (.cond (.t 19) (.seq (.reg 3 false (.op (some 20) (.ldAll .heap 5) [(.t 6)] (.op none (.stAll (.slot 1) 5) [(.t 8), (.t 20)] .nil))) .ret) .skip)) (.seq (.seq (.reg 4 false (.op (some 21) (.addr 0) [(.t 9)] (.op (some 22) (.ld (.slot 2) (.i .i64)) [(.t 21)] (.op (some 23) (.bin .eql) [(.t 22), (.k (.c (.int .i64 2)))] (.op (some 24) .mov [(.t 23)] (.sc 24 false (.op (some 25) (.addr 0) [(.t 9)] (.op (some 26) (.ld (.slot 2) (.i .i64)) [(.t 25)] (.op (some 27) (.bin .eql) [(.t 26), (.k (.c (.int .i64 4)))] .nil))) 27 28 true .nil)))))) (.cond (.t 28) (.reg 5 false (.op (some 29) (.addr 1) [(.t 9)] (.op (some 30) (.ld (.slot 2) (.i .i64)) [(.t 29)] (.op (some 31) .mov [(.t 3)] (.op (some 32) (.call 124 []) [(.t 6), (.t 30), (.t 31)] .nil))))) .skip)) (.seq (.reg 6 false (.op (some 33) (.addr 0) [(.t 6)] (.op (some 34) (.ld .heap (.i .i64)) [(.t 33)] (.op (some 35) (.bin .add) [(.t 34), (.k (.c (.int .i64 1)))] (.op (some 36) (.addr 0) [(.t 6)] (.op none (.st .heap) [(.t 36), (.t 35)] .nil)))))) (.seq (.reg 7 true (.op (some 37) (.ldAll (.slot 0) 3) [(.t 4)] (.op (some 38) .mov [(.t 1)] (.op (some 39) (.qcall 113 [.any]) [(.t 37), (.t 38)] (.op (some 40) (.ldAll .heap 5) [(.t 6)] (.op (some 41) (.qcall 114 [.agg]) [(.t 39), (.t 40)] (.op none (.stAll (.slot 1) 5) [(.t 8), (.t 41)] .nil))))))) .ret)))))) }
def q108 : Fn := { np := 2, nt := 20, ns := 2, res := [.t 4 (.i .i64)], gc := false, code := (.seq (.reg 0 false (.box 2 0 (.t 0) (.box 3 1 (.t 1) (.op (some 4) .mov [(.k (.c (.int .i64 0)))] .nil)))) (.seq (.seq (.reg 1 false (.op (some 5) (.addr 0) [(.t 2)] (.op (some 6) (.ld (.slot 0) (.i .i64)) [(.t 5)] (.op (some 7) (.bin .geq) [(.t 6), (.k (.c (.int .i64 0)))] (.op (some 8) .mov [(.t 7)] (.sc 8 true (.op (some 9) (.addr 0) [(.t 2)] (.op (some 10) (.ld (.slot 0) (.i .i64)) [(.t 9)] (.op (some 11) (.bin .lss) [(.t 10), (.k (.c (.int .i64 4)))] .nil))) 11 12 false .nil)))))) (.cond (.t 12) (.seq (.reg 2 false (.op (some 13) (.addr 0) [(.t 2)] (.op (some 14) (.ld (.slot 0) (.i .i64)) [(.t 13)] (.op (some 15) (.addr 1) [(.t 3)] (.op (some 16) (.idxA 4 1) [(.t 15), (.t 14)] (.op (some 17) (.ld (.slot 1) (.i .i64)) [(.t 16)] (.op (some 4) .mov [(.t 17)] .nil))))))) .ret) .skip)) (.seq (.reg 3 false (.op (some 18) (.addr 1) [(.t 2)] (.op (some 19) (.ld (.slot 0) (.i .i64)) [(.t 18)] (.op (some 4) .mov [(.t 19)] .nil)))) .ret))) }
def q113 : Fn := { np := 2, nt := 19, ns := 1, res := [.t 4 .any], gc := false, code := (.seq (.reg 0 false (.box 2 0 (.t 0) (.op (some 4) .mov [(.k (.c .nils))] .nil))) (.seq (.seq (.reg 1 false (.op (some 5) .mov [(.t 1)] (.op (some 6) (.bin .lss) [(.t 5), (.k (.c (.int .i64 0)))] (.op (some 7) .mov [(.t 6)] (.sc 7 false (.op (some 8) .mov [(.t 1)] (.op (some 9) (.addr 2) [(.t 2)] (.op (some 10) (.ld (.slot 0) .any) [(.t 9)] (.op (some 11) .len [(.t 10)] (.op (some 12) (.bin .geq) [(.t 8), (.t 11)] .nil))))) 12 13 true .nil))))) (.cond (.t 13) (.seq (.reg 2 false (.op (some 4) .mov [(.k (.c .nils))] .nil)) .ret) .skip)) (.seq (.reg 3 false (.op (some 14) (.addr 2) [(.t 2)] (.op (some 15) (.ld (.slot 0) .any) [(.t 14)] (.op (some 16) .mov [(.t 1)] (.op (some 17) (.idxS 1) [(.t 15), (.t 16)] (.op (some 18) (.ld .heap .any) [(.t 17)] (.op (some 4) .mov [(.t 18)] .nil))))))) .ret))) }
def q114_b1 : IC := (.seq (.seq (.reg 1 false (.op (some 10) (.addr 0) [(.t 3)] (.op (some 11) (.ld .heap (.i .i64)) [(.t 10)] (.op (some 12) (.bin .geq) [(.t 11), (.k (.c (.int .i64 0)))] (.op (some 13) .mov [(.t 12)] (.sc 13 true (.op (some 14) (.addr 0) [(.t 3)] (.op (some 15) (.ld .heap (.i .i64)) [(.t 14)] (.op (some 16) .mov [(.t 0)] (.op (some 17) .len [(.t 16)] (.op (some 18) (.bin .lss) [(.t 15), (.t 17)] .nil))))) 18 19 false .nil)))))) (.cond (.t 19) .skip (.exit 0))) (.blk 1 (.seq (.reg 2 false (.op (some 20) .mov [(.t 0)] (.op (some 21) (.addr 0) [(.t 3)] (.op (some 22) (.ld .heap (.i .i64)) [(.t 21)] (.op (some 23) (.idxS 9) [(.t 20), (.t 22)] (.op (some 24) (.ldN .heap 9) [(.t 23)] (.al 5 1 (List.replicate 9 (Cell.int .i64 0)) (.op none (.stAll (.slot 1) 9) [(.t 5), (.t 24)] .nil)))))))) (.seq (.reg 3 true (.op (some 25) (.addr 3) [(.t 5)] (.op (some 26) (.ldN (.slot 1) 2) [(.t 25)] (.op (some 27) (.ldAll .heap 5) [(.t 3)] (.op (some 28) (.qcall 108 [(.i .i64)]) [(.t 26), (.t 27)] (.op (some 29) (.addr 6) [(.t 5)] (.op (some 30) (.ldN (.slot 1) 2) [(.t 29)] (.op (some 31) (.ldAll .heap 5) [(.t 3)] (.op (some 32) (.qcall 108 [(.i .i64)]) [(.t 30), (.t 31)] (.op (some 6) .mov [(.t 28)] (.op (some 7) .mov [(.t 32)] .nil))))))))))) (.seq (.seq (.reg 4 false (.op (some 33) (.addr 0) [(.t 5)] (.op (some 34) (.ld (.slot 1) (.i .i64)) [(.t 33)] .nil))) (.blk 2 (.seq (.reg 6 false (.op (some 37) (.bin .eql) [(.t 34), (.k (.c (.int .i64 5)))] (.op (some 36) .mov [(.t 37)] .nil))) (.cond (.t 36) (.seq (.seq (.reg 7 false (.op (some 39) (.addr 5) [(.t 5)] (.op (some 40) (.ld (.slot 1) (.i .i64)) [(.t 39)] (.op (some 41) .mov [(.t 6)] (.op (some 42) .mov [(.t 7)] (.op (some 43) (.call 125 [(.i .i64), .b]) [(.t 40), (.t 41), (.t 42)] (.op (some 38) .mov [(.t 43)] (.op (some 44) (.ext 0) [(.t 38)] (.op (some 45) (.ext 1) [(.t 38)] (.op (some 8) .mov [(.t 44)] (.op (some 9) .mov [(.t 45)] .nil))))))))))) (.seq (.reg 8 false (.op (some 46) .mov [(.t 9)] .nil)) (.cond (.t 46) (.reg 9 false (.op (some 47) .mov [(.t 8)] (.op (some 6) .mov [(.t 47)] .nil))) .skip))) (.reg 10 false (.op (some 48) (.addr 1) [(.t 5)] (.op (some 49) (.ld (.slot 1) (.i .i64)) [(.t 48)] (.op (some 50) .mov [(.t 6)] (.op (some 51) (.call 124 []) [(.t 3), (.t 49), (.t 50)] .nil)))))) (.seq (.reg 11 false (.op (some 53) (.bin .eql) [(.t 34), (.k (.c (.int .i64 6)))] (.op (some 52) .mov [(.t 53)] .nil))) (.cond (.t 52) (.seq (.reg 12 false (.op (some 54) .mov [(.t 6)] (.op (some 55) .mov [(.t 7)] (.op (some 56) (.bin .eql) [(.t 54), (.t 55)] .nil)))) (.cond (.t 56) (.reg 13 false (.op (some 57) (.addr 0) [(.t 3)] (.op (some 58) (.ld .heap (.i .i64)) [(.t 57)] (.op (some 59) (.addr 8) [(.t 5)] (.op (some 60) (.ld (.slot 1) (.i .i64)) [(.t 59)] (.op (some 61) .mx [(.t 60), (.k (.c (.int .i64 0)))] (.op (some 62) .mov [(.t 0)] (.op (some 63) .len [(.t 62)] (.op (some 64) .mn [(.t 61), (.t 63)] (.op (some 65) (.bin .add) [(.t 58), (.t 64)] (.op (some 66) (.addr 0) [(.t 3)] (.op none (.st .heap) [(.t 66), (.t 65)] .nil)))))))))))) .skip)) (.seq (.reg 5 false (.op (some 35) (.ldAll .heap 5) [(.t 3)] (.op none (.stAll (.slot 0) 5) [(.t 4), (.t 35)] .nil))) .ret))))))) (.reg 14 false (.op (some 67) (.addr 0) [(.t 3)] (.op (some 68) (.ld .heap (.i .i64)) [(.t 67)] (.op (some 69) (.bin .add) [(.t 68), (.k (.c (.int .i64 1)))] (.op (some 70) (.addr 0) [(.t 3)] (.op none (.st .heap) [(.t 70), (.t 69)] .nil)))))))))))
def q114_p1 : IC := (.seq (.reg 15 false (.op (some 71) (.ldAll .heap 5) [(.t 3)] (.op none (.stAll (.slot 0) 5) [(.t 4), (.t 71)] .nil))) .ret)
def q114 : Fn := { np := 2, nt := 72, ns := 2, res := [.all (.slot 0) 4 5], gc := true, code := (.seq (.reg 0 false (.op (some 3) .boxH [(.t 1)] (.al 4 0 ([Cell.int .i64 0, Cell.int .i64 0, Cell.int .i64 0, Cell.int .i64 0, Cell.int .i64 0]) .nil))) (.seq (.blk 0 (.loop [0, 3, 4] [0] [(0, [4], [0]), (1, [3, 4], [0])] q114_b1)) q114_p1)) }
def q124 : Fn := { np := 3, nt := 18, ns := 0, res := [], gc := false, code := (.seq (.reg 0 false (.op (some 6) .mov [(.t 1)] (.op (some 7) (.bin .geq) [(.t 6), (.k (.c (.int .i64 0)))] (.op (some 8) .mov [(.t 7)] (.sc 8 true (.op (some 9) .mov [(.t 1)] (.op (some 10) (.bin .lss) [(.t 9), (.k (.c (.int .i64 4)))] .nil)) 10 11 false .nil))))) (.cond (.t 11) (.reg 1 false (.op (some 12) .mov [(.t 0)] (.op (some 13) .mov [(.t 1)] (.op (some 14) .mov [(.t 2)] (.op (some 15) .nilchk [(.t 12)] (.op (some 16) (.addr 1) [(.t 15)] (.op (some 17) (.idxA 4 1) [(.t 16), (.t 13)] (.op none (.st .heap) [(.t 17), (.t 14)] .nil)))))))) .skip)) }
def q188_b1 : IC := (.seq (.reg 4 false (.op (some 42) (.bin .lss) [(.t 41), (.t 40)] .nil)) (.seq (.cond (.t 42) .skip (.exit 0)) (.seq (.blk 1 (.seq (.reg 5 false (.op (some 43) .mov [(.t 41)] (.op (some 44) (.idxS 1) [(.t 39), (.t 41)] (.op (some 45) (.ld .heap (.i .u8)) [(.t 44)] (.op (some 3) .mov [(.t 43)] (.op (some 4) .mov [(.t 45)] .nil)))))) (.seq (.reg 6 false (.op (some 46) .mov [(.t 4)] (.op (some 47) (.conv .i64) [(.t 46)] (.op (some 48) (.call 158 [.b]) [(.t 47)] (.op (some 49) (.un .not) [(.t 48)] (.op (some 50) .mov [(.t 49)] (.sc 50 false (.op (some 51) .mov [(.t 3)] (.op (some 52) (.bin .gtr) [(.t 51), (.k (.c (.int .i64 0)))] (.op (some 53) .mov [(.t 52)] (.sc 53 true (.op (some 54) .mov [(.t 4)] (.op (some 55) (.addr 0) [(.t 1)] (.op (some 56) (.ld .heap .any) [(.t 55)] (.op (some 57) .mov [(.t 3)] (.op (some 58) (.bin .sub) [(.t 57), (.k (.c (.int .i64 1)))] (.op (some 59) (.idxS 1) [(.t 56), (.t 58)] (.op (some 60) (.ld .heap (.i .u8)) [(.t 59)] (.op (some 61) (.bin .leq) [(.t 54), (.t 60)] .nil)))))))) 61 62 false .nil)))) 62 63 true .nil))))))) (.cond (.t 63) (.seq (.reg 7 false (.op (some 2) .mov [(.k (.c (.bool false)))] .nil)) .ret) .skip)))) (.reg 8 false (.op (some 64) (.bin .add) [(.t 41), (.k (.c (.int .i64 1)))] (.op (some 41) .mov [(.t 64)] .nil))))))
def q188_b2 : IC := (.seq (.reg 11 false (.op (some 70) (.bin .lss) [(.t 69), (.t 68)] .nil)) (.seq (.cond (.t 70) .skip (.exit 2)) (.seq (.blk 3 (.seq (.reg 12 false (.op (some 71) (.idxS 1) [(.t 67), (.t 69)] (.op (some 72) (.ld .heap .any) [(.t 71)] (.op (some 7) .mov [(.t 72)] .nil)))) (.seq (.reg 13 false (.op (some 73) .mov [(.t 7)] (.op (some 74) .len [(.t 73)] (.op (some 75) (.bin .gtr) [(.t 74), (.k (.c (.int .i64 10)))] (.op (some 76) .mov [(.t 75)] (.sc 76 false (.op (some 77) .mov [(.t 7)] (.op (some 78) (.call 148 [.b]) [(.t 77)] (.op (some 79) (.un .not) [(.t 78)] .nil))) 79 80 true (.op (some 81) .mov [(.t 80)] (.sc 81 false (.op (some 82) .mov [(.t 7)] (.op (some 83) (.mkfn 201) [(.t 5)] (.op (some 84) (.call 155 [.b]) [(.t 82), (.t 83)] .nil))) 84 85 true .nil)))))))) (.cond (.t 85) (.seq (.reg 14 false (.op (some 2) .mov [(.k (.c (.bool false)))] .nil)) .ret) .skip)))) (.reg 15 false (.op (some 86) (.bin .add) [(.t 69), (.k (.c (.int .i64 1)))] (.op (some 69) .mov [(.t 86)] .nil))))))
def q188_p2 : IC := (.seq (.reg 16 false (.op (some 2) .mov [(.k (.c (.bool true)))] .nil)) .ret)
def q188_p1 : IC := (.seq (.reg 9 false (.op (some 65) (.mkfn 200) [(.t 1)] (.op (some 5) (.allocH ([Cell.nilf])) [] (.op none (.st .heap) [(.t 5), (.t 65)] .nil)))) (.seq (.seq (.reg 10 false (.op (some 66) (.addr 2) [(.t 1)] (.op (some 67) (.ld .heap .any) [(.t 66)] (.op (some 68) .len [(.t 67)] (.op (some 69) .mov [(.k (.c (.int .i64 0)))] .nil))))) (.blk 2 (.loop [5, 67, 68, 69] [] [(0, [2], []), (3, [], [])] q188_b2))) q188_p2))
def q188 : Fn := { np := 1, nt := 87, ns := 0, res := [.t 2 .b], gc := true, code := (.seq (.reg 0 false (.op (some 1) .boxH [(.t 0)] (.op (some 2) .mov [(.k (.c (.bool false)))] .nil))) (.seq (.seq (.reg 1 false (.op (some 8) (.addr 2) [(.t 1)] (.op (some 9) (.ld .heap .any) [(.t 8)] (.op (some 10) .len [(.t 9)] (.op (some 11) (.bin .eql) [(.t 10), (.k (.c (.int .i64 0)))] (.op (some 12) .mov [(.t 11)] (.sc 12 false (.op (some 13) (.addr 2) [(.t 1)] (.op (some 14) (.ld .heap .any) [(.t 13)] (.op (some 15) .len [(.t 14)] (.op (some 16) (.bin .gtr) [(.t 15), (.k (.c (.int .i64 4)))] .nil)))) 16 17 true (.op (some 18) .mov [(.t 17)] (.sc 18 false (.op (some 19) (.addr 0) [(.t 1)] (.op (some 20) (.ld .heap .any) [(.t 19)] (.op (some 21) .len [(.t 20)] (.op (some 22) (.bin .gtr) [(.t 21), (.k (.c (.int .i64 4)))] .nil)))) 22 23 true (.op (some 24) .mov [(.t 23)] (.sc 24 false (.op (some 25) (.addr 1) [(.t 1)] (.op (some 26) (.ld .heap .any) [(.t 25)] (.op (some 27) .len [(.t 26)] (.op (some 28) (.addr 0) [(.t 1)] (.op (some 29) (.ld .heap .any) [(.t 28)] (.op (some 30) .len [(.t 29)] (.op (some 31) (.bin .neq) [(.t 27), (.t 30)] .nil))))))) 31 32 true (.op (some 33) .mov [(.t 32)] (.sc 33 false (.op (some 34) (.ldAll .heap 3) [(.t 1)] (.op (some 35) (.call 102 [(.i .i64)]) [(.t 34)] (.op (some 36) (.bin .gtr) [(.t 35), (.k (.c (.int .i64 24)))] .nil))) 36 37 true .nil))))))))))))) (.cond (.t 37) (.seq (.reg 2 false (.op (some 2) .mov [(.k (.c (.bool false)))] .nil)) .ret) .skip)) (.seq (.seq (.reg 3 false (.op (some 38) (.addr 0) [(.t 1)] (.op (some 39) (.ld .heap .any) [(.t 38)] (.op (some 40) .len [(.t 39)] (.op (some 41) .mov [(.k (.c (.int .i64 0)))] .nil))))) (.blk 0 (.loop [1, 39, 40, 41] [] [(0, [2], []), (1, [1], [])] q188_b1))) q188_p1))) }
def q200 : Fn := { np := 2, nt := 13, ns := 0, res := [.t 3 .b], gc := false, code := (.seq (.reg 0 false (.op (some 3) .mov [(.k (.c (.bool false)))] .nil)) (.seq (.reg 1 false (.op (some 4) .mov [(.t 0)] (.op (some 5) (.bin .geq) [(.t 4), (.k (.c (.int .i64 0)))] (.op (some 6) .mov [(.t 5)] (.sc 6 true (.op (some 7) .mov [(.t 0)] (.op (some 8) (.addr 0) [(.t 1)] (.op (some 9) (.ld .heap .any) [(.t 8)] (.op (some 10) .len [(.t 9)] (.op (some 11) (.bin .lss) [(.t 7), (.t 10)] .nil))))) 11 12 false (.op (some 3) .mov [(.t 12)] .nil)))))) .ret)) }
def q201 : Fn := { np := 2, nt := 8, ns := 1, res := [.t 3 .b], gc := false, code := (.seq (.reg 0 false (.box 2 0 (.t 0) (.op (some 3) .mov [(.k (.c (.bool false)))] .nil))) (.seq (.reg 1 false (.op (some 4) (.ldAll (.slot 0) 9) [(.t 2)] (.op (some 5) (.ld .heap .any) [(.t 1)] (.op (some 6) (.call 159 [.b]) [(.t 4), (.t 5)] (.op (some 7) (.un .not) [(.t 6)] (.op (some 3) .mov [(.t 7)] .nil)))))) .ret)) }
end Jq

namespace Jq
open Go
def q125 : Fn := { np := 3, nt := 71, ns := 0, res := [.t 6 (.i .i64), .t 7 .b], gc := false, code := (.seq (.reg 0 false (.op (some 6) .mov [(.k (.c (.int .i64 0)))] (.op (some 7) .mov [(.k (.c (.bool false)))] .nil))) (.seq (.reg 1 false (.op (some 9) .mov [(.t 2)] (.op (some 10) (.conv .u64) [(.t 9)] (.op (some 11) (.bin .rem) [(.t 10), (.k (.c (.int .u64 64)))] (.op (some 8) .mov [(.t 11)] .nil))))) (.seq (.seq (.reg 2 false (.op (some 12) .mov [(.t 0)] .nil)) (.blk 0 (.seq (.reg 3 false (.op (some 14) (.bin .eql) [(.t 12), (.k (.c (.int .i64 1)))] (.op (some 13) .mov [(.t 14)] .nil))) (.cond (.t 13) (.seq (.reg 4 false (.op (some 15) .mov [(.t 1)] (.op (some 16) .mov [(.t 2)] (.op (some 17) (.bin .add) [(.t 15), (.t 16)] (.op (some 6) .mov [(.t 17)] (.op (some 7) .mov [(.k (.c (.bool true)))] .nil)))))) .ret) (.seq (.reg 5 false (.op (some 19) (.bin .eql) [(.t 12), (.k (.c (.int .i64 2)))] (.op (some 18) .mov [(.t 19)] .nil))) (.cond (.t 18) (.seq (.reg 6 false (.op (some 20) .mov [(.t 1)] (.op (some 21) .mov [(.t 2)] (.op (some 22) (.bin .sub) [(.t 20), (.t 21)] (.op (some 6) .mov [(.t 22)] (.op (some 7) .mov [(.k (.c (.bool true)))] .nil)))))) .ret) (.seq (.reg 7 false (.op (some 24) (.bin .eql) [(.t 12), (.k (.c (.int .i64 3)))] (.op (some 23) .mov [(.t 24)] .nil))) (.cond (.t 23) (.seq (.reg 8 false (.op (some 25) .mov [(.t 1)] (.op (some 26) .mov [(.t 2)] (.op (some 27) (.bin .mul) [(.t 25), (.t 26)] (.op (some 6) .mov [(.t 27)] (.op (some 7) .mov [(.k (.c (.bool true)))] .nil)))))) .ret) (.seq (.reg 9 false (.op (some 29) (.bin .eql) [(.t 12), (.k (.c (.int .i64 4)))] (.op (some 28) .mov [(.t 29)] .nil))) (.cond (.t 28) (.seq (.reg 10 false (.op (some 30) .mov [(.t 1)] (.op (some 31) .mov [(.t 2)] (.op (some 32) (.bin .and) [(.t 30), (.t 31)] (.op (some 6) .mov [(.t 32)] (.op (some 7) .mov [(.k (.c (.bool true)))] .nil)))))) .ret) (.seq (.reg 11 false (.op (some 34) (.bin .eql) [(.t 12), (.k (.c (.int .i64 5)))] (.op (some 33) .mov [(.t 34)] .nil))) (.cond (.t 33) (.seq (.reg 12 false (.op (some 35) .mov [(.t 1)] (.op (some 36) .mov [(.t 2)] (.op (some 37) (.bin .or) [(.t 35), (.t 36)] (.op (some 6) .mov [(.t 37)] (.op (some 7) .mov [(.k (.c (.bool true)))] .nil)))))) .ret) (.seq (.reg 13 false (.op (some 39) (.bin .eql) [(.t 12), (.k (.c (.int .i64 6)))] (.op (some 38) .mov [(.t 39)] .nil))) (.cond (.t 38) (.seq (.reg 14 false (.op (some 40) .mov [(.t 1)] (.op (some 41) .mov [(.t 2)] (.op (some 42) (.bin .xor) [(.t 40), (.t 41)] (.op (some 6) .mov [(.t 42)] (.op (some 7) .mov [(.k (.c (.bool true)))] .nil)))))) .ret) (.seq (.reg 15 false (.op (some 44) (.bin .eql) [(.t 12), (.k (.c (.int .i64 7)))] (.op (some 43) .mov [(.t 44)] .nil))) (.cond (.t 43) (.seq (.reg 16 false (.op (some 45) .mov [(.t 1)] (.op (some 46) .mov [(.t 8)] (.op (some 47) (.bin .shl) [(.t 45), (.t 46)] (.op (some 6) .mov [(.t 47)] (.op (some 7) .mov [(.k (.c (.bool true)))] .nil)))))) .ret) (.seq (.reg 17 false (.op (some 49) (.bin .eql) [(.t 12), (.k (.c (.int .i64 8)))] (.op (some 48) .mov [(.t 49)] .nil))) (.cond (.t 48) (.seq (.reg 18 false (.op (some 50) .mov [(.t 1)] (.op (some 51) .mov [(.t 8)] (.op (some 52) (.bin .shr) [(.t 50), (.t 51)] (.op (some 6) .mov [(.t 52)] (.op (some 7) .mov [(.k (.c (.bool true)))] .nil)))))) .ret) (.seq (.reg 19 false (.op (some 54) (.bin .eql) [(.t 12), (.k (.c (.int .i64 9)))] (.op (some 53) .mov [(.t 54)] .nil))) (.cond (.t 53) (.seq (.reg 20 false (.op (some 55) .mov [(.t 1)] (.op (some 56) .mov [(.t 2)] (.op (some 57) (.bin .eql) [(.t 55), (.t 56)] (.op (some 58) (.call 139 [(.i .i64)]) [(.t 57)] (.op (some 6) .mov [(.t 58)] (.op (some 7) .mov [(.k (.c (.bool true)))] .nil))))))) .ret) (.seq (.reg 21 false (.op (some 60) (.bin .eql) [(.t 12), (.k (.c (.int .i64 10)))] (.op (some 59) .mov [(.t 60)] .nil))) (.cond (.t 59) (.seq (.reg 22 false (.op (some 61) .mov [(.t 1)] (.op (some 62) .mov [(.t 2)] (.op (some 63) (.bin .neq) [(.t 61), (.t 62)] (.op (some 64) (.call 139 [(.i .i64)]) [(.t 63)] (.op (some 6) .mov [(.t 64)] (.op (some 7) .mov [(.k (.c (.bool true)))] .nil))))))) .ret) (.seq (.reg 23 false (.op (some 66) (.bin .eql) [(.t 12), (.k (.c (.int .i64 11)))] (.op (some 65) .mov [(.t 66)] .nil))) (.cond (.t 65) (.seq (.reg 24 false (.op (some 67) .mov [(.t 1)] (.op (some 68) .mov [(.t 2)] (.op (some 69) (.bin .lss) [(.t 67), (.t 68)] (.op (some 70) (.call 139 [(.i .i64)]) [(.t 69)] (.op (some 6) .mov [(.t 70)] (.op (some 7) .mov [(.k (.c (.bool true)))] .nil))))))) .ret) .skip)))))))))))))))))))))))) (.seq (.reg 25 false (.op (some 6) .mov [(.k (.c (.int .i64 0)))] (.op (some 7) .mov [(.k (.c (.bool false)))] .nil))) .ret)))) }
def q139 : Fn := { np := 1, nt := 4, ns := 0, res := [.t 2 (.i .i64)], gc := false, code := (.seq (.reg 0 false (.op (some 2) .mov [(.k (.c (.int .i64 0)))] .nil)) (.seq (.seq (.reg 1 false (.op (some 3) .mov [(.t 0)] .nil)) (.cond (.t 3) (.seq (.reg 2 false (.op (some 2) .mov [(.k (.c (.int .i64 1)))] .nil)) .ret) .skip)) (.seq (.reg 3 false (.op (some 2) .mov [(.k (.c (.int .i64 0)))] .nil)) .ret))) }
end Jq

namespace Jq
open Go
structure q139_In (E : Env) : Prop where
  fn : E.fn 139 = some q139
structure q125_In (E : Env) : Prop where
  fn : E.fn 125 = some q125
  c139 : q139_In E
end Jq

namespace Jq
open Go
def q158 : Fn := { np := 1, nt := 9, ns := 0, res := [.t 2 .b], gc := false, code := (.seq (.reg 0 false (.op (some 2) .mov [(.k (.c (.bool false)))] .nil)) (.seq (.reg 1 false (.op (some 3) .mov [(.t 0)] (.op (some 4) (.bin .geq) [(.t 3), (.k (.c (.int .i64 97)))] (.op (some 5) .mov [(.t 4)] (.sc 5 true (.op (some 6) .mov [(.t 0)] (.op (some 7) (.bin .leq) [(.t 6), (.k (.c (.int .i64 122)))] .nil)) 7 8 false (.op (some 2) .mov [(.t 8)] .nil)))))) .ret)) }
def q159 : Fn := { np := 2, nt := 159, ns := 2, res := [.t 4 .b], gc := false, code := (.seq (.reg 0 false (.box 2 0 (.t 0) (.op (some 4) .mov [(.k (.c (.bool false)))] .nil))) (.seq (.reg 1 false (.op (some 7) (.addr 0) [(.t 2)] (.op (some 8) (.ld (.slot 0) (.i .i64)) [(.t 7)] (.op (some 9) (.build (List.replicate 9 (Cell.int .i64 0)) [(0, 1)]) [(.t 8)] (.al 5 1 (List.replicate 9 (Cell.int .i64 0)) (.op none (.stAll (.slot 1) 9) [(.t 5), (.t 9)] .nil)))))) (.seq (.reg 2 false (.op (some 6) .mov [(.k (.c (.bool true)))] .nil)) (.seq (.seq (.reg 3 false (.op (some 10) (.addr 0) [(.t 2)] (.op (some 11) (.ld (.slot 0) (.i .i64)) [(.t 10)] .nil))) (.blk 0 (.seq (.reg 5 false (.op (some 13) (.bin .eql) [(.t 11), (.k (.c (.int .i64 1)))] (.op (some 12) .mov [(.t 13)] .nil))) (.cond (.t 12) (.seq (.reg 6 true (.op (some 14) (.addr 2) [(.t 2)] (.op (some 15) (.ld (.slot 0) (.i .i64)) [(.t 14)] (.op (some 16) (.addr 3) [(.t 2)] (.op (some 17) (.ldN (.slot 0) 2) [(.t 16)] (.op (some 18) (.addr 2) [(.t 5)] (.op none (.st (.slot 1)) [(.t 18), (.t 15)] (.op (some 19) (.addr 3) [(.t 5)] (.op none (.stN (.slot 1) 2) [(.t 19), (.t 17)] .nil))))))))) (.reg 7 false (.op (some 20) .mov [(.t 1)] (.op (some 21) (.addr 2) [(.t 2)] (.op (some 22) (.ld (.slot 0) (.i .i64)) [(.t 21)] (.op (some 23) (.callv [.b]) [(.t 20), (.t 22)] (.op (some 24) .mov [(.t 23)] (.sc 24 true (.op (some 25) (.addr 3) [(.t 2)] (.op (some 26) (.ldN (.slot 0) 2) [(.t 25)] (.op (some 27) (.call 163 [.b]) [(.t 26)] .nil))) 27 28 false (.op (some 6) .mov [(.t 28)] .nil))))))))) (.seq (.reg 8 false (.op (some 30) (.bin .eql) [(.t 11), (.k (.c (.int .i64 2)))] (.op (some 29) .mov [(.t 30)] .nil))) (.cond (.t 29) (.seq (.reg 9 true (.op (some 31) (.addr 1) [(.t 2)] (.op (some 32) (.ld (.slot 0) (.i .i64)) [(.t 31)] (.op (some 33) (.addr 2) [(.t 2)] (.op (some 34) (.ld (.slot 0) (.i .i64)) [(.t 33)] (.op (some 35) (.addr 1) [(.t 5)] (.op none (.st (.slot 1)) [(.t 35), (.t 32)] (.op (some 36) (.addr 2) [(.t 5)] (.op none (.st (.slot 1)) [(.t 36), (.t 34)] .nil))))))))) (.reg 10 false (.op (some 37) .mov [(.t 1)] (.op (some 38) (.addr 2) [(.t 2)] (.op (some 39) (.ld (.slot 0) (.i .i64)) [(.t 38)] (.op (some 40) (.callv [.b]) [(.t 37), (.t 39)] (.op (some 41) .mov [(.t 40)] (.sc 41 true (.op (some 42) (.addr 1) [(.t 2)] (.op (some 43) (.ld (.slot 0) (.i .i64)) [(.t 42)] (.op (some 44) (.call 164 [.b]) [(.t 43)] .nil))) 44 45 false (.op (some 6) .mov [(.t 45)] .nil))))))))) (.seq (.reg 11 false (.op (some 47) (.bin .eql) [(.t 11), (.k (.c (.int .i64 3)))] (.op (some 46) .mov [(.t 47)] .nil))) (.cond (.t 46) .skip (.seq (.reg 12 false (.op (some 49) (.bin .eql) [(.t 11), (.k (.c (.int .i64 4)))] (.op (some 48) .mov [(.t 49)] .nil))) (.cond (.t 48) (.seq (.reg 13 true (.op (some 50) (.addr 1) [(.t 2)] (.op (some 51) (.ld (.slot 0) (.i .i64)) [(.t 50)] (.op (some 52) (.addr 2) [(.t 2)] (.op (some 53) (.ld (.slot 0) (.i .i64)) [(.t 52)] (.op (some 54) (.addr 3) [(.t 2)] (.op (some 55) (.ldN (.slot 0) 2) [(.t 54)] (.op (some 56) (.addr 6) [(.t 2)] (.op (some 57) (.ldN (.slot 0) 2) [(.t 56)] (.op (some 58) (.addr 1) [(.t 5)] (.op none (.st (.slot 1)) [(.t 58), (.t 51)] (.op (some 59) (.addr 2) [(.t 5)] (.op none (.st (.slot 1)) [(.t 59), (.t 53)] (.op (some 60) (.addr 3) [(.t 5)] (.op none (.stN (.slot 1) 2) [(.t 60), (.t 55)] (.op (some 61) (.addr 6) [(.t 5)] (.op none (.stN (.slot 1) 2) [(.t 61), (.t 57)] .nil))))))))))))))))) (.reg 14 false (.op (some 62) .mov [(.t 1)] (.op (some 63) (.addr 2) [(.t 2)] (.op (some 64) (.ld (.slot 0) (.i .i64)) [(.t 63)] (.op (some 65) (.callv [.b]) [(.t 62), (.t 64)] (.op (some 66) .mov [(.t 65)] (.sc 66 true (.op (some 67) (.addr 1) [(.t 2)] (.op (some 68) (.ld (.slot 0) (.i .i64)) [(.t 67)] (.op (some 69) (.call 164 [.b]) [(.t 68)] .nil))) 69 70 false (.op (some 71) .mov [(.t 70)] (.sc 71 true (.op (some 72) (.addr 3) [(.t 2)] (.op (some 73) (.ldN (.slot 0) 2) [(.t 72)] (.op (some 74) (.call 163 [.b]) [(.t 73)] .nil))) 74 75 false (.op (some 76) .mov [(.t 75)] (.sc 76 true (.op (some 77) (.addr 6) [(.t 2)] (.op (some 78) (.ldN (.slot 0) 2) [(.t 77)] (.op (some 79) (.call 163 [.b]) [(.t 78)] .nil))) 79 80 false (.op (some 6) .mov [(.t 80)] .nil))))))))))))) (.seq (.reg 15 false (.op (some 82) (.bin .eql) [(.t 11), (.k (.c (.int .i64 5)))] (.op (some 81) .mov [(.t 82)] .nil))) (.cond (.t 81) (.seq (.reg 16 true (.op (some 83) (.addr 1) [(.t 2)] (.op (some 84) (.ld (.slot 0) (.i .i64)) [(.t 83)] (.op (some 85) (.addr 3) [(.t 2)] (.op (some 86) (.ldN (.slot 0) 2) [(.t 85)] (.op (some 87) (.addr 5) [(.t 2)] (.op (some 88) (.ld (.slot 0) (.i .i64)) [(.t 87)] (.op (some 89) (.addr 6) [(.t 2)] (.op (some 90) (.ldN (.slot 0) 2) [(.t 89)] (.op (some 91) (.addr 1) [(.t 5)] (.op none (.st (.slot 1)) [(.t 91), (.t 84)] (.op (some 92) (.addr 3) [(.t 5)] (.op none (.stN (.slot 1) 2) [(.t 92), (.t 86)] (.op (some 93) (.addr 5) [(.t 5)] (.op none (.st (.slot 1)) [(.t 93), (.t 88)] (.op (some 94) (.addr 6) [(.t 5)] (.op none (.stN (.slot 1) 2) [(.t 94), (.t 90)] .nil))))))))))))))))) (.reg 17 false (.op (some 95) (.addr 1) [(.t 2)] (.op (some 96) (.ld (.slot 0) (.i .i64)) [(.t 95)] (.op (some 97) (.call 164 [.b]) [(.t 96)] (.op (some 98) .mov [(.t 97)] (.sc 98 true (.op (some 99) (.addr 3) [(.t 2)] (.op (some 100) (.ldN (.slot 0) 2) [(.t 99)] (.op (some 101) (.call 163 [.b]) [(.t 100)] .nil))) 101 102 false (.op (some 103) .mov [(.t 102)] (.sc 103 true (.op (some 104) (.addr 6) [(.t 2)] (.op (some 105) (.ldN (.slot 0) 2) [(.t 104)] (.op (some 106) (.call 163 [.b]) [(.t 105)] .nil))) 106 107 false (.op (some 108) .mov [(.t 107)] (.sc 108 true (.op (some 109) (.addr 5) [(.t 2)] (.op (some 110) (.ld (.slot 0) (.i .i64)) [(.t 109)] (.op (some 111) (.bin .geq) [(.t 110), (.k (.c (.int .i64 0)))] .nil))) 111 112 false (.op (some 113) .mov [(.t 112)] (.sc 113 true (.op (some 114) (.addr 5) [(.t 2)] (.op (some 115) (.ld (.slot 0) (.i .i64)) [(.t 114)] (.op (some 116) (.bin .leq) [(.t 115), (.k (.c (.int .i64 11)))] .nil))) 116 117 false (.op (some 118) .mov [(.t 117)] (.sc 118 true (.op (some 119) (.addr 5) [(.t 2)] (.op (some 120) (.ld (.slot 0) (.i .i64)) [(.t 119)] (.op (some 121) (.bin .gtr) [(.t 120), (.k (.c (.int .i64 0)))] (.op (some 122) .mov [(.t 121)] (.sc 122 false (.op (some 123) (.addr 6) [(.t 2)] (.op (some 124) (.ldN (.slot 0) 2) [(.t 123)] (.op (some 125) (.build ([Cell.int .i64 0, Cell.int .i64 0]) [(0, 1)]) [(.k (.c (.int .i64 (-1))))] (.op (some 126) (.eqA false ([Cell.int .i64 0, Cell.int .i64 0])) [(.t 124), (.t 125)] .nil)))) 126 127 true .nil))))) 127 128 false (.op (some 6) .mov [(.t 128)] .nil)))))))))))))))) (.seq (.reg 18 false (.op (some 130) (.bin .eql) [(.t 11), (.k (.c (.int .i64 6)))] (.op (some 129) .mov [(.t 130)] .nil))) (.cond (.t 129) (.seq (.reg 19 true (.op (some 131) (.addr 8) [(.t 2)] (.op (some 132) (.ld (.slot 0) (.i .i64)) [(.t 131)] (.op (some 133) (.addr 3) [(.t 2)] (.op (some 134) (.ldN (.slot 0) 2) [(.t 133)] (.op (some 135) (.addr 6) [(.t 2)] (.op (some 136) (.ldN (.slot 0) 2) [(.t 135)] (.op (some 137) (.addr 8) [(.t 5)] (.op none (.st (.slot 1)) [(.t 137), (.t 132)] (.op (some 138) (.addr 3) [(.t 5)] (.op none (.stN (.slot 1) 2) [(.t 138), (.t 134)] (.op (some 139) (.addr 6) [(.t 5)] (.op none (.stN (.slot 1) 2) [(.t 139), (.t 136)] .nil))))))))))))) (.reg 20 false (.op (some 140) (.addr 8) [(.t 2)] (.op (some 141) (.ld (.slot 0) (.i .i64)) [(.t 140)] (.op (some 142) (.bin .geq) [(.t 141), (.k (.c (.int .i64 0)))] (.op (some 143) .mov [(.t 142)] (.sc 143 true (.op (some 144) (.addr 3) [(.t 2)] (.op (some 145) (.ldN (.slot 0) 2) [(.t 144)] (.op (some 146) (.call 163 [.b]) [(.t 145)] .nil))) 146 147 false (.op (some 148) .mov [(.t 147)] (.sc 148 true (.op (some 149) (.addr 6) [(.t 2)] (.op (some 150) (.ldN (.slot 0) 2) [(.t 149)] (.op (some 151) (.call 163 [.b]) [(.t 150)] .nil))) 151 152 false (.op (some 6) .mov [(.t 152)] .nil)))))))))) (.seq (.reg 4 false (.op (some 4) .mov [(.k (.c (.bool false)))] .nil)) .ret))))))))))))))) (.seq (.reg 21 false (.op (some 153) .mov [(.t 6)] (.op (some 154) .mov [(.t 153)] (.sc 154 true (.op (some 155) (.ldAll (.slot 0) 9) [(.t 2)] (.op (some 156) (.ldAll (.slot 1) 9) [(.t 5)] (.op (some 157) (.eqA false (List.replicate 9 (Cell.int .i64 0))) [(.t 155), (.t 156)] .nil))) 157 158 false (.op (some 4) .mov [(.t 158)] .nil))))) .ret))))) }
def q163 : Fn := { np := 1, nt := 16, ns := 1, res := [.t 2 .b], gc := false, code := (.seq (.reg 0 false (.box 1 0 (.t 0) (.op (some 2) .mov [(.k (.c (.bool false)))] .nil))) (.seq (.reg 1 false (.op (some 3) (.addr 0) [(.t 1)] (.op (some 4) (.ld (.slot 0) (.i .i64)) [(.t 3)] (.op (some 5) (.bin .eql) [(.t 4), (.k (.c (.int .i64 (-1))))] (.op (some 6) .mov [(.t 5)] (.sc 6 false (.op (some 7) (.addr 0) [(.t 1)] (.op (some 8) (.ld (.slot 0) (.i .i64)) [(.t 7)] (.op (some 9) (.call 164 [.b]) [(.t 8)] (.op (some 10) .mov [(.t 9)] (.sc 10 true (.op (some 11) (.addr 1) [(.t 1)] (.op (some 12) (.ld (.slot 0) (.i .i64)) [(.t 11)] (.op (some 13) (.bin .eql) [(.t 12), (.k (.c (.int .i64 0)))] .nil))) 13 14 false .nil))))) 14 15 true (.op (some 2) .mov [(.t 15)] .nil))))))) .ret)) }
def q164 : Fn := { np := 1, nt := 9, ns := 0, res := [.t 2 .b], gc := false, code := (.seq (.reg 0 false (.op (some 2) .mov [(.k (.c (.bool false)))] .nil)) (.seq (.reg 1 false (.op (some 3) .mov [(.t 0)] (.op (some 4) (.bin .geq) [(.t 3), (.k (.c (.int .i64 0)))] (.op (some 5) .mov [(.t 4)] (.sc 5 true (.op (some 6) .mov [(.t 0)] (.op (some 7) (.bin .lss) [(.t 6), (.k (.c (.int .i64 4)))] .nil)) 7 8 false (.op (some 2) .mov [(.t 8)] .nil)))))) .ret)) }
end Jq

namespace Jq
open Go
def q119 : Fn := { np := 1, nt := 8, ns := 0, res := [.t 2 .any], gc := false, code := (.seq (.reg 0 false (.op (some 2) .mov [(.k (.c .nils))] .nil)) (.seq (.seq (.reg 1 false (.op (some 3) .mov [(.t 0)] (.op (some 4) (.eqNil false) [(.t 3), (.k (.c .nils))] .nil))) (.cond (.t 4) (.seq (.reg 2 false (.op (some 2) .mov [(.k (.c .nils))] .nil)) .ret) .skip)) (.seq (.reg 3 false (.op (some 5) (.bslice 9 0 (([] : List Cell)) []) [] (.op (some 6) .mov [(.t 0)] (.op (some 7) (.app 9 72) [(.t 5), (.t 6)] (.op (some 2) .mov [(.t 7)] .nil))))) .ret))) }
def q155 : Fn := { np := 2, nt := 9, ns := 0, res := [.t 4 .b], gc := false, code := (.seq (.reg 0 false (.op (some 4) .mov [(.k (.c (.bool false)))] .nil)) (.seq (.reg 1 false (.op (some 5) .mov [(.t 0)] (.op (some 6) .mov [(.t 1)] (.op (some 7) (.call 156 [(.i .i64)]) [(.t 5), (.t 6)] (.op (some 8) (.bin .geq) [(.t 7), (.k (.c (.int .i64 0)))] (.op (some 4) .mov [(.t 8)] .nil)))))) .ret)) }
def q156_b1 : IC := (.seq (.reg 2 false (.op (some 9) (.bin .lss) [(.t 8), (.t 7)] .nil)) (.seq (.cond (.t 9) .skip (.exit 0)) (.seq (.blk 1 (.seq (.reg 3 false (.op (some 10) .mov [(.t 8)] (.op (some 5) .mov [(.t 10)] .nil))) (.seq (.reg 4 false (.op (some 11) .mov [(.t 1)] (.op (some 12) .mov [(.t 0)] (.op (some 13) .mov [(.t 5)] (.op (some 14) (.idxS 9) [(.t 12), (.t 13)] (.op (some 15) (.ldN .heap 9) [(.t 14)] (.op (some 16) (.callv [.b]) [(.t 11), (.t 15)] .nil))))))) (.cond (.t 16) (.seq (.reg 5 false (.op (some 17) .mov [(.t 5)] (.op (some 4) .mov [(.t 17)] .nil))) .ret) .skip)))) (.reg 6 false (.op (some 18) (.bin .add) [(.t 8), (.k (.c (.int .i64 1)))] (.op (some 8) .mov [(.t 18)] .nil))))))
def q156_p1 : IC := (.seq (.reg 7 false (.op (some 4) .mov [(.k (.c (.int .i64 (-1))))] .nil)) .ret)
def q156 : Fn := { np := 2, nt := 19, ns := 0, res := [.t 4 (.i .i64)], gc := false, code := (.seq (.reg 0 false (.op (some 4) .mov [(.k (.c (.int .i64 0)))] .nil)) (.seq (.seq (.reg 1 false (.op (some 6) .mov [(.t 0)] (.op (some 7) .len [(.t 6)] (.op (some 8) .mov [(.k (.c (.int .i64 0)))] .nil)))) (.blk 0 (.loop [0, 1, 7, 8] [] [(0, [4], []), (1, [], [])] q156_b1))) q156_p1)) }
def q195 : Fn := { np := 1, nt := 8, ns := 0, res := [.t 2 .any], gc := false, code := (.seq (.reg 0 false (.op (some 2) .mov [(.k (.c .nils))] .nil)) (.seq (.seq (.reg 1 false (.op (some 3) .mov [(.t 0)] (.op (some 4) (.eqNil false) [(.t 3), (.k (.c .nils))] .nil))) (.cond (.t 4) (.seq (.reg 2 false (.op (some 2) .mov [(.k (.c .nils))] .nil)) .ret) .skip)) (.seq (.reg 3 false (.op (some 5) (.bslice 7 0 (([] : List Cell)) []) [] (.op (some 6) .mov [(.t 0)] (.op (some 7) (.app 7 56) [(.t 5), (.t 6)] (.op (some 2) .mov [(.t 7)] .nil))))) .ret))) }
def q202 : Fn := { np := 1, nt := 8, ns := 0, res := [.t 2 .any], gc := false, code := (.seq (.reg 0 false (.op (some 2) .mov [(.k (.c .nils))] .nil)) (.seq (.seq (.reg 1 false (.op (some 3) .mov [(.t 0)] (.op (some 4) (.eqNil false) [(.t 3), (.k (.c .nils))] .nil))) (.cond (.t 4) (.seq (.reg 2 false (.op (some 2) .mov [(.k (.c .nils))] .nil)) .ret) .skip)) (.seq (.reg 3 false (.op (some 5) (.bslice 1 0 (([] : List Cell)) []) [] (.op (some 6) .mov [(.t 0)] (.op (some 7) (.app 1 1) [(.t 5), (.t 6)] (.op (some 2) .mov [(.t 7)] .nil))))) .ret))) }
def q203 : Fn := { np := 1, nt := 8, ns := 0, res := [.t 2 .any], gc := false, code := (.seq (.reg 0 false (.op (some 2) .mov [(.k (.c .nils))] .nil)) (.seq (.seq (.reg 1 false (.op (some 3) .mov [(.t 0)] (.op (some 4) (.eqNil false) [(.t 3), (.k (.c .nils))] .nil))) (.cond (.t 4) (.seq (.reg 2 false (.op (some 2) .mov [(.k (.c .nils))] .nil)) .ret) .skip)) (.seq (.reg 3 false (.op (some 5) (.bslice 1 0 (([] : List Cell)) []) [] (.op (some 6) .mov [(.t 0)] (.op (some 7) (.app 1 8) [(.t 5), (.t 6)] (.op (some 2) .mov [(.t 7)] .nil))))) .ret))) }
end Jq

namespace Jq
open Go
end Jq

namespace Jq
open Go
end Jq

namespace Jq
open Go
structure q156_In (E : Env) : Prop where
  fn : E.fn 156 = some q156
structure q155_In (E : Env) : Prop where
  fn : E.fn 155 = some q155
  c156 : q156_In E
structure q119_In (E : Env) : Prop where
  fn : E.fn 119 = some q119
structure q202_In (E : Env) : Prop where
  fn : E.fn 202 = some q202
structure q203_In (E : Env) : Prop where
  fn : E.fn 203 = some q203
structure q195_In (E : Env) : Prop where
  fn : E.fn 195 = some q195
end Jq

namespace Jq
open Go
structure q158_In (E : Env) : Prop where
  fn : E.fn 158 = some q158
structure q164_In (E : Env) : Prop where
  fn : E.fn 164 = some q164
structure q163_In (E : Env) : Prop where
  fn : E.fn 163 = some q163
  c164 : q164_In E
structure q159_In (E : Env) : Prop where
  fn : E.fn 159 = some q159
  c163 : q163_In E
  c164 : q164_In E
end Jq

namespace Jq
open Go
def q148_b1 : IC := (.seq (.reg 2 false (.op (some 8) (.bin .lss) [(.t 7), (.t 6)] .nil)) (.seq (.cond (.t 8) .skip (.exit 0)) (.seq (.blk 1 (.seq (.reg 3 false (.op (some 9) .mov [(.t 7)] (.op (some 10) (.idxS 9) [(.t 5), (.t 7)] (.op (some 11) (.ldN .heap 9) [(.t 10)] (.al 4 0 (List.replicate 9 (Cell.int .i64 0)) (.op (some 3) .mov [(.t 9)] (.op none (.stAll (.slot 0) 9) [(.t 4), (.t 11)] .nil))))))) (.seq (.reg 4 false (.op (some 12) (.addr 0) [(.t 4)] (.op (some 13) (.ld (.slot 0) (.i .i64)) [(.t 12)] (.op (some 14) (.bin .eql) [(.t 13), (.k (.c (.int .i64 6)))] (.op (some 15) .mov [(.t 14)] (.sc 15 true (.op (some 16) (.addr 8) [(.t 4)] (.op (some 17) (.ld (.slot 0) (.i .i64)) [(.t 16)] (.op (some 18) (.bin .lss) [(.t 17), (.k (.c (.int .i64 1)))] (.op (some 19) .mov [(.t 18)] (.sc 19 false (.op (some 20) (.addr 8) [(.t 4)] (.op (some 21) (.ld (.slot 0) (.i .i64)) [(.t 20)] (.op (some 22) .mov [(.t 0)] (.op (some 23) .len [(.t 22)] (.op (some 24) .mov [(.t 3)] (.op (some 25) (.bin .sub) [(.t 23), (.t 24)] (.op (some 26) (.bin .sub) [(.t 25), (.k (.c (.int .i64 1)))] (.op (some 27) (.bin .gtr) [(.t 21), (.t 26)] .nil)))))))) 27 28 true .nil))))) 28 29 false .nil)))))) (.cond (.t 29) (.seq (.reg 5 false (.op (some 2) .mov [(.k (.c (.bool false)))] .nil)) .ret) .skip)))) (.reg 6 false (.op (some 30) (.bin .add) [(.t 7), (.k (.c (.int .i64 1)))] (.op (some 7) .mov [(.t 30)] .nil))))))
def q148_p1 : IC := (.seq (.reg 7 false (.op (some 2) .mov [(.k (.c (.bool true)))] .nil)) .ret)
def q148 : Fn := { np := 1, nt := 31, ns := 1, res := [.t 2 .b], gc := false, code := (.seq (.reg 0 false (.op (some 2) .mov [(.k (.c (.bool false)))] .nil)) (.seq (.seq (.reg 1 false (.op (some 5) .mov [(.t 0)] (.op (some 6) .len [(.t 5)] (.op (some 7) .mov [(.k (.c (.int .i64 0)))] .nil)))) (.blk 0 (.loop [0, 5, 6, 7] [] [(0, [2], []), (1, [], [])] q148_b1))) q148_p1)) }
end Jq

namespace Jq
open Go
structure q148_In (E : Env) : Prop where
  fn : E.fn 148 = some q148
end Jq

namespace Jq
open Go
structure q113_In (E : Env) : Prop where
  fn : E.fn 113 = some q113
structure q108_In (E : Env) : Prop where
  fn : E.fn 108 = some q108
structure q124_In (E : Env) : Prop where
  fn : E.fn 124 = some q124
structure q114_In (E : Env) : Prop where
  fn : E.fn 114 = some q114
  c108 : q108_In E
  c124 : q124_In E
  c125 : q125_In E
structure q94_In (E : Env) : Prop where
  fn : E.fn 94 = some q94
  c113 : q113_In E
  c114 : q114_In E
structure q105_In (E : Env) : Prop where
  fn : E.fn 105 = some q105
  c113 : q113_In E
structure q106_In (E : Env) : Prop where
  fn : E.fn 106 = some q106
  c105 : q105_In E
  c113 : q113_In E
  c114 : q114_In E
  c124 : q124_In E
structure q102_In (E : Env) : Prop where
  fn : E.fn 102 = some q102
structure q200_In (E : Env) : Prop where
  fn : E.fn 200 = some q200
structure q201_In (E : Env) : Prop where
  fn : E.fn 201 = some q201
  c159 : q159_In E
structure q188_In (E : Env) : Prop where
  fn : E.fn 188 = some q188
  c102 : q102_In E
  c148 : q148_In E
  c155 : q155_In E
  c158 : q158_In E
  c200 : q200_In E
  c201 : q201_In E
end Jq

namespace Jq
open Go
end Jq

namespace Jq
open Go
def q17 : Fn := { np := 2, nt := 10, ns := 0, res := [.t 4 .b], gc := false, code := (.seq (.reg 0 false (.op (some 4) .mov [(.k (.c (.bool false)))] .nil)) (.seq (.reg 1 false (.op (some 5) .mov [(.t 0)] (.op (some 6) .mov [(.t 1)] (.op (some 7) (.call 19 [(.i .u64)]) [(.t 6)] (.op (some 8) (.bin .and) [(.t 5), (.t 7)] (.op (some 9) (.bin .neq) [(.t 8), (.k (.c (.int .u64 0)))] (.op (some 4) .mov [(.t 9)] .nil))))))) .ret)) }
def q18 : Fn := { np := 2, nt := 9, ns := 0, res := [.t 4 (.i .u64)], gc := false, code := (.seq (.reg 0 false (.op (some 4) .mov [(.k (.c (.int .u64 0)))] .nil)) (.seq (.reg 1 false (.op (some 5) .mov [(.t 0)] (.op (some 6) .mov [(.t 1)] (.op (some 7) (.call 19 [(.i .u64)]) [(.t 6)] (.op (some 8) (.bin .or) [(.t 5), (.t 7)] (.op (some 4) .mov [(.t 8)] .nil)))))) .ret)) }
def q19 : Fn := { np := 1, nt := 12, ns := 0, res := [.t 2 (.i .u64)], gc := false, code := (.seq (.reg 0 false (.op (some 2) .mov [(.k (.c (.int .u64 0)))] .nil)) (.seq (.seq (.reg 1 false (.op (some 3) .mov [(.t 0)] (.op (some 4) (.bin .lss) [(.t 3), (.k (.c (.int .i64 0)))] (.op (some 5) .mov [(.t 4)] (.sc 5 false (.op (some 6) .mov [(.t 0)] (.op (some 7) (.bin .geq) [(.t 6), (.k (.c (.int .i64 64)))] .nil)) 7 8 true .nil))))) (.cond (.t 8) (.seq (.reg 2 false (.op (some 2) .mov [(.k (.c (.int .u64 0)))] .nil)) .ret) .skip)) (.seq (.reg 3 false (.op (some 9) .mov [(.t 0)] (.op (some 10) (.conv .u64) [(.t 9)] (.op (some 11) (.bin .shl) [(.k (.c (.int .u64 1))), (.t 10)] (.op (some 2) .mov [(.t 11)] .nil))))) .ret))) }
def q32_b1 : IC := (.seq (.seq (.reg 2 false (.op (some 4) .mov [(.t 0)] (.op (some 5) (.bin .neq) [(.t 4), (.k (.c (.int .u64 0)))] .nil))) (.cond (.t 5) .skip (.exit 0))) (.seq (.blk 1 (.reg 4 false (.op (some 10) .mov [(.t 3)] (.op (some 11) .mov [(.t 0)] (.op (some 12) (.call 38 [(.i .i64)]) [(.t 11)] (.op (some 13) (.lit 1 1 ([Cell.int .i64 0]) [(0, 1)]) [(.t 12)] (.op (some 14) (.app 1 8) [(.t 10), (.t 13)] (.op (some 3) .mov [(.t 14)] .nil)))))))) (.reg 3 false (.op (some 6) .mov [(.t 0)] (.op (some 7) .mov [(.t 0)] (.op (some 8) (.bin .sub) [(.t 7), (.k (.c (.int .u64 1)))] (.op (some 9) (.bin .and) [(.t 6), (.t 8)] (.op (some 0) .mov [(.t 9)] .nil))))))))
def q32_p1 : IC := (.seq (.reg 5 false (.op (some 15) .mov [(.t 3)] (.op (some 2) .mov [(.t 15)] .nil))) .ret)
def q32 : Fn := { np := 1, nt := 16, ns := 0, res := [.t 2 .any], gc := false, code := (.seq (.reg 0 false (.op (some 2) .mov [(.k (.c .nils))] .nil)) (.seq (.reg 1 false (.op (some 3) .mov [(.k (.c .nils))] .nil)) (.seq (.blk 0 (.loop [0, 3] [] [(1, [3], [])] q32_b1)) q32_p1))) }
def q38 : Fn := { np := 1, nt := 7, ns := 0, res := [.t 2 (.i .i64)], gc := false, code := (.seq (.reg 0 false (.op (some 2) .mov [(.k (.c (.int .i64 0)))] .nil)) (.seq (.seq (.reg 1 false (.op (some 3) .mov [(.t 0)] (.op (some 4) (.bin .eql) [(.t 3), (.k (.c (.int .u64 0)))] .nil))) (.cond (.t 4) (.seq (.reg 2 false (.op (some 2) .mov [(.k (.c (.int .i64 (-1))))] .nil)) .ret) .skip)) (.seq (.reg 3 false (.op (some 5) .mov [(.t 0)] (.op (some 6) (.call 42 [(.i .i64)]) [(.t 5)] (.op (some 2) .mov [(.t 6)] .nil)))) .ret))) }
end Jq

namespace Jq
open Go
structure q19_In (E : Env) : Prop where
  fn : E.fn 19 = some q19
structure q18_In (E : Env) : Prop where
  fn : E.fn 18 = some q18
  c19 : q19_In E
structure q17_In (E : Env) : Prop where
  fn : E.fn 17 = some q17
  c19 : q19_In E
structure q38_In (E : Env) : Prop where
  fn : E.fn 38 = some q38
  c42 : q42_In E
structure q32_In (E : Env) : Prop where
  fn : E.fn 32 = some q32
  c38 : q38_In E
end Jq

namespace Jq
open Go
end Jq

namespace Jq
open Go
structure q109_In (E : Env) : Prop where
  fn : E.fn 109 = some q109
  c108 : q108_In E
structure q80_In (E : Env) : Prop where
  fn : E.fn 80 = some q80
end Jq

namespace Jq
open Go
def q46 : Fn := { np := 1, nt := 5, ns := 0, res := [.t 2 .s], gc := false, code := (.seq (.reg 0 false (.op (some 2) .mov [(.k (.c (.str (ByteArray.mk #[]))))] .nil)) (.seq (.reg 1 false (.op (some 3) .mov [(.t 0)] (.op (some 4) (.call 47 [.s]) [(.t 3), (.k (.c (.int .i64 10)))] (.op (some 2) .mov [(.t 4)] .nil)))) .ret)) }
def q47 : Fn := { np := 2, nt := 54, ns := 0, res := [.t 4 .s], gc := true, code := (.seq (.reg 0 false (.op (some 4) .mov [(.k (.c (.str (ByteArray.mk #[]))))] .nil)) (.seq (.seq (.reg 1 false (.op (some 10) .mov [(.t 1)] (.op (some 11) (.bin .eql) [(.t 10), (.k (.c (.int .i64 10)))] .nil))) (.cond (.t 11) (.seq (.seq (.reg 2 false (.op (some 12) .mov [(.t 0)] (.op (some 13) (.bin .leq) [(.k (.c (.int .i64 0))), (.t 12)] (.op (some 14) .mov [(.t 13)] (.sc 14 true (.op (some 15) .mov [(.t 0)] (.op (some 16) (.bin .lss) [(.t 15), (.k (.c (.int .i64 100)))] .nil)) 16 17 false .nil))))) (.cond (.t 17) (.seq (.reg 3 false (.op (some 18) .mov [(.t 0)] (.op (some 19) (.call 48 [.s]) [(.t 18)] (.op (some 4) .mov [(.t 19)] .nil)))) .ret) .skip)) (.seq (.reg 4 false (.op (some 5) (.allocH (List.replicate 24 (Cell.int .u8 0))) [] .nil)) (.seq (.reg 5 false (.op (some 20) .mov [(.t 0)] (.op (some 21) (.conv .u64) [(.t 20)] (.op (some 6) .mov [(.t 21)] .nil)))) (.seq (.seq (.reg 6 false (.op (some 22) .mov [(.t 0)] (.op (some 23) (.bin .lss) [(.t 22), (.k (.c (.int .i64 0)))] .nil))) (.cond (.t 23) (.reg 7 false (.op (some 24) .mov [(.t 6)] (.op (some 25) (.un .neg) [(.t 24)] (.op (some 6) .mov [(.t 25)] .nil)))) .skip)) (.seq (.reg 8 false (.op (some 26) .mov [(.t 6)] (.op (some 27) (.call 49 [(.i .i64)]) [(.t 26)] (.op (some 7) .mov [(.t 27)] .nil)))) (.seq (.reg 9 false (.op (some 28) .mov [(.t 7)] (.op (some 29) (.bin .add) [(.k (.c (.int .i64 1))), (.t 28)] (.op (some 30) (.slcA 24 1 true true) [(.t 5), (.k (.c (.int .i64 1))), (.t 29)] (.op (some 31) .mov [(.t 6)] (.op (some 32) (.call 50 []) [(.t 30), (.t 31)] .nil)))))) (.seq (.seq (.reg 10 false (.op (some 33) .mov [(.t 0)] (.op (some 34) (.bin .lss) [(.t 33), (.k (.c (.int .i64 0)))] .nil))) (.cond (.t 34) (.seq (.reg 11 false (.op (some 35) (.idxA 24 1) [(.t 5), (.k (.c (.int .i64 0)))] (.op none (.st .heap) [(.t 35), (.k (.c (.int .u8 45)))] .nil))) (.seq (.reg 12 false (.op (some 36) .mov [(.t 7)] (.op (some 37) (.bin .add) [(.k (.c (.int .i64 1))), (.t 36)] (.op (some 38) (.slcA 24 1 false true) [(.t 5), (.t 37)] (.op (some 39) .b2s [(.t 38)] (.op (some 4) .mov [(.t 39)] .nil)))))) .ret)) .skip)) (.seq (.reg 13 false (.op (some 40) .mov [(.t 7)] (.op (some 41) (.bin .add) [(.k (.c (.int .i64 1))), (.t 40)] (.op (some 42) (.slcA 24 1 true true) [(.t 5), (.k (.c (.int .i64 1))), (.t 41)] (.op (some 43) .b2s [(.t 42)] (.op (some 4) .mov [(.t 43)] .nil)))))) .ret)))))))) .skip)) (.seq (.reg 14 false (.op (some 45) .mov [(.t 0)] (.op (some 46) (.conv .u64) [(.t 45)] (.op (some 47) .mov [(.t 1)] (.op (some 48) .mov [(.t 0)] (.op (some 49) (.bin .lss) [(.t 48), (.k (.c (.int .i64 0)))] (.op (some 50) (.call 51 [.any, .s]) [(.k (.c .nils)), (.t 46), (.t 47), (.t 49), (.k (.c (.bool false)))] (.op (some 44) .mov [(.t 50)] (.op (some 51) (.ext 0) [(.t 44)] (.op (some 52) (.ext 1) [(.t 44)] (.op (some 8) .mov [(.t 51)] (.op (some 9) .mov [(.t 52)] .nil)))))))))))) (.seq (.reg 15 false (.op (some 53) .mov [(.t 9)] (.op (some 4) .mov [(.t 53)] .nil))) .ret)))) }
def q48 : Fn := { np := 1, nt := 15, ns := 0, res := [.t 2 .s], gc := false, code := (.seq (.reg 0 false (.op (some 2) .mov [(.k (.c (.str (ByteArray.mk #[]))))] .nil)) (.seq (.seq (.reg 1 false (.op (some 3) .mov [(.t 0)] (.op (some 4) (.bin .lss) [(.t 3), (.k (.c (.int .i64 10)))] .nil))) (.cond (.t 4) (.seq (.reg 2 false (.op (some 5) .mov [(.t 0)] (.op (some 6) .mov [(.t 0)] (.op (some 7) (.bin .add) [(.t 6), (.k (.c (.int .i64 1)))] (.op (some 8) (.slcStr true true) [(.k (.c (.str (ByteArray.mk #[48, 49, 50, 51, 52, 53, 54, 55, 56, 57, 97, 98, 99, 100, 101, 102, 103, 104, 105, 106, 107, 108, 109, 110, 111, 112, 113, 114, 115, 116, 117, 118, 119, 120, 121, 122])))), (.t 5), (.t 7)] (.op (some 2) .mov [(.t 8)] .nil)))))) .ret) .skip)) (.seq (.reg 3 false (.op (some 9) .mov [(.t 0)] (.op (some 10) (.bin .mul) [(.t 9), (.k (.c (.int .i64 2)))] (.op (some 11) .mov [(.t 0)] (.op (some 12) (.bin .mul) [(.t 11), (.k (.c (.int .i64 2)))] (.op (some 13) (.bin .add) [(.t 12), (.k (.c (.int .i64 2)))] (.op (some 14) (.slcStr true true) [(.k (.c (.str (ByteArray.mk #[48, 48, 48, 49, 48, 50, 48, 51, 48, 52, 48, 53, 48, 54, 48, 55, 48, 56, 48, 57, 49, 48, 49, 49, 49, 50, 49, 51, 49, 52, 49, 53, 49, 54, 49, 55, 49, 56, 49, 57, 50, 48, 50, 49, 50, 50, 50, 51, 50, 52, 50, 53, 50, 54, 50, 55, 50, 56, 50, 57, 51, 48, 51, 49, 51, 50, 51, 51, 51, 52, 51, 53, 51, 54, 51, 55, 51, 56, 51, 57, 52, 48, 52, 49, 52, 50, 52, 51, 52, 52, 52, 53, 52, 54, 52, 55, 52, 56, 52, 57, 53, 48, 53, 49, 53, 50, 53, 51, 53, 52, 53, 53, 53, 54, 53, 55, 53, 56, 53, 57, 54, 48, 54, 49, 54, 50, 54, 51, 54, 52, 54, 53, 54, 54, 54, 55, 54, 56, 54, 57, 55, 48, 55, 49, 55, 50, 55, 51, 55, 52, 55, 53, 55, 54, 55, 55, 55, 56, 55, 57, 56, 48, 56, 49, 56, 50, 56, 51, 56, 52, 56, 53, 56, 54, 56, 55, 56, 56, 56, 57, 57, 48, 57, 49, 57, 50, 57, 51, 57, 52, 57, 53, 57, 54, 57, 55, 57, 56, 57, 57])))), (.t 10), (.t 13)] (.op (some 2) .mov [(.t 14)] .nil)))))))) .ret))) }
end Jq

namespace Jq
open Go
structure q48_In (E : Env) : Prop where
  fn : E.fn 48 = some q48
structure q47_In (E : Env) : Prop where
  fn : E.fn 47 = some q47
  c48 : q48_In E
structure q46_In (E : Env) : Prop where
  fn : E.fn 46 = some q46
  c47 : q47_In E
end Jq

namespace Jq
open Go
def q187 : Fn := { np := 0, nt := 16, ns := 2, res := [.all (.slot 0) 0 3], gc := false, code := (.seq (.reg 0 false (.al 0 0 ([Cell.nils, Cell.nils, Cell.nils]) .nil)) (.seq (.reg 1 false (.op (some 2) (.build ([Cell.int .i64 0, Cell.int .i64 0]) [(0, 1), (1, 1)]) [(.k (.c (.int .i64 (-1)))), (.k (.c (.int .i64 1)))] (.al 1 1 ([Cell.int .i64 0, Cell.int .i64 0]) (.op none (.stAll (.slot 1) 2) [(.t 1), (.t 2)] .nil)))) (.seq (.reg 2 false (.op (some 3) (.bslice 1 2 ([Cell.int .u8 0, Cell.int .u8 0]) [(0, 1), (1, 1)]) [(.k (.c (.int .u8 120))), (.k (.c (.int .u8 121)))] (.op (some 4) .mark [(.t 3)] (.op (some 5) (.bslice 1 2 ([Cell.int .i64 0, Cell.int .i64 0]) [(0, 1), (1, 1)]) [(.k (.c (.int .i64 0))), (.k (.c (.int .i64 0)))] (.op (some 6) (.ldAll (.slot 1) 2) [(.t 1)] (.op (some 7) (.build (List.replicate 9 (Cell.int .i64 0)) [(0, 1), (2, 1), (3, 2)]) [(.k (.c (.int .i64 1))), (.k (.c (.int .i64 0))), (.t 6)] (.op (some 8) (.build (List.replicate 9 (Cell.int .i64 0)) [(0, 1), (2, 1)]) [(.k (.c (.int .i64 2))), (.k (.c (.int .i64 1)))] (.op (some 9) (.bslice 9 2 (List.replicate 18 (Cell.int .i64 0)) [(0, 9), (9, 9)]) [(.t 7), (.t 8)] (.op (some 10) (.ldAll (.slot 1) 2) [(.t 1)] (.op (some 11) (.build (List.replicate 9 (Cell.int .i64 0)) [(0, 1), (2, 1), (3, 2)]) [(.k (.c (.int .i64 1))), (.k (.c (.int .i64 1))), (.t 10)] (.op (some 12) (.build (List.replicate 9 (Cell.int .i64 0)) [(0, 1), (2, 1)]) [(.k (.c (.int .i64 2))), (.k (.c (.int .i64 0)))] (.op (some 13) (.bslice 9 2 (List.replicate 18 (Cell.int .i64 0)) [(0, 9), (9, 9)]) [(.t 11), (.t 12)] (.op (some 14) (.bslice 1 2 ([Cell.nils, Cell.nils]) [(0, 1), (1, 1)]) [(.t 9), (.t 13)] (.op (some 15) (.build ([Cell.nils, Cell.nils, Cell.nils]) [(0, 1), (1, 1), (2, 1)]) [(.t 4), (.t 5), (.t 14)] (.op none (.stAll (.slot 0) 3) [(.t 0), (.t 15)] .nil))))))))))))))) .ret))) }
end Jq

namespace Jq
open Go
structure q187_In (E : Env) : Prop where
  fn : E.fn 187 = some q187
end Jq

namespace Jq
open Go
def q170 : Fn := { np := 0, nt := 52, ns := 2, res := [.t 0 .b], gc := false, code := (.seq (.reg 0 false (.op (some 0) .mov [(.k (.c (.bool false)))] .nil)) (.seq (.reg 1 false (.op (some 8) (.call 187 [.agg]) [] (.op (some 9) (.call 171 [.any, (.i .i64)]) [(.t 8), (.k (.c (.int .i64 2)))] (.op (some 7) .mov [(.t 9)] (.op (some 10) (.ext 0) [(.t 7)] (.op (some 11) (.ext 1) [(.t 7)] (.op (some 1) .mov [(.t 10)] (.op (some 2) .mov [(.t 11)] .nil)))))))) (.seq (.seq (.reg 2 false (.op (some 12) .mov [(.t 1)] (.op (some 13) (.eqNil false) [(.t 12), (.k (.c .nilp))] (.op (some 14) .mov [(.t 13)] (.sc 14 false (.op (some 15) .mov [(.t 2)] (.op (some 16) (.bin .neq) [(.t 15), (.k (.c (.int .i64 0)))] .nil)) 16 17 true .nil))))) (.cond (.t 17) (.seq (.reg 3 false (.op (some 0) .mov [(.k (.c (.bool false)))] .nil)) .ret) .skip)) (.seq (.reg 4 false (.op (some 19) .mov [(.t 1)] (.op (some 20) (.call 173 [.agg, .b]) [(.t 19), (.k (.c (.int .i64 0)))] (.op (some 18) .mov [(.t 20)] (.op (some 21) (.ext 0) [(.t 18)] (.op (some 22) (.ext 1) [(.t 18)] (.al 3 0 (List.replicate 7 (Cell.int .i64 0)) (.op none (.stAll (.slot 0) 7) [(.t 3), (.t 21)] (.op (some 4) .mov [(.t 22)] .nil))))))))) (.seq (.reg 5 false (.op (some 24) .mov [(.t 1)] (.op (some 25) (.call 173 [.agg, .b]) [(.t 24), (.k (.c (.int .i64 5)))] (.op (some 23) .mov [(.t 25)] (.op (some 26) (.ext 0) [(.t 23)] (.op (some 27) (.ext 1) [(.t 23)] (.al 5 1 (List.replicate 7 (Cell.int .i64 0)) (.op none (.stAll (.slot 1) 7) [(.t 5), (.t 26)] (.op (some 6) .mov [(.t 27)] .nil))))))))) (.seq (.reg 6 false (.op (some 28) .mov [(.t 4)] (.op (some 29) .mov [(.t 28)] (.sc 29 true (.op (some 30) (.addr 2) [(.t 3)] (.op (some 31) (.ld (.slot 0) (.i .i64)) [(.t 30)] (.op (some 32) (.bin .eql) [(.t 31), (.k (.c (.int .i64 2)))] .nil))) 32 33 false (.op (some 34) .mov [(.t 33)] (.sc 34 true (.op (some 35) (.addr 6) [(.t 3)] (.op (some 36) (.ld (.slot 0) (.i .i64)) [(.t 35)] (.op (some 37) (.bin .eql) [(.t 36), (.k (.c (.int .i64 (-1))))] .nil))) 37 38 false (.op (some 39) .mov [(.t 38)] (.sc 39 true (.op (some 40) .mov [(.t 6)] (.op (some 41) (.un .not) [(.t 40)] .nil)) 41 42 false (.op (some 43) .mov [(.t 42)] (.sc 43 true (.op (some 44) .mov [(.t 1)] (.op (some 45) (.call 172 [(.i .u64)]) [(.t 44)] (.op (some 46) (.bin .eql) [(.t 45), (.k (.c (.int .u64 19)))] .nil))) 46 47 false (.op (some 48) .mov [(.t 47)] (.sc 48 true (.op (some 49) (.call 167 [.s]) [(.k (.c (.int .i64 13)))] (.op (some 50) (.bin .eql) [(.t 49), (.k (.c (.str (ByteArray.mk #[102, 49, 46, 49]))))] .nil)) 50 51 false (.op (some 0) .mov [(.t 51)] .nil))))))))))))) .ret)))))) }
def q183_b1 : IC := (.seq (.seq (.reg 6 false (.op (some 35) .mov [(.t 7)] (.op (some 36) .mov [(.t 5)] (.op (some 37) .len [(.t 36)] (.op (some 38) (.bin .lss) [(.t 35), (.t 37)] .nil))))) (.cond (.t 38) .skip (.exit 0))) (.seq (.blk 1 (.seq (.reg 8 true (.op (some 41) .mov [(.t 6)] (.op (some 42) .mov [(.t 7)] (.op (some 43) (.idxS 1) [(.t 41), (.t 42)] (.op (some 44) (.ld .heap (.i .i64)) [(.t 43)] (.op (some 45) .mov [(.t 5)] (.op (some 46) .mov [(.t 7)] (.op (some 47) (.idxS 1) [(.t 45), (.t 46)] (.op (some 48) (.ld .heap (.i .i64)) [(.t 47)] (.op (some 49) (.bin .neq) [(.t 44), (.t 48)] .nil)))))))))) (.cond (.t 49) (.seq (.reg 9 false (.op (some 4) .mov [(.k (.c (.bool false)))] .nil)) .ret) .skip))) (.reg 7 false (.op (some 39) .mov [(.t 7)] (.op (some 40) (.bin .add) [(.t 39), (.k (.c (.int .i64 1)))] (.op (some 7) .mov [(.t 40)] .nil))))))
def q183_b2 : IC := (.seq (.seq (.reg 14 false (.op (some 60) .mov [(.t 9)] (.op (some 61) .mov [(.t 8)] (.op (some 62) .len [(.t 61)] (.op (some 63) (.bin .lss) [(.t 60), (.t 62)] .nil))))) (.cond (.t 63) .skip (.exit 2))) (.seq (.blk 3 (.seq (.reg 16 true (.op (some 66) .mov [(.t 8)] (.op (some 67) .mov [(.t 9)] (.op (some 68) (.idxS 7) [(.t 66), (.t 67)] (.op (some 69) (.ldN .heap 7) [(.t 68)] (.op (some 70) .mov [(.t 1)] (.op (some 71) .nilchk [(.t 70)] (.op (some 72) (.addr 36) [(.t 71)] (.op (some 73) (.ld .heap .any) [(.t 72)] (.op (some 74) .mov [(.t 9)] (.op (some 75) (.idxS 7) [(.t 73), (.t 74)] (.op (some 76) (.ldN .heap 7) [(.t 75)] (.op (some 77) (.eqA true (List.replicate 7 (Cell.int .i64 0))) [(.t 69), (.t 76)] .nil))))))))))))) (.cond (.t 77) (.seq (.reg 17 false (.op (some 4) .mov [(.k (.c (.bool false)))] .nil)) .ret) .skip))) (.reg 15 false (.op (some 64) .mov [(.t 9)] (.op (some 65) (.bin .add) [(.t 64), (.k (.c (.int .i64 1)))] (.op (some 9) .mov [(.t 65)] .nil))))))
def q183_p2 : IC := (.seq (.reg 18 false (.op (some 4) .mov [(.k (.c (.bool true)))] .nil)) .ret)
def q183_p1 : IC := (.seq (.reg 10 false (.op (some 50) .mov [(.t 0)] (.op (some 51) (.call 175 [.any]) [(.t 50)] (.op (some 8) .mov [(.t 51)] .nil)))) (.seq (.seq (.reg 11 false (.op (some 52) .mov [(.t 8)] (.op (some 53) .len [(.t 52)] (.op (some 54) .mov [(.t 1)] (.op (some 55) .nilchk [(.t 54)] (.op (some 56) (.addr 36) [(.t 55)] (.op (some 57) (.ld .heap .any) [(.t 56)] (.op (some 58) .len [(.t 57)] (.op (some 59) (.bin .neq) [(.t 53), (.t 58)] .nil))))))))) (.cond (.t 59) (.seq (.reg 12 false (.op (some 4) .mov [(.k (.c (.bool false)))] .nil)) .ret) .skip)) (.seq (.seq (.reg 13 false (.op (some 9) .mov [(.k (.c (.int .i64 0)))] .nil)) (.blk 2 (.loop [1, 8, 9] [] [(0, [4], []), (3, [], [])] q183_b2))) q183_p2)))
def q183 : Fn := { np := 2, nt := 78, ns := 0, res := [.t 4 .b], gc := false, code := (.seq (.reg 0 false (.op (some 4) .mov [(.k (.c (.bool false)))] .nil)) (.seq (.reg 1 false (.op (some 10) .mov [(.t 1)] (.op (some 11) (.call 181 [.any]) [(.t 10)] (.op (some 5) .mov [(.t 11)] .nil)))) (.seq (.reg 2 false (.op (some 12) .mov [(.t 0)] (.op (some 13) (.call 172 [(.i .u64)]) [(.t 12)] (.op (some 14) (.call 32 [.any]) [(.t 13)] (.op (some 6) .mov [(.t 14)] .nil))))) (.seq (.seq (.reg 3 false (.op (some 15) .mov [(.t 6)] (.op (some 16) .len [(.t 15)] (.op (some 17) .mov [(.t 5)] (.op (some 18) .len [(.t 17)] (.op (some 19) (.bin .neq) [(.t 16), (.t 18)] (.op (some 20) .mov [(.t 19)] (.sc 20 false (.op (some 21) .mov [(.t 0)] (.op (some 22) (.call 174 [.b]) [(.t 21)] (.op (some 23) .mov [(.t 5)] (.op (some 24) .len [(.t 23)] (.op (some 25) (.bin .eql) [(.t 24), (.k (.c (.int .i64 0)))] (.op (some 26) (.eqB true) [(.t 22), (.t 25)] .nil)))))) 26 27 true (.op (some 28) .mov [(.t 27)] (.sc 28 false (.op (some 29) .mov [(.t 0)] (.op (some 30) (.call 179 [.agg]) [(.t 29)] (.op (some 31) .mov [(.t 1)] (.op (some 32) (.call 199 [.agg]) [(.t 31)] (.op (some 33) (.eqA true (List.replicate 20 (Cell.int .i64 0))) [(.t 30), (.t 32)] .nil))))) 33 34 true .nil)))))))))) (.cond (.t 34) (.seq (.reg 4 false (.op (some 4) .mov [(.k (.c (.bool false)))] .nil)) .ret) .skip)) (.seq (.seq (.reg 5 false (.op (some 7) .mov [(.k (.c (.int .i64 0)))] .nil)) (.blk 0 (.loop [0, 1, 5, 6, 7] [] [(0, [4], []), (1, [0, 1], [])] q183_b1))) q183_p1))))) }
def q185_b1 : IC := (.seq (.seq (.reg 4 false (.op (some 8) .mov [(.t 5)] (.op (some 9) .mov [(.t 4)] (.op (some 10) .len [(.t 9)] (.op (some 11) (.bin .lss) [(.t 8), (.t 10)] .nil))))) (.cond (.t 11) .skip (.exit 0))) (.seq (.blk 1 (.reg 6 false (.op (some 14) .mov [(.t 3)] (.op (some 15) .mov [(.t 4)] (.op (some 16) .mov [(.t 5)] (.op (some 17) (.idxS 7) [(.t 15), (.t 16)] (.op (some 18) (.addr 0) [(.t 17)] (.op (some 19) (.ld .heap (.i .i64)) [(.t 18)] (.op (some 20) (.lit 1 1 ([Cell.int .i64 0]) [(0, 1)]) [(.t 19)] (.op (some 21) (.app 1 8) [(.t 14), (.t 20)] (.op (some 3) .mov [(.t 21)] .nil))))))))))) (.reg 5 false (.op (some 12) .mov [(.t 5)] (.op (some 13) (.bin .add) [(.t 12), (.k (.c (.int .i64 1)))] (.op (some 5) .mov [(.t 13)] .nil))))))
def q185_p1 : IC := (.seq (.reg 7 false (.op (some 22) .mov [(.t 3)] (.op (some 2) .mov [(.t 22)] .nil))) .ret)
def q185 : Fn := { np := 1, nt := 23, ns := 0, res := [.t 2 .any], gc := false, code := (.seq (.reg 0 false (.op (some 2) .mov [(.k (.c .nils))] .nil)) (.seq (.reg 1 false (.op (some 3) .mov [(.k (.c .nils))] .nil)) (.seq (.reg 2 false (.op (some 6) .mov [(.t 0)] (.op (some 7) (.call 175 [.any]) [(.t 6)] (.op (some 4) .mov [(.t 7)] .nil)))) (.seq (.seq (.reg 3 false (.op (some 5) .mov [(.k (.c (.int .i64 0)))] .nil)) (.blk 0 (.loop [3, 4, 5] [] [(1, [3], [])] q185_b1))) q185_p1)))) }
def q223_b1 : IC := (.seq (.seq (.reg 10 false (.op (some 39) .mov [(.t 14)] (.op (some 40) .mov [(.t 2)] (.op (some 41) .len [(.t 40)] (.op (some 42) (.bin .lss) [(.t 39), (.t 41)] (.op (some 43) .mov [(.t 42)] (.sc 43 true (.op (some 44) .mov [(.t 14)] (.op (some 45) (.bin .lss) [(.t 44), (.k (.c (.int .i64 50)))] .nil)) 45 46 false .nil))))))) (.cond (.t 46) .skip (.exit 0))) (.seq (.blk 1 (.seq (.reg 12 false (.op (some 49) .mov [(.t 10)] (.op (some 50) (.call 172 [(.i .u64)]) [(.t 49)] (.op (some 51) (.call 32 [.any]) [(.t 50)] (.op (some 15) .mov [(.t 51)] .nil))))) (.seq (.seq (.reg 13 false (.op (some 52) .mov [(.t 15)] (.op (some 53) .len [(.t 52)] (.op (some 54) (.bin .eql) [(.t 53), (.k (.c (.int .i64 0)))] .nil)))) (.cond (.t 54) (.exit 0) .skip)) (.seq (.seq (.reg 14 false (.op (some 55) .mov [(.t 14)] (.op (some 56) .mov [(.t 3)] (.op (some 57) (.bin .eql) [(.t 55), (.t 56)] .nil)))) (.cond (.t 57) (.seq (.reg 15 false (.op (some 58) .mov [(.t 10)] (.op (some 59) (.call 184 [.any]) [(.t 58)] (.op (some 12) .mov [(.t 59)] .nil)))) (.reg 16 true (.op (some 61) (.ldAll (.slot 0) 3) [(.t 9)] (.op (some 62) .mov [(.t 1)] (.op (some 63) .mov [(.t 10)] (.op (some 64) (.call 185 [.any]) [(.t 63)] (.op (some 65) (.call 186 [.any, (.i .i64)]) [(.t 61), (.t 62), (.t 64)] (.op (some 60) .mov [(.t 65)] (.op (some 66) (.ext 0) [(.t 60)] (.op (some 67) (.ext 1) [(.t 60)] (.op (some 13) .mov [(.t 66)] .nil))))))))))) .skip)) (.reg 17 false (.op (some 68) .mov [(.t 10)] (.op (some 69) .mov [(.t 15)] (.op (some 70) .mov [(.t 2)] (.op (some 71) .mov [(.t 14)] (.op (some 72) (.idxS 1) [(.t 70), (.t 71)] (.op (some 73) (.ld .heap (.i .i64)) [(.t 72)] (.op (some 74) (.bin .and) [(.t 73), (.k (.c (.int .i64 255)))] (.op (some 75) .mov [(.t 15)] (.op (some 76) .len [(.t 75)] (.op (some 77) (.bin .rem) [(.t 74), (.t 76)] (.op (some 78) (.idxS 1) [(.t 69), (.t 77)] (.op (some 79) (.ld .heap (.i .i64)) [(.t 78)] (.op (some 80) (.call 173 [.agg, .b]) [(.t 68), (.t 79)] .nil)))))))))))))))))) (.reg 11 false (.op (some 47) .mov [(.t 14)] (.op (some 48) (.bin .add) [(.t 47), (.k (.c (.int .i64 1)))] (.op (some 14) .mov [(.t 48)] .nil))))))
def q223_p1 : IC := (.seq (.reg 18 false (.op (some 81) .mov [(.t 12)] (.op (some 82) (.eqNil false) [(.t 81), (.k (.c .nilp))] (.op (some 83) .mov [(.t 82)] (.sc 83 false (.op (some 84) .mov [(.t 12)] (.op (some 85) .mov [(.t 13)] (.op (some 86) (.call 183 [.b]) [(.t 84), (.t 85)] (.op (some 87) .mov [(.t 86)] (.sc 87 true (.op (some 88) .mov [(.t 12)] (.op (some 89) (.call 184 [.any]) [(.t 88)] (.op (some 90) .mov [(.t 13)] (.op (some 91) (.call 183 [.b]) [(.t 89), (.t 90)] .nil)))) 91 92 false .nil))))) 92 93 true (.op (some 94) .mov [(.t 93)] (.sc 94 true (.op (some 95) (.call 170 [.b]) [] .nil) 95 96 false (.op (some 8) .mov [(.t 96)] .nil)))))))) .ret)
def q223 : Fn := { np := 4, nt := 97, ns := 1, res := [.t 8 .b], gc := false, code := (.seq (.reg 0 false (.op (some 8) .mov [(.k (.c (.bool false)))] .nil)) (.seq (.reg 1 false (.op (some 16) .mov [(.t 0)] (.op (some 17) (.call 76 [.agg]) [(.t 16), (.k (.c (.int .i64 10)))] (.al 9 0 ([Cell.nils, Cell.nils, Cell.nils]) (.op none (.stAll (.slot 0) 3) [(.t 9), (.t 17)] .nil))))) (.seq (.reg 2 false (.op (some 18) .mov [(.t 1)] (.op (some 19) (.bin .and) [(.t 18), (.k (.c (.int .i64 255)))] (.op (some 20) (.bin .rem) [(.t 19), (.k (.c (.int .i64 3)))] (.op (some 21) (.bin .add) [(.t 20), (.k (.c (.int .i64 1)))] (.op (some 1) .mov [(.t 21)] .nil)))))) (.seq (.reg 3 false (.op (some 23) (.ldAll (.slot 0) 3) [(.t 9)] (.op (some 24) .mov [(.t 1)] (.op (some 25) (.call 171 [.any, (.i .i64)]) [(.t 23), (.t 24)] (.op (some 22) .mov [(.t 25)] (.op (some 26) (.ext 0) [(.t 22)] (.op (some 27) (.ext 1) [(.t 22)] (.op (some 10) .mov [(.t 26)] (.op (some 11) .mov [(.t 27)] .nil))))))))) (.seq (.seq (.reg 4 false (.op (some 28) .mov [(.t 10)] (.op (some 29) (.eqNil false) [(.t 28), (.k (.c .nilp))] (.op (some 30) .mov [(.t 29)] (.sc 30 false (.op (some 31) .mov [(.t 11)] (.op (some 32) (.bin .neq) [(.t 31), (.k (.c (.int .i64 0)))] .nil)) 32 33 true .nil))))) (.cond (.t 33) (.seq (.reg 5 false (.op (some 8) .mov [(.k (.c (.bool false)))] .nil)) .ret) .skip)) (.seq (.reg 6 false (.op (some 34) .mov [(.t 3)] (.op (some 35) (.bin .and) [(.t 34), (.k (.c (.int .i64 31)))] (.op (some 3) .mov [(.t 35)] .nil)))) (.seq (.reg 7 false (.op (some 12) .mov [(.k (.c .nilp))] .nil)) (.seq (.reg 8 false (.op (some 36) (.ldAll (.slot 0) 3) [(.t 9)] (.op (some 37) .mov [(.t 1)] (.op (some 38) (.call 180 [.any]) [(.t 36), (.t 37)] (.op (some 13) .mov [(.t 38)] .nil))))) (.seq (.seq (.reg 9 false (.op (some 14) .mov [(.k (.c (.int .i64 0)))] .nil)) (.blk 0 (.loop [1, 2, 3, 9, 10, 12, 13, 14] [0] [(1, [12, 13], [])] q223_b1))) q223_p1))))))))) }
end Jq

namespace Jq
open Go
def q76 : Fn := { np := 2, nt := 9, ns := 1, res := [.all (.slot 0) 4 3], gc := false, code := (.seq (.reg 0 false (.al 4 0 ([Cell.nils, Cell.nils, Cell.nils]) .nil)) (.seq (.reg 1 false (.op (some 5) .mov [(.t 0)] (.op (some 6) .mov [(.t 1)] (.op (some 7) (.call 97 [.agg]) [(.t 5), (.t 6)] (.op (some 8) (.call 101 [.agg]) [(.t 7)] (.op none (.stAll (.slot 0) 3) [(.t 4), (.t 8)] .nil)))))) .ret)) }
end Jq

namespace Jq
open Go
def q97_p8 : IC := (.cond (.t 108) (.seq (.reg 35 false (.op (some 113) .mov [(.t 12)] (.op (some 114) .mov [(.t 17)] (.op (some 115) .mov [(.t 15)] (.op (some 116) (.build (List.replicate 9 (Cell.int .i64 0)) [(0, 1), (1, 1), (2, 1)]) [(.k (.c (.int .i64 2))), (.t 114), (.t 115)] (.op (some 117) (.lit 9 1 (List.replicate 9 (Cell.int .i64 0)) [(0, 9)]) [(.t 116)] (.op (some 118) (.app 9 72) [(.t 113), (.t 117)] (.op (some 12) .mov [(.t 118)] .nil)))))))) (.reg 36 false (.op (some 119) .mov [(.t 10)] (.op (some 120) (.bin .add) [(.t 119), (.k (.c (.int .i64 1)))] (.op (some 10) .mov [(.t 120)] .nil))))) (.seq (.reg 37 false (.op (some 122) (.bin .eql) [(.t 83), (.k (.c (.int .i64 8)))] (.op (some 121) .mov [(.t 122)] .nil))) (.cond (.t 121) (.reg 38 false (.op (some 123) .mov [(.t 12)] (.op (some 124) (.build (List.replicate 9 (Cell.int .i64 0)) [(0, 1)]) [(.k (.c (.int .i64 3)))] (.op (some 125) (.lit 9 1 (List.replicate 9 (Cell.int .i64 0)) [(0, 9)]) [(.t 124)] (.op (some 126) (.app 9 72) [(.t 123), (.t 125)] (.op (some 12) .mov [(.t 126)] .nil)))))) (.seq (.reg 39 false (.op (some 128) (.bin .eql) [(.t 83), (.k (.c (.int .i64 9)))] (.op (some 127) .mov [(.t 128)] .nil))) (.cond (.t 127) (.seq (.reg 40 false (.op (some 129) .mov [(.t 12)] (.op (some 130) .mov [(.t 17)] (.op (some 131) .mov [(.t 15)] (.op (some 132) (.ldAll (.slot 2) 2) [(.t 16)] (.op (some 133) (.build ([Cell.int .i64 0, Cell.int .i64 0]) [(0, 1), (1, 1)]) [(.k (.c (.int .i64 (-1)))), (.k (.c (.int .i64 1)))] (.op (some 134) (.build (List.replicate 9 (Cell.int .i64 0)) [(0, 1), (1, 1), (2, 1), (3, 2), (6, 2)]) [(.k (.c (.int .i64 4))), (.t 130), (.t 131), (.t 132), (.t 133)] (.op (some 135) (.lit 9 1 (List.replicate 9 (Cell.int .i64 0)) [(0, 9)]) [(.t 134)] (.op (some 136) (.app 9 72) [(.t 129), (.t 135)] (.op (some 12) .mov [(.t 136)] .nil)))))))))) (.reg 41 false (.op (some 137) .mov [(.t 10)] (.op (some 138) (.bin .add) [(.t 137), (.k (.c (.int .i64 1)))] (.op (some 10) .mov [(.t 138)] .nil))))) (.seq (.reg 42 false (.op (some 140) (.bin .eql) [(.t 83), (.k (.c (.int .i64 10)))] (.op (some 139) .mov [(.t 140)] .nil))) (.cond (.t 139) (.reg 43 false (.op (some 141) .mov [(.t 12)] (.op (some 142) .mov [(.t 17)] (.op (some 143) (.ldAll (.slot 2) 2) [(.t 16)] (.op (some 144) (.build ([Cell.int .i64 0, Cell.int .i64 0]) [(0, 1), (1, 1)]) [(.k (.c (.int .i64 (-1)))), (.k (.c (.int .i64 1)))] (.op (some 145) (.build (List.replicate 9 (Cell.int .i64 0)) [(0, 1), (1, 1), (3, 2), (5, 1), (6, 2)]) [(.k (.c (.int .i64 5))), (.t 142), (.t 143), (.k (.c (.int .i64 6))), (.t 144)] (.op (some 146) (.lit 9 1 (List.replicate 9 (Cell.int .i64 0)) [(0, 9)]) [(.t 145)] (.op (some 147) (.app 9 72) [(.t 141), (.t 146)] (.op (some 12) .mov [(.t 147)] .nil))))))))) (.seq (.reg 23 false (.op (some 84) .mov [(.t 12)] (.op (some 85) (.ldAll (.slot 2) 2) [(.t 16)] (.op (some 86) (.build ([Cell.int .i64 0, Cell.int .i64 0]) [(0, 1)]) [(.k (.c (.int .i64 (-1))))] (.op (some 87) (.build (List.replicate 9 (Cell.int .i64 0)) [(0, 1), (3, 2), (6, 2), (8, 1)]) [(.k (.c (.int .i64 6))), (.t 85), (.t 86), (.k (.c (.int .i64 1)))] (.op (some 88) .mov [(.t 15)] (.op (some 89) (.build ([Cell.int .i64 0, Cell.int .i64 0]) [(0, 1), (1, 1)]) [(.k (.c (.int .i64 (-1)))), (.k (.c (.int .i64 2)))] (.op (some 90) (.build (List.replicate 9 (Cell.int .i64 0)) [(0, 1), (2, 1), (3, 2)]) [(.k (.c (.int .i64 1))), (.t 88), (.t 89)] (.op (some 91) (.lit 9 2 (List.replicate 18 (Cell.int .i64 0)) [(0, 9), (9, 9)]) [(.t 87), (.t 90)] (.op (some 92) (.app 9 72) [(.t 84), (.t 91)] (.op (some 12) .mov [(.t 92)] .nil))))))))))) (.reg 24 false (.op (some 93) .mov [(.t 10)] (.op (some 94) (.bin .add) [(.t 93), (.k (.c (.int .i64 1)))] (.op (some 10) .mov [(.t 94)] .nil))))))))))))
def q97_p7 : IC := (.cond (.t 95) (.seq (.reg 29 false (.op (some 100) .mov [(.t 12)] (.op (some 101) .mov [(.t 15)] (.op (some 102) (.ldAll (.slot 2) 2) [(.t 16)] (.op (some 103) (.build (List.replicate 9 (Cell.int .i64 0)) [(0, 1), (2, 1), (3, 2)]) [(.k (.c (.int .i64 1))), (.t 101), (.t 102)] (.op (some 104) (.lit 9 1 (List.replicate 9 (Cell.int .i64 0)) [(0, 9)]) [(.t 103)] (.op (some 105) (.app 9 72) [(.t 100), (.t 104)] (.op (some 12) .mov [(.t 105)] .nil)))))))) (.reg 30 false (.op (some 106) .mov [(.t 10)] (.op (some 107) (.bin .add) [(.t 106), (.k (.c (.int .i64 1)))] (.op (some 10) .mov [(.t 107)] .nil))))) (.cut [1, 4, 5, 7, 8, 9, 10, 11, 12, 13, 15, 16, 17, 83, 108] [0, 1, 2] [] (.seq (.reg 31 false (.op (some 109) (.bin .eql) [(.t 83), (.k (.c (.int .i64 4)))] (.op (some 108) .mov [(.t 109)] .nil))) (.cond (.t 108) .skip (.seq (.reg 32 false (.op (some 110) (.bin .eql) [(.t 83), (.k (.c (.int .i64 5)))] (.op (some 108) .mov [(.t 110)] .nil))) (.cond (.t 108) .skip (.seq (.reg 33 false (.op (some 111) (.bin .eql) [(.t 83), (.k (.c (.int .i64 6)))] (.op (some 108) .mov [(.t 111)] .nil))) (.cond (.t 108) .skip (.reg 34 false (.op (some 112) (.bin .eql) [(.t 83), (.k (.c (.int .i64 7)))] (.op (some 108) .mov [(.t 112)] .nil))))))))) q97_p8))
def q97_p6 : IC := (.seq (.reg 21 false (.op (some 79) .mov [(.t 14)] (.op (some 80) (.bin .shr) [(.t 79), (.k (.c (.int .u64 11)))] (.op (some 81) (.bin .and) [(.t 80), (.k (.c (.int .i64 1)))] (.op (some 17) .mov [(.t 81)] .nil))))) (.seq (.reg 22 false (.op (some 82) .mov [(.t 14)] (.op (some 83) (.bin .rem) [(.t 82), (.k (.c (.int .i64 12)))] .nil))) (.blk 4 (.cut [1, 4, 5, 7, 8, 9, 10, 11, 12, 13, 15, 16, 17, 83, 95] [0, 1, 2] [] (.seq (.reg 25 false (.op (some 96) (.bin .eql) [(.t 83), (.k (.c (.int .i64 0)))] (.op (some 95) .mov [(.t 96)] .nil))) (.cond (.t 95) .skip (.seq (.reg 26 false (.op (some 97) (.bin .eql) [(.t 83), (.k (.c (.int .i64 1)))] (.op (some 95) .mov [(.t 97)] .nil))) (.cond (.t 95) .skip (.seq (.reg 27 false (.op (some 98) (.bin .eql) [(.t 83), (.k (.c (.int .i64 2)))] (.op (some 95) .mov [(.t 98)] .nil))) (.cond (.t 95) .skip (.reg 28 false (.op (some 99) (.bin .eql) [(.t 83), (.k (.c (.int .i64 3)))] (.op (some 95) .mov [(.t 99)] .nil))))))))) q97_p7))))
def q97_p5 : IC := (.reg 15 false (.op (some 58) .mov [(.t 13)] (.op (some 59) (.bin .sub) [(.t 58), (.k (.c (.int .i64 1)))] (.op (some 13) .mov [(.t 59)] .nil))))
def q97_b1 : IC := (.seq (.seq (.reg 14 false (.op (some 51) .mov [(.t 13)] (.op (some 52) (.bin .gtr) [(.t 51), (.k (.c (.int .i64 0)))] (.op (some 53) .mov [(.t 52)] (.sc 53 true (.op (some 54) .mov [(.t 10)] (.op (some 55) .mov [(.t 1)] (.op (some 56) (.bin .lss) [(.t 54), (.t 55)] .nil))) 56 57 false .nil))))) (.cond (.t 57) .skip (.exit 2))) (.seq (.blk 3 (.seq (.reg 16 false (.op (some 60) .mov [(.t 7)] (.op (some 61) (.callv [(.i .i64)]) [(.t 60)] (.op (some 14) .mov [(.t 61)] .nil)))) (.seq (.reg 17 false (.op (some 62) .mov [(.t 14)] (.op (some 63) (.bin .shr) [(.t 62), (.k (.c (.int .u64 4)))] (.op (some 64) .mov [(.t 9)] (.op (some 65) (.bin .rem) [(.t 63), (.t 64)] (.op (some 66) (.bin .add) [(.k (.c (.int .i64 120))), (.t 65)] (.op (some 15) .mov [(.t 66)] .nil))))))) (.seq (.reg 18 false (.op (some 67) .mov [(.t 14)] (.op (some 68) (.bin .shr) [(.t 67), (.k (.c (.int .u64 6)))] (.op (some 69) (.bin .rem) [(.t 68), (.k (.c (.int .i64 3)))] (.op (some 70) (.build ([Cell.int .i64 0, Cell.int .i64 0]) [(0, 1), (1, 1)]) [(.k (.c (.int .i64 (-1)))), (.t 69)] (.al 16 2 ([Cell.int .i64 0, Cell.int .i64 0]) (.op none (.stAll (.slot 2) 2) [(.t 16), (.t 70)] .nil))))))) (.cut [1, 4, 5, 7, 8, 9, 10, 11, 12, 13, 14, 15, 16] [0, 1, 2] [] (.seq (.reg 19 false (.op (some 71) .mov [(.t 14)] (.op (some 72) (.bin .shr) [(.t 71), (.k (.c (.int .u64 8)))] (.op (some 73) (.bin .rem) [(.t 72), (.k (.c (.int .i64 3)))] (.op (some 74) (.bin .eql) [(.t 73), (.k (.c (.int .i64 0)))] .nil))))) (.cond (.t 74) (.reg 20 false (.op (some 75) .mov [(.t 14)] (.op (some 76) (.bin .shr) [(.t 75), (.k (.c (.int .u64 10)))] (.op (some 77) (.bin .and) [(.t 76), (.k (.c (.int .i64 1)))] (.op (some 78) (.build ([Cell.int .i64 0, Cell.int .i64 0]) [(0, 1)]) [(.t 77)] (.op none (.stAll (.slot 2) 2) [(.t 16), (.t 78)] .nil)))))) .skip)) q97_p6))))) q97_p5))
def q97_p4 : IC := (.reg 44 false (.op (some 148) (.addr 2) [(.t 5)] (.op (some 149) (.ld (.slot 1) .any) [(.t 148)] (.op (some 150) .mov [(.t 12)] (.op (some 151) (.lit 1 1 ([Cell.nils]) [(0, 1)]) [(.t 150)] (.op (some 152) (.app 1 24) [(.t 149), (.t 151)] (.op (some 153) (.addr 2) [(.t 5)] (.op none (.st (.slot 1)) [(.t 153), (.t 152)] .nil))))))))
def q97_p3 : IC := (.reg 11 false (.op (some 45) .mov [(.t 11)] (.op (some 46) (.bin .add) [(.t 45), (.k (.c (.int .i64 1)))] (.op (some 11) .mov [(.t 46)] .nil))))
def q97_b2 : IC := (.seq (.seq (.reg 10 false (.op (some 42) .mov [(.t 11)] (.op (some 43) .mov [(.t 8)] (.op (some 44) (.bin .lss) [(.t 42), (.t 43)] .nil)))) (.cond (.t 44) .skip (.exit 0))) (.seq (.blk 1 (.seq (.reg 12 false (.op (some 12) .mov [(.k (.c .nils))] .nil)) (.seq (.seq (.reg 13 false (.op (some 47) .mov [(.t 7)] (.op (some 48) (.callv [(.i .i64)]) [(.t 47)] (.op (some 49) (.bin .rem) [(.t 48), (.k (.c (.int .i64 3)))] (.op (some 50) (.bin .add) [(.t 49), (.k (.c (.int .i64 1)))] (.op (some 13) .mov [(.t 50)] .nil)))))) (.blk 2 (.loop [1, 4, 5, 7, 8, 9, 10, 11, 12, 13] [0, 1] [(3, [1, 4, 5, 7, 8, 9, 10, 11, 12], [0, 1])] q97_b1))) q97_p4))) q97_p3))
def q97_p2 : IC := (.seq (.seq (.reg 45 false (.op (some 154) .mov [(.t 7)] (.op (some 155) (.callv [(.i .i64)]) [(.t 154)] (.op (some 18) .mov [(.t 155)] .nil)))) (.seq (.reg 46 false (.op (some 156) .mov [(.t 18)] (.op (some 157) (.bin .rem) [(.t 156), (.k (.c (.int .i64 3)))] (.op (some 158) (.bin .eql) [(.t 157), (.k (.c (.int .i64 0)))] .nil)))) (.cond (.t 158) (.reg 47 false (.op (some 159) .mov [(.t 18)] (.op (some 160) (.bin .quo) [(.t 159), (.k (.c (.int .i64 3)))] (.op (some 161) (.bin .rem) [(.t 160), (.k (.c (.int .i64 2)))] (.op (some 162) (.bin .add) [(.t 161), (.k (.c (.int .i64 1)))] (.op (some 163) .mov [(.t 18)] (.op (some 164) (.bin .shr) [(.t 163), (.k (.c (.int .u64 3)))] (.op (some 165) (.bin .and) [(.t 164), (.k (.c (.int .i64 1)))] (.op (some 166) .mov [(.t 18)] (.op (some 167) (.bin .shr) [(.t 166), (.k (.c (.int .u64 4)))] (.op (some 168) (.bin .and) [(.t 167), (.k (.c (.int .i64 1)))] (.op (some 169) (.build ([Cell.int .i64 0, Cell.int .i64 0, Cell.int .i64 0, Cell.int .i64 0]) [(0, 1), (1, 1), (3, 1)]) [(.k (.c (.int .i64 0))), (.t 165), (.t 168)] (.op (some 170) (.bslice 4 1 ([Cell.int .i64 0, Cell.int .i64 0, Cell.int .i64 0, Cell.int .i64 0]) [(0, 4)]) [(.t 169)] (.op (some 171) .mov [(.t 18)] (.op (some 172) (.bin .shr) [(.t 171), (.k (.c (.int .u64 5)))] (.op (some 173) (.bin .rem) [(.t 172), (.k (.c (.int .i64 3)))] (.op (some 174) (.build ([Cell.int .i64 0, Cell.int .i64 0, Cell.int .i64 0, Cell.int .i64 0]) [(0, 1), (2, 1), (3, 1)]) [(.k (.c (.int .i64 (-1)))), (.k (.c (.int .i64 120))), (.t 173)] (.op (some 175) .mov [(.t 18)] (.op (some 176) (.bin .shr) [(.t 175), (.k (.c (.int .u64 7)))] (.op (some 177) (.bin .and) [(.t 176), (.k (.c (.int .i64 1)))] (.op (some 178) (.build ([Cell.int .i64 0, Cell.int .i64 0, Cell.int .i64 0, Cell.int .i64 0]) [(0, 1), (1, 1), (3, 1)]) [(.k (.c (.int .i64 1))), (.k (.c (.int .i64 0))), (.t 177)] (.op (some 179) (.bslice 4 2 (List.replicate 8 (Cell.int .i64 0)) [(0, 4), (4, 4)]) [(.t 174), (.t 178)] (.op (some 180) (.bslice 1 2 ([Cell.nils, Cell.nils]) [(0, 1), (1, 1)]) [(.t 170), (.t 179)] (.op (some 181) (.build ([Cell.int .i64 0, Cell.nils]) [(0, 1), (1, 1)]) [(.t 162), (.t 180)] (.op (some 182) (.addr 3) [(.t 5)] (.op none (.stN (.slot 1) 2) [(.t 182), (.t 181)] .nil)))))))))))))))))))))))))) .skip))) (.seq (.reg 48 false (.op (some 183) (.ldAll (.slot 1) 5) [(.t 5)] (.op none (.stAll (.slot 0) 5) [(.t 4), (.t 183)] .nil))) .ret))
def q97_p1 : IC := (.seq (.reg 8 false (.op (some 10) .mov [(.k (.c (.int .i64 0)))] .nil)) (.seq (.seq (.reg 9 false (.op (some 11) .mov [(.k (.c (.int .i64 0)))] .nil)) (.blk 0 (.loop [1, 4, 5, 7, 8, 9, 10, 11] [0, 1] [(1, [4, 5, 7], [0, 1])] q97_b2))) q97_p2))
def q97 : Fn := { np := 2, nt := 184, ns := 3, res := [.all (.slot 0) 4 5], gc := false, code := (.seq (.reg 0 false (.op (some 2) .boxH [(.t 0)] (.al 4 0 ([Cell.str (ByteArray.mk #[]), Cell.nils, Cell.nils, Cell.int .i64 0, Cell.nils]) .nil))) (.seq (.reg 1 false (.op (some 19) (.build ([Cell.str (ByteArray.mk #[]), Cell.nils, Cell.nils, Cell.int .i64 0, Cell.nils]) [(0, 1)]) [(.k (.c (.str (ByteArray.mk #[116]))))] (.al 5 1 ([Cell.str (ByteArray.mk #[]), Cell.nils, Cell.nils, Cell.int .i64 0, Cell.nils]) (.op none (.stAll (.slot 1) 5) [(.t 5), (.t 19)] .nil)))) (.seq (.reg 2 false (.op (some 6) (.allocH ([Cell.int .i64 0])) [] (.op none (.st .heap) [(.t 6), (.k (.c (.int .i64 0)))] .nil))) (.seq (.reg 3 false (.op (some 20) (.mkfn 115) [(.t 6), (.t 2)] (.op (some 7) .mov [(.t 20)] .nil))) (.seq (.reg 4 false (.op (some 21) .mov [(.t 7)] (.op (some 22) (.callv [(.i .i64)]) [(.t 21)] (.op (some 23) (.bin .rem) [(.t 22), (.k (.c (.int .i64 2)))] (.op (some 24) (.bin .add) [(.t 23), (.k (.c (.int .i64 2)))] (.op (some 8) .mov [(.t 24)] .nil)))))) (.seq (.reg 5 false (.op (some 25) .mov [(.t 7)] (.op (some 26) (.callv [(.i .i64)]) [(.t 25)] (.op (some 27) (.bin .rem) [(.t 26), (.k (.c (.int .i64 2)))] (.op (some 28) (.bin .add) [(.t 27), (.k (.c (.int .i64 2)))] (.op (some 9) .mov [(.t 28)] .nil)))))) (.cut [1, 4, 5, 7, 8, 9] [0, 1] [] (.seq (.reg 6 false (.op (some 29) .mov [(.t 7)] (.op (some 30) (.callv [(.i .i64)]) [(.t 29)] (.op (some 31) (.bin .rem) [(.t 30), (.k (.c (.int .i64 4)))] (.op (some 32) (.bin .eql) [(.t 31), (.k (.c (.int .i64 0)))] .nil))))) (.cond (.t 32) (.reg 7 true (.op (some 33) (.addr 1) [(.t 5)] (.op (some 34) (.ld (.slot 1) .any) [(.t 33)] (.op (some 35) .mov [(.t 7)] (.op (some 36) (.callv [(.i .i64)]) [(.t 35)] (.op (some 37) (.bin .rem) [(.t 36), (.k (.c (.int .i64 3)))] (.op (some 38) (.build ([Cell.int .i64 0, Cell.int .i64 0]) [(0, 1), (1, 1)]) [(.k (.c (.int .i64 120))), (.t 37)] (.op (some 39) (.lit 2 1 ([Cell.int .i64 0, Cell.int .i64 0]) [(0, 2)]) [(.t 38)] (.op (some 40) (.app 2 16) [(.t 34), (.t 39)] (.op (some 41) (.addr 1) [(.t 5)] (.op none (.st (.slot 1)) [(.t 41), (.t 40)] .nil))))))))))) .skip)) q97_p1))))))) }
def q115 : Fn := { np := 2, nt := 15, ns := 0, res := [.t 2 (.i .i64)], gc := false, code := (.seq (.reg 0 false (.op (some 2) .mov [(.k (.c (.int .i64 0)))] .nil)) (.seq (.reg 1 false (.op (some 3) (.ld .heap (.i .i64)) [(.t 0)] (.op (some 4) (.bin .add) [(.t 3), (.k (.c (.int .i64 1)))] (.op none (.st .heap) [(.t 0), (.t 4)] .nil)))) (.seq (.seq (.reg 2 false (.op (some 5) (.ld .heap (.i .i64)) [(.t 0)] (.op (some 6) (.ld .heap .any) [(.t 1)] (.op (some 7) .len [(.t 6)] (.op (some 8) (.bin .gtr) [(.t 5), (.t 7)] .nil))))) (.cond (.t 8) (.seq (.reg 3 false (.op (some 2) .mov [(.k (.c (.int .i64 0)))] .nil)) .ret) .skip)) (.seq (.reg 4 false (.op (some 9) (.ld .heap .any) [(.t 1)] (.op (some 10) (.ld .heap (.i .i64)) [(.t 0)] (.op (some 11) (.bin .sub) [(.t 10), (.k (.c (.int .i64 1)))] (.op (some 12) (.idxS 1) [(.t 9), (.t 11)] (.op (some 13) (.ld .heap (.i .i64)) [(.t 12)] (.op (some 14) (.bin .and) [(.t 13), (.k (.c (.int .i64 65535)))] (.op (some 2) .mov [(.t 14)] .nil)))))))) .ret)))) }
end Jq

namespace Jq
open Go
structure q115_In (E : Env) : Prop where
  fn : E.fn 115 = some q115
structure q97_In (E : Env) : Prop where
  fn : E.fn 97 = some q97
  c115 : q115_In E
end Jq

namespace Jq
open Go
end Jq

namespace Jq
open Go
end Jq

namespace Jq
open Go
def q93 : Fn := { np := 3, nt := 81, ns := 0, res := [.t 6 (.i .i64), .t 7 .b], gc := false, code := (.seq (.reg 0 false (.op (some 6) .mov [(.k (.c (.int .i64 0)))] (.op (some 7) .mov [(.k (.c (.bool false)))] .nil))) (.seq (.reg 1 false (.op (some 10) .mov [(.t 2)] (.op (some 11) (.conv .u64) [(.t 10)] (.op (some 12) (.bin .rem) [(.t 11), (.k (.c (.int .u64 64)))] (.op (some 8) .mov [(.t 12)] .nil))))) (.seq (.reg 2 false (.op (some 9) .mov [(.k (.c (.bool false)))] .nil)) (.seq (.seq (.reg 3 false (.op (some 13) .mov [(.t 0)] .nil)) (.blk 0 (.seq (.reg 5 false (.op (some 15) (.bin .eql) [(.t 13), (.k (.c (.int .i64 1)))] (.op (some 14) .mov [(.t 15)] .nil))) (.cond (.t 14) (.seq (.reg 6 false (.op (some 16) .mov [(.t 1)] (.op (some 17) (.conv .u64) [(.t 16)] (.op (some 18) .mov [(.t 2)] (.op (some 19) (.conv .u64) [(.t 18)] (.op (some 20) (.bin .add) [(.t 17), (.t 19)] (.op (some 21) (.conv .i64) [(.t 20)] (.op (some 6) .mov [(.t 21)] (.op (some 7) .mov [(.k (.c (.bool true)))] .nil))))))))) .ret) (.seq (.reg 7 false (.op (some 23) (.bin .eql) [(.t 13), (.k (.c (.int .i64 2)))] (.op (some 22) .mov [(.t 23)] .nil))) (.cond (.t 22) (.seq (.reg 8 false (.op (some 24) .mov [(.t 1)] (.op (some 25) (.conv .u64) [(.t 24)] (.op (some 26) .mov [(.t 2)] (.op (some 27) (.conv .u64) [(.t 26)] (.op (some 28) (.bin .sub) [(.t 25), (.t 27)] (.op (some 29) (.conv .i64) [(.t 28)] (.op (some 6) .mov [(.t 29)] (.op (some 7) .mov [(.k (.c (.bool true)))] .nil))))))))) .ret) (.seq (.reg 9 false (.op (some 31) (.bin .eql) [(.t 13), (.k (.c (.int .i64 3)))] (.op (some 30) .mov [(.t 31)] .nil))) (.cond (.t 30) (.seq (.reg 10 false (.op (some 32) .mov [(.t 1)] (.op (some 33) (.conv .u64) [(.t 32)] (.op (some 34) .mov [(.t 2)] (.op (some 35) (.conv .u64) [(.t 34)] (.op (some 36) (.bin .mul) [(.t 33), (.t 35)] (.op (some 37) (.conv .i64) [(.t 36)] (.op (some 6) .mov [(.t 37)] (.op (some 7) .mov [(.k (.c (.bool true)))] .nil))))))))) .ret) (.seq (.reg 11 false (.op (some 39) (.bin .eql) [(.t 13), (.k (.c (.int .i64 4)))] (.op (some 38) .mov [(.t 39)] .nil))) (.cond (.t 38) (.seq (.reg 12 false (.op (some 40) .mov [(.t 1)] (.op (some 41) .mov [(.t 2)] (.op (some 42) (.bin .and) [(.t 40), (.t 41)] (.op (some 6) .mov [(.t 42)] (.op (some 7) .mov [(.k (.c (.bool true)))] .nil)))))) .ret) (.seq (.reg 13 false (.op (some 44) (.bin .eql) [(.t 13), (.k (.c (.int .i64 5)))] (.op (some 43) .mov [(.t 44)] .nil))) (.cond (.t 43) (.seq (.reg 14 false (.op (some 45) .mov [(.t 1)] (.op (some 46) .mov [(.t 2)] (.op (some 47) (.bin .or) [(.t 45), (.t 46)] (.op (some 6) .mov [(.t 47)] (.op (some 7) .mov [(.k (.c (.bool true)))] .nil)))))) .ret) (.seq (.reg 15 false (.op (some 49) (.bin .eql) [(.t 13), (.k (.c (.int .i64 6)))] (.op (some 48) .mov [(.t 49)] .nil))) (.cond (.t 48) (.seq (.reg 16 false (.op (some 50) .mov [(.t 1)] (.op (some 51) .mov [(.t 2)] (.op (some 52) (.bin .xor) [(.t 50), (.t 51)] (.op (some 6) .mov [(.t 52)] (.op (some 7) .mov [(.k (.c (.bool true)))] .nil)))))) .ret) (.seq (.reg 17 false (.op (some 54) (.bin .eql) [(.t 13), (.k (.c (.int .i64 7)))] (.op (some 53) .mov [(.t 54)] .nil))) (.cond (.t 53) (.seq (.reg 18 false (.op (some 55) .mov [(.t 1)] (.op (some 56) (.conv .u64) [(.t 55)] (.op (some 57) .mov [(.t 8)] (.op (some 58) (.bin .shl) [(.t 56), (.t 57)] (.op (some 59) (.conv .i64) [(.t 58)] (.op (some 6) .mov [(.t 59)] (.op (some 7) .mov [(.k (.c (.bool true)))] .nil)))))))) .ret) (.seq (.reg 19 false (.op (some 61) (.bin .eql) [(.t 13), (.k (.c (.int .i64 8)))] (.op (some 60) .mov [(.t 61)] .nil))) (.cond (.t 60) (.seq (.reg 20 false (.op (some 62) .mov [(.t 1)] (.op (some 63) .mov [(.t 8)] (.op (some 64) (.bin .shr) [(.t 62), (.t 63)] (.op (some 6) .mov [(.t 64)] (.op (some 7) .mov [(.k (.c (.bool true)))] .nil)))))) .ret) (.seq (.reg 21 false (.op (some 66) (.bin .eql) [(.t 13), (.k (.c (.int .i64 9)))] (.op (some 65) .mov [(.t 66)] .nil))) (.cond (.t 65) (.reg 22 false (.op (some 67) .mov [(.t 1)] (.op (some 68) .mov [(.t 2)] (.op (some 69) (.bin .eql) [(.t 67), (.t 68)] (.op (some 9) .mov [(.t 69)] .nil))))) (.seq (.reg 23 false (.op (some 71) (.bin .eql) [(.t 13), (.k (.c (.int .i64 10)))] (.op (some 70) .mov [(.t 71)] .nil))) (.cond (.t 70) (.reg 24 false (.op (some 72) .mov [(.t 1)] (.op (some 73) .mov [(.t 2)] (.op (some 74) (.bin .neq) [(.t 72), (.t 73)] (.op (some 9) .mov [(.t 74)] .nil))))) (.seq (.reg 25 false (.op (some 76) (.bin .eql) [(.t 13), (.k (.c (.int .i64 11)))] (.op (some 75) .mov [(.t 76)] .nil))) (.cond (.t 75) (.reg 26 false (.op (some 77) .mov [(.t 1)] (.op (some 78) .mov [(.t 2)] (.op (some 79) (.bin .lss) [(.t 77), (.t 78)] (.op (some 9) .mov [(.t 79)] .nil))))) (.seq (.reg 4 false (.op (some 6) .mov [(.k (.c (.int .i64 0)))] (.op (some 7) .mov [(.k (.c (.bool false)))] .nil))) .ret))))))))))))))))))))))))) (.seq (.seq (.reg 27 false (.op (some 80) .mov [(.t 9)] .nil)) (.cond (.t 80) (.seq (.reg 28 false (.op (some 6) .mov [(.k (.c (.int .i64 1)))] (.op (some 7) .mov [(.k (.c (.bool true)))] .nil))) .ret) .skip)) (.seq (.reg 29 false (.op (some 6) .mov [(.k (.c (.int .i64 0)))] (.op (some 7) .mov [(.k (.c (.bool true)))] .nil))) .ret)))))) }
def q121_b1 : IC := (.seq (.seq (.reg 3 false (.op (some 11) .mov [(.t 4)] (.op (some 12) (.addr 1) [(.t 1)] (.op (some 13) (.ld (.slot 0) .any) [(.t 12)] (.op (some 14) .len [(.t 13)] (.op (some 15) (.bin .lss) [(.t 11), (.t 14)] .nil)))))) (.cond (.t 15) .skip (.exit 0))) (.seq (.blk 1 (.reg 5 false (.op (some 18) (.addr 1) [(.t 1)] (.op (some 19) (.ld (.slot 0) .any) [(.t 18)] (.op (some 20) .mov [(.t 4)] (.op (some 21) (.idxS 2) [(.t 19), (.t 20)] (.op (some 22) (.addr 0) [(.t 21)] (.op (some 23) (.ld .heap (.i .i64)) [(.t 22)] (.op (some 24) (.bin .and) [(.t 23), (.k (.c (.int .i64 255)))] (.op (some 25) (.idxA 256 1) [(.t 3), (.t 24)] (.op none (.st (.slot 1)) [(.t 25), (.k (.c (.bool true)))] .nil))))))))))) (.reg 4 false (.op (some 16) .mov [(.t 4)] (.op (some 17) (.bin .add) [(.t 16), (.k (.c (.int .i64 1)))] (.op (some 4) .mov [(.t 17)] .nil))))))
def q121_b2 : IC := (.seq (.seq (.reg 10 false (.op (some 33) .mov [(.t 6)] (.op (some 34) (.addr 2) [(.t 1)] (.op (some 35) (.ld (.slot 0) .any) [(.t 34)] (.op (some 36) .mov [(.t 5)] (.op (some 37) (.idxS 1) [(.t 35), (.t 36)] (.op (some 38) (.ld .heap .any) [(.t 37)] (.op (some 39) .len [(.t 38)] (.op (some 40) (.bin .lss) [(.t 33), (.t 39)] .nil))))))))) (.cond (.t 40) .skip (.exit 4))) (.seq (.blk 5 (.reg 12 false (.op (some 43) (.addr 2) [(.t 1)] (.op (some 44) (.ld (.slot 0) .any) [(.t 43)] (.op (some 45) .mov [(.t 5)] (.op (some 46) (.idxS 1) [(.t 44), (.t 45)] (.op (some 47) (.ld .heap .any) [(.t 46)] (.op (some 48) .mov [(.t 6)] (.op (some 49) (.idxS 9) [(.t 47), (.t 48)] (.op (some 50) (.addr 2) [(.t 49)] (.op (some 51) (.ld .heap (.i .i64)) [(.t 50)] (.op (some 52) (.bin .and) [(.t 51), (.k (.c (.int .i64 255)))] (.op (some 53) (.idxA 256 1) [(.t 3), (.t 52)] (.op none (.st (.slot 1)) [(.t 53), (.k (.c (.bool true)))] .nil)))))))))))))) (.reg 11 false (.op (some 41) .mov [(.t 6)] (.op (some 42) (.bin .add) [(.t 41), (.k (.c (.int .i64 1)))] (.op (some 6) .mov [(.t 42)] .nil))))))
def q121_p3 : IC := (.reg 8 false (.op (some 31) .mov [(.t 5)] (.op (some 32) (.bin .add) [(.t 31), (.k (.c (.int .i64 1)))] (.op (some 5) .mov [(.t 32)] .nil))))
def q121_b3 : IC := (.seq (.seq (.reg 7 false (.op (some 26) .mov [(.t 5)] (.op (some 27) (.addr 2) [(.t 1)] (.op (some 28) (.ld (.slot 0) .any) [(.t 27)] (.op (some 29) .len [(.t 28)] (.op (some 30) (.bin .lss) [(.t 26), (.t 29)] .nil)))))) (.cond (.t 30) .skip (.exit 2))) (.seq (.blk 3 (.seq (.reg 9 false (.op (some 6) .mov [(.k (.c (.int .i64 0)))] .nil)) (.blk 4 (.loop [1, 3, 5, 6] [0, 1] [(5, [1, 3, 5], [0, 1])] q121_b2)))) q121_p3))
def q121_b4 : IC := (.seq (.seq (.reg 17 false (.op (some 62) .mov [(.t 8)] (.op (some 63) (.addr 3) [(.t 1)] (.op (some 64) (.addr 1) [(.t 63)] (.op (some 65) (.ld (.slot 0) .any) [(.t 64)] (.op (some 66) .mov [(.t 7)] (.op (some 67) (.idxS 1) [(.t 65), (.t 66)] (.op (some 68) (.ld .heap .any) [(.t 67)] (.op (some 69) .len [(.t 68)] (.op (some 70) (.bin .lss) [(.t 62), (.t 69)] .nil)))))))))) (.cond (.t 70) .skip (.exit 8))) (.seq (.blk 9 (.reg 19 false (.op (some 73) (.addr 3) [(.t 1)] (.op (some 74) (.addr 1) [(.t 73)] (.op (some 75) (.ld (.slot 0) .any) [(.t 74)] (.op (some 76) .mov [(.t 7)] (.op (some 77) (.idxS 1) [(.t 75), (.t 76)] (.op (some 78) (.ld .heap .any) [(.t 77)] (.op (some 79) .mov [(.t 8)] (.op (some 80) (.idxS 4) [(.t 78), (.t 79)] (.op (some 81) (.addr 2) [(.t 80)] (.op (some 82) (.ld .heap (.i .i64)) [(.t 81)] (.op (some 83) (.bin .and) [(.t 82), (.k (.c (.int .i64 255)))] (.op (some 84) (.idxA 256 1) [(.t 3), (.t 83)] (.op none (.st (.slot 1)) [(.t 84), (.k (.c (.bool true)))] .nil))))))))))))))) (.reg 18 false (.op (some 71) .mov [(.t 8)] (.op (some 72) (.bin .add) [(.t 71), (.k (.c (.int .i64 1)))] (.op (some 8) .mov [(.t 72)] .nil))))))
def q121_p5 : IC := (.reg 15 false (.op (some 60) .mov [(.t 7)] (.op (some 61) (.bin .add) [(.t 60), (.k (.c (.int .i64 1)))] (.op (some 7) .mov [(.t 61)] .nil))))
def q121_b5 : IC := (.seq (.seq (.reg 14 false (.op (some 54) .mov [(.t 7)] (.op (some 55) (.addr 3) [(.t 1)] (.op (some 56) (.addr 1) [(.t 55)] (.op (some 57) (.ld (.slot 0) .any) [(.t 56)] (.op (some 58) .len [(.t 57)] (.op (some 59) (.bin .lss) [(.t 54), (.t 58)] .nil))))))) (.cond (.t 59) .skip (.exit 6))) (.seq (.blk 7 (.seq (.reg 16 false (.op (some 8) .mov [(.k (.c (.int .i64 0)))] .nil)) (.blk 8 (.loop [1, 3, 7, 8] [0, 1] [(9, [1, 3, 7], [0, 1])] q121_b4)))) q121_p5))
def q121_b6 : IC := (.seq (.seq (.reg 22 false (.op (some 85) .mov [(.t 10)] (.op (some 86) (.bin .leq) [(.t 85), (.k (.c (.int .i32 122)))] .nil))) (.cond (.t 86) .skip (.exit 10))) (.seq (.blk 11 (.seq (.reg 24 false (.op (some 89) .mov [(.t 10)] (.op (some 90) (.idxA 256 1) [(.t 3), (.t 89)] (.op (some 91) (.ld (.slot 1) .b) [(.t 90)] .nil)))) (.cond (.t 91) (.reg 25 false (.op (some 92) .mov [(.t 9)] (.op (some 93) .mov [(.t 10)] (.op (some 94) (.conv .u8) [(.t 93)] (.op (some 95) (.lit 1 1 ([Cell.int .u8 0]) [(0, 1)]) [(.t 94)] (.op (some 96) (.app 1 1) [(.t 92), (.t 95)] (.op (some 9) .mov [(.t 96)] .nil))))))) .skip))) (.reg 23 false (.op (some 87) .mov [(.t 10)] (.op (some 88) (.bin .add) [(.t 87), (.k (.c (.int .i32 1)))] (.op (some 10) .mov [(.t 88)] .nil))))))
def q121_p6 : IC := (.seq (.reg 26 false (.op (some 97) .mov [(.t 9)] (.op (some 2) .mov [(.t 97)] .nil))) .ret)
def q121_p4 : IC := (.seq (.reg 20 false (.op (some 9) .mov [(.k (.c .nils))] .nil)) (.seq (.seq (.reg 21 false (.op (some 10) .mov [(.k (.c (.int .i32 97)))] .nil)) (.blk 10 (.loop [3, 9, 10] [1] [(11, [9], [])] q121_b6))) q121_p6))
def q121_p2 : IC := (.seq (.seq (.reg 13 false (.op (some 7) .mov [(.k (.c (.int .i64 0)))] .nil)) (.blk 6 (.loop [1, 3, 7] [0, 1] [(7, [3], [1])] q121_b5))) q121_p4)
def q121_p1 : IC := (.seq (.seq (.reg 6 false (.op (some 5) .mov [(.k (.c (.int .i64 0)))] .nil)) (.blk 2 (.loop [1, 3, 5] [0, 1] [(3, [1, 3], [0, 1])] q121_b3))) q121_p2)
def q121 : Fn := { np := 1, nt := 98, ns := 2, res := [.t 2 .any], gc := false, code := (.seq (.reg 0 false (.box 1 0 (.t 0) (.op (some 2) .mov [(.k (.c .nils))] .nil))) (.seq (.reg 1 false (.al 3 1 (List.replicate 256 (Cell.bool false)) .nil)) (.seq (.seq (.reg 2 false (.op (some 4) .mov [(.k (.c (.int .i64 0)))] .nil)) (.blk 0 (.loop [1, 3, 4] [0, 1] [(1, [1, 3], [0, 1])] q121_b1))) q121_p1))) }
end Jq

namespace Jq
open Go
structure q121_In (E : Env) : Prop where
  fn : E.fn 121 = some q121
structure q93_In (E : Env) : Prop where
  fn : E.fn 93 = some q93
end Jq

namespace Jq
open Go
def q81 : Fn := { np := 3, nt := 49, ns := 4, res := [.all (.slot 2) 6 9, .t 7 .b], gc := false, code := (.seq (.reg 0 false (.box 3 0 (.t 0) (.box 5 1 (.t 2) (.al 6 2 (List.replicate 9 (Cell.int .i64 0)) (.op (some 7) .mov [(.k (.c (.bool false)))] .nil))))) (.seq (.seq (.reg 1 true (.op (some 9) (.ldAll (.slot 0) 3) [(.t 3)] (.op (some 10) .mov [(.t 1)] (.op (some 11) (.qcall 110 [.b]) [(.t 9), (.t 10)] (.op (some 12) (.un .not) [(.t 11)] (.op (some 13) .mov [(.t 12)] (.sc 13 false (.op (some 14) (.addr 0) [(.t 5)] (.op (some 15) (.ld (.slot 1) (.i .i64)) [(.t 14)] (.op (some 16) (.bin .lss) [(.t 15), (.k (.c (.int .i64 0)))] .nil))) 16 17 true (.op (some 18) .mov [(.t 17)] (.sc 18 false (.op (some 19) (.addr 0) [(.t 5)] (.op (some 20) (.ld (.slot 1) (.i .i64)) [(.t 19)] (.op (some 21) (.addr 2) [(.t 3)] (.op (some 22) (.ld (.slot 0) .any) [(.t 21)] (.op (some 23) .mov [(.t 1)] (.op (some 24) (.idxS 1) [(.t 22), (.t 23)] (.op (some 25) (.ld .heap .any) [(.t 24)] (.op (some 26) .len [(.t 25)] (.op (some 27) (.bin .geq) [(.t 20), (.t 26)] .nil))))))))) 27 28 true .nil))))))))) (.cond (.t 28) (.seq (.reg 2 false (.op (some 29) (.build (List.replicate 9 (Cell.int .i64 0)) []) [] (.op none (.stAll (.slot 2) 9) [(.t 6), (.t 29)] (.op (some 7) .mov [(.k (.c (.bool false)))] .nil)))) .ret) .skip)) (.seq (.reg 3 true (.op (some 30) (.addr 2) [(.t 3)] (.op (some 31) (.ld (.slot 0) .any) [(.t 30)] (.op (some 32) .mov [(.t 1)] (.op (some 33) (.idxS 1) [(.t 31), (.t 32)] (.op (some 34) (.ld .heap .any) [(.t 33)] (.op (some 35) (.addr 0) [(.t 5)] (.op (some 36) (.ld (.slot 1) (.i .i64)) [(.t 35)] (.op (some 37) (.idxS 9) [(.t 34), (.t 36)] (.op (some 38) (.ldN .heap 9) [(.t 37)] (.al 8 3 (List.replicate 9 (Cell.int .i64 0)) (.op none (.stAll (.slot 3) 9) [(.t 8), (.t 38)] .nil)))))))))))) (.seq (.seq (.reg 4 false (.op (some 39) (.addr 0) [(.t 8)] (.op (some 40) (.ld (.slot 3) (.i .i64)) [(.t 39)] (.op (some 41) (.bin .eql) [(.t 40), (.k (.c (.int .i64 5)))] (.op (some 42) .mov [(.t 41)] (.sc 42 false (.op (some 43) (.addr 0) [(.t 8)] (.op (some 44) (.ld (.slot 3) (.i .i64)) [(.t 43)] (.op (some 45) (.bin .eql) [(.t 44), (.k (.c (.int .i64 6)))] .nil))) 45 46 true .nil)))))) (.cond (.t 46) (.seq (.reg 5 false (.op (some 47) (.build (List.replicate 9 (Cell.int .i64 0)) []) [] (.op none (.stAll (.slot 2) 9) [(.t 6), (.t 47)] (.op (some 7) .mov [(.k (.c (.bool false)))] .nil)))) .ret) .skip)) (.seq (.reg 6 false (.op (some 48) (.ldAll (.slot 3) 9) [(.t 8)] (.op none (.stAll (.slot 2) 9) [(.t 6), (.t 48)] (.op (some 7) .mov [(.k (.c (.bool true)))] .nil)))) .ret))))) }
def q92 : Fn := { np := 2, nt := 20, ns := 2, res := [.t 4 (.i .i64)], gc := false, code := (.seq (.reg 0 false (.box 2 0 (.t 0) (.box 3 1 (.t 1) (.op (some 4) .mov [(.k (.c (.int .i64 0)))] .nil)))) (.seq (.seq (.reg 1 false (.op (some 5) (.addr 0) [(.t 2)] (.op (some 6) (.ld (.slot 0) (.i .i64)) [(.t 5)] (.op (some 7) (.bin .geq) [(.t 6), (.k (.c (.int .i64 0)))] (.op (some 8) .mov [(.t 7)] (.sc 8 true (.op (some 9) (.addr 0) [(.t 2)] (.op (some 10) (.ld (.slot 0) (.i .i64)) [(.t 9)] (.op (some 11) (.bin .leq) [(.t 10), (.k (.c (.int .i64 3)))] .nil))) 11 12 false .nil)))))) (.cond (.t 12) (.seq (.reg 2 false (.op (some 13) (.addr 0) [(.t 2)] (.op (some 14) (.ld (.slot 0) (.i .i64)) [(.t 13)] (.op (some 15) (.addr 1) [(.t 3)] (.op (some 16) (.idxA 4 1) [(.t 15), (.t 14)] (.op (some 17) (.ld (.slot 1) (.i .i64)) [(.t 16)] (.op (some 4) .mov [(.t 17)] .nil))))))) .ret) .skip)) (.seq (.reg 3 false (.op (some 18) (.addr 1) [(.t 2)] (.op (some 19) (.ld (.slot 0) (.i .i64)) [(.t 18)] (.op (some 4) .mov [(.t 19)] .nil)))) .ret))) }
def q101_b1 : IC := (.seq (.seq (.reg 7 false (.op (some 21) .mov [(.t 6)] (.op (some 22) (.addr 1) [(.t 1)] (.op (some 23) (.ld (.slot 0) .any) [(.t 22)] (.op (some 24) .len [(.t 23)] (.op (some 25) (.bin .lss) [(.t 21), (.t 24)] .nil)))))) (.cond (.t 25) .skip (.exit 2))) (.seq (.blk 3 (.seq (.reg 9 true (.op (some 28) (.addr 1) [(.t 1)] (.op (some 29) (.ld (.slot 0) .any) [(.t 28)] (.op (some 30) .mov [(.t 6)] (.op (some 31) (.idxS 2) [(.t 29), (.t 30)] (.op (some 32) (.addr 0) [(.t 31)] (.op (some 33) (.ld .heap (.i .i64)) [(.t 32)] (.op (some 34) (.addr 0) [(.t 3)] (.op (some 35) (.ld (.slot 2) .any) [(.t 34)] (.op (some 36) .mov [(.t 4)] (.op (some 37) (.idxS 1) [(.t 35), (.t 36)] (.op (some 38) (.ld .heap (.i .u8)) [(.t 37)] (.op (some 39) (.conv .i64) [(.t 38)] (.op (some 40) (.bin .eql) [(.t 33), (.t 39)] .nil)))))))))))))) (.cond (.t 40) (.reg 10 false (.op (some 41) (.addr 1) [(.t 1)] (.op (some 42) (.ld (.slot 0) .any) [(.t 41)] (.op (some 43) .mov [(.t 6)] (.op (some 44) (.idxS 2) [(.t 42), (.t 43)] (.op (some 45) (.addr 1) [(.t 44)] (.op (some 46) (.ld .heap (.i .i64)) [(.t 45)] (.op (some 5) .mov [(.t 46)] .nil)))))))) .skip))) (.reg 8 false (.op (some 26) .mov [(.t 6)] (.op (some 27) (.bin .add) [(.t 26), (.k (.c (.int .i64 1)))] (.op (some 6) .mov [(.t 27)] .nil))))))
def q101_p3 : IC := (.reg 11 false (.op (some 47) (.addr 1) [(.t 3)] (.op (some 48) (.ld (.slot 2) .any) [(.t 47)] (.op (some 49) .mov [(.t 5)] (.op (some 50) (.lit 1 1 ([Cell.int .i64 0]) [(0, 1)]) [(.t 49)] (.op (some 51) (.app 1 8) [(.t 48), (.t 50)] (.op (some 52) (.addr 1) [(.t 3)] (.op none (.st (.slot 2)) [(.t 52), (.t 51)] .nil))))))))
def q101_p2 : IC := (.reg 4 false (.op (some 19) .mov [(.t 4)] (.op (some 20) (.bin .add) [(.t 19), (.k (.c (.int .i64 1)))] (.op (some 4) .mov [(.t 20)] .nil))))
def q101_b2 : IC := (.seq (.seq (.reg 3 false (.op (some 14) .mov [(.t 4)] (.op (some 15) (.addr 0) [(.t 3)] (.op (some 16) (.ld (.slot 2) .any) [(.t 15)] (.op (some 17) .len [(.t 16)] (.op (some 18) (.bin .lss) [(.t 14), (.t 17)] .nil)))))) (.cond (.t 18) .skip (.exit 0))) (.seq (.blk 1 (.seq (.reg 5 false (.op (some 5) .mov [(.k (.c (.int .i64 0)))] .nil)) (.seq (.seq (.reg 6 false (.op (some 6) .mov [(.k (.c (.int .i64 0)))] .nil)) (.blk 2 (.loop [1, 2, 3, 4, 5, 6] [0, 1, 2] [(3, [1, 2, 3, 4, 5], [0, 1, 2])] q101_b1))) q101_p3))) q101_p2))
def q101_b3 : IC := (.seq (.seq (.reg 17 false (.op (some 60) .mov [(.t 9)] (.op (some 61) (.addr 2) [(.t 1)] (.op (some 62) (.ld (.slot 0) .any) [(.t 61)] (.op (some 63) .mov [(.t 7)] (.op (some 64) (.idxS 1) [(.t 62), (.t 63)] (.op (some 65) (.ld .heap .any) [(.t 64)] (.op (some 66) .len [(.t 65)] (.op (some 67) (.bin .lss) [(.t 60), (.t 66)] .nil))))))))) (.cond (.t 67) .skip (.exit 6))) (.seq (.blk 7 (.seq (.reg 19 false (.op (some 70) (.addr 2) [(.t 1)] (.op (some 71) (.ld (.slot 0) .any) [(.t 70)] (.op (some 72) .mov [(.t 7)] (.op (some 73) (.idxS 1) [(.t 71), (.t 72)] (.op (some 74) (.ld .heap .any) [(.t 73)] (.op (some 75) .mov [(.t 9)] (.op (some 76) (.idxS 9) [(.t 74), (.t 75)] (.op (some 77) (.ldN .heap 9) [(.t 76)] (.al 10 3 (List.replicate 9 (Cell.int .i64 0)) (.op none (.stAll (.slot 3) 9) [(.t 10), (.t 77)] .nil))))))))))) (.seq (.seq (.reg 20 false (.op (some 78) (.addr 2) [(.t 10)] (.op (some 79) (.ld (.slot 3) (.i .i64)) [(.t 78)] (.op (some 80) (.bin .neq) [(.t 79), (.k (.c (.int .i64 0)))] .nil)))) (.cond (.t 80) (.reg 21 false (.op (some 81) (.ldAll (.slot 2) 3) [(.t 3)] (.op (some 82) (.addr 2) [(.t 10)] (.op (some 83) (.ld (.slot 3) (.i .i64)) [(.t 82)] (.op (some 84) (.call 122 [(.i .i64)]) [(.t 81), (.t 83)] (.op (some 85) (.addr 2) [(.t 10)] (.op none (.st (.slot 3)) [(.t 85), (.t 84)] .nil))))))) .skip)) (.reg 22 false (.op (some 86) .mov [(.t 8)] (.op (some 87) (.ldAll (.slot 3) 9) [(.t 10)] (.op (some 88) (.lit 9 1 (List.replicate 9 (Cell.int .i64 0)) [(0, 9)]) [(.t 87)] (.op (some 89) (.app 9 72) [(.t 86), (.t 88)] (.op (some 8) .mov [(.t 89)] .nil))))))))) (.reg 18 false (.op (some 68) .mov [(.t 9)] (.op (some 69) (.bin .add) [(.t 68), (.k (.c (.int .i64 1)))] (.op (some 9) .mov [(.t 69)] .nil))))))
def q101_p6 : IC := (.reg 23 false (.op (some 90) (.addr 2) [(.t 3)] (.op (some 91) (.ld (.slot 2) .any) [(.t 90)] (.op (some 92) .mov [(.t 8)] (.op (some 93) (.lit 1 1 ([Cell.nils]) [(0, 1)]) [(.t 92)] (.op (some 94) (.app 1 24) [(.t 91), (.t 93)] (.op (some 95) (.addr 2) [(.t 3)] (.op none (.st (.slot 2)) [(.t 95), (.t 94)] .nil))))))))
def q101_p5 : IC := (.reg 14 false (.op (some 58) .mov [(.t 7)] (.op (some 59) (.bin .add) [(.t 58), (.k (.c (.int .i64 1)))] (.op (some 7) .mov [(.t 59)] .nil))))
def q101_b4 : IC := (.seq (.seq (.reg 13 false (.op (some 53) .mov [(.t 7)] (.op (some 54) (.addr 2) [(.t 1)] (.op (some 55) (.ld (.slot 0) .any) [(.t 54)] (.op (some 56) .len [(.t 55)] (.op (some 57) (.bin .lss) [(.t 53), (.t 56)] .nil)))))) (.cond (.t 57) .skip (.exit 4))) (.seq (.blk 5 (.seq (.reg 15 false (.op (some 8) .mov [(.k (.c .nils))] .nil)) (.seq (.seq (.reg 16 false (.op (some 9) .mov [(.k (.c (.int .i64 0)))] .nil)) (.blk 6 (.loop [1, 2, 3, 7, 8, 9] [0, 1, 2] [(7, [1, 2, 3, 7, 8], [0, 1, 2])] q101_b3))) q101_p6))) q101_p5))
def q101_p4 : IC := (.seq (.reg 24 false (.op (some 96) (.ldAll (.slot 2) 3) [(.t 3)] (.op none (.stAll (.slot 1) 3) [(.t 2), (.t 96)] .nil))) .ret)
def q101_p1 : IC := (.seq (.seq (.reg 12 false (.op (some 7) .mov [(.k (.c (.int .i64 0)))] .nil)) (.blk 4 (.loop [1, 2, 3, 7] [0, 1, 2] [(5, [2, 3], [1, 2])] q101_b4))) q101_p4)
def q101 : Fn := { np := 1, nt := 97, ns := 4, res := [.all (.slot 1) 2 3], gc := false, code := (.seq (.reg 0 false (.box 1 0 (.t 0) (.al 2 1 ([Cell.nils, Cell.nils, Cell.nils]) .nil))) (.seq (.reg 1 false (.op (some 11) (.ldAll (.slot 0) 5) [(.t 1)] (.op (some 12) (.call 121 [.any]) [(.t 11)] (.op (some 13) (.build ([Cell.nils, Cell.nils, Cell.nils]) [(0, 1)]) [(.t 12)] (.al 3 2 ([Cell.nils, Cell.nils, Cell.nils]) (.op none (.stAll (.slot 2) 3) [(.t 3), (.t 13)] .nil)))))) (.seq (.seq (.reg 2 false (.op (some 4) .mov [(.k (.c (.int .i64 0)))] .nil)) (.blk 0 (.loop [1, 2, 3, 4] [0, 1, 2] [(1, [1, 2, 3], [0, 1, 2])] q101_b2))) q101_p1))) }
def q104 : Fn := { np := 2, nt := 14, ns := 2, res := [.all (.slot 1) 4 5], gc := false, code := (.seq (.reg 0 false (.box 2 0 (.t 0) (.al 4 1 ([Cell.int .i64 0, Cell.int .i64 0, Cell.int .i64 0, Cell.int .i64 0, Cell.int .i64 0]) .nil))) (.seq (.seq (.reg 1 false (.op (some 5) (.ldAll (.slot 0) 3) [(.t 2)] (.op (some 6) .mov [(.t 1)] (.op (some 7) (.call 110 [.b]) [(.t 5), (.t 6)] (.op (some 8) (.un .not) [(.t 7)] .nil))))) (.cond (.t 8) (.seq (.reg 2 false (.op (some 9) (.build ([Cell.int .i64 0, Cell.int .i64 0, Cell.int .i64 0, Cell.int .i64 0, Cell.int .i64 0]) []) [] (.op none (.stAll (.slot 1) 5) [(.t 4), (.t 9)] .nil))) .ret) .skip)) (.seq (.reg 3 false (.op (some 10) (.ldAll (.slot 0) 3) [(.t 2)] (.op (some 11) .mov [(.t 1)] (.op (some 12) (.build ([Cell.int .i64 0, Cell.int .i64 0, Cell.int .i64 0, Cell.int .i64 0, Cell.int .i64 0]) []) [] (.op (some 13) (.call 123 [.agg]) [(.t 10), (.t 11), (.t 12)] (.op none (.stAll (.slot 1) 5) [(.t 4), (.t 13)] .nil)))))) .ret))) }
def q107 : Fn := { np := 4, nt := 42, ns := 4, res := [.all (.slot 2) 8 5], gc := false, code := (.seq (.reg 0 false (.box 4 0 (.t 0) (.box 6 1 (.t 2) (.al 8 2 ([Cell.int .i64 0, Cell.int .i64 0, Cell.int .i64 0, Cell.int .i64 0, Cell.int .i64 0]) .nil)))) (.seq (.reg 1 false (.op (some 12) (.ldAll (.slot 0) 3) [(.t 4)] (.op (some 13) .mov [(.t 1)] (.op (some 14) (.ldAll (.slot 1) 5) [(.t 6)] (.op (some 15) (.call 81 [.agg, .b]) [(.t 12), (.t 13), (.t 14)] (.op (some 11) .mov [(.t 15)] (.op (some 16) (.ext 0) [(.t 11)] (.op (some 17) (.ext 1) [(.t 11)] (.al 9 3 (List.replicate 9 (Cell.int .i64 0)) (.op none (.stAll (.slot 3) 9) [(.t 9), (.t 16)] (.op (some 10) .mov [(.t 17)] .nil))))))))))) (.seq (.seq (.reg 2 false (.op (some 18) .mov [(.t 10)] (.op (some 19) (.un .not) [(.t 18)] .nil))) (.cond (.t 19) (.seq (.reg 3 false (.op (some 20) (.ldAll (.slot 1) 5) [(.t 6)] (.op none (.stAll (.slot 2) 5) [(.t 8), (.t 20)] .nil))) .ret) .skip)) (.seq (.seq (.reg 4 false (.op (some 21) (.addr 0) [(.t 9)] (.op (some 22) (.ld (.slot 3) (.i .i64)) [(.t 21)] (.op (some 23) (.bin .eql) [(.t 22), (.k (.c (.int .i64 2)))] (.op (some 24) .mov [(.t 23)] (.sc 24 false (.op (some 25) (.addr 0) [(.t 9)] (.op (some 26) (.ld (.slot 3) (.i .i64)) [(.t 25)] (.op (some 27) (.bin .eql) [(.t 26), (.k (.c (.int .i64 4)))] .nil))) 27 28 true .nil)))))) (.cond (.t 28) (.reg 5 false (.op (some 29) (.addr 1) [(.t 9)] (.op (some 30) (.ld (.slot 3) (.i .i64)) [(.t 29)] (.op (some 31) .mov [(.t 3)] (.op (some 32) (.addr 1) [(.t 6)] (.op (some 33) (.idxA 4 1) [(.t 32), (.t 30)] (.op none (.st (.slot 1)) [(.t 33), (.t 31)] .nil))))))) .skip)) (.seq (.reg 6 false (.op (some 34) (.addr 0) [(.t 6)] (.op (some 35) (.ld (.slot 1) (.i .i64)) [(.t 34)] (.op (some 36) (.bin .add) [(.t 35), (.k (.c (.int .i64 1)))] (.op (some 37) (.addr 0) [(.t 6)] (.op none (.st (.slot 1)) [(.t 37), (.t 36)] .nil)))))) (.seq (.reg 7 false (.op (some 38) (.ldAll (.slot 0) 3) [(.t 4)] (.op (some 39) .mov [(.t 1)] (.op (some 40) (.ldAll (.slot 1) 5) [(.t 6)] (.op (some 41) (.call 123 [.agg]) [(.t 38), (.t 39), (.t 40)] (.op none (.stAll (.slot 2) 5) [(.t 8), (.t 41)] .nil)))))) .ret)))))) }
def q110 : Fn := { np := 2, nt := 14, ns := 1, res := [.t 4 .b], gc := false, code := (.seq (.reg 0 false (.box 2 0 (.t 0) (.op (some 4) .mov [(.k (.c (.bool false)))] .nil))) (.seq (.reg 1 false (.op (some 5) .mov [(.t 1)] (.op (some 6) (.bin .geq) [(.t 5), (.k (.c (.int .i64 0)))] (.op (some 7) .mov [(.t 6)] (.sc 7 true (.op (some 8) .mov [(.t 1)] (.op (some 9) (.addr 2) [(.t 2)] (.op (some 10) (.ld (.slot 0) .any) [(.t 9)] (.op (some 11) .len [(.t 10)] (.op (some 12) (.bin .lss) [(.t 8), (.t 11)] .nil))))) 12 13 false (.op (some 4) .mov [(.t 13)] .nil)))))) .ret)) }
def q111 : Fn := { np := 3, nt := 45, ns := 3, res := [.all (.slot 2) 6 6], gc := false, code := (.seq (.reg 0 false (.box 3 0 (.t 0) (.box 4 1 (.t 1) (.al 6 2 ([Cell.int .i64 0, Cell.int .i64 0, Cell.int .i64 0, Cell.int .i64 0, Cell.int .i64 0, Cell.int .i64 0]) .nil)))) (.seq (.seq (.reg 1 false (.op (some 7) (.addr 0) [(.t 3)] (.op (some 8) (.ld (.slot 0) (.i .i64)) [(.t 7)] .nil))) (.blk 0 (.seq (.reg 2 false (.op (some 10) (.bin .eql) [(.t 8), (.k (.c (.int .i64 1)))] (.op (some 9) .mov [(.t 10)] .nil))) (.cond (.t 9) (.seq (.reg 3 true (.op (some 11) (.addr 2) [(.t 3)] (.op (some 12) (.ld (.slot 0) (.i .i64)) [(.t 11)] (.op (some 13) (.addr 3) [(.t 3)] (.op (some 14) (.ldN (.slot 0) 2) [(.t 13)] (.op (some 15) (.ldAll (.slot 1) 5) [(.t 4)] (.op (some 16) (.qcall 92 [(.i .i64)]) [(.t 14), (.t 15)] (.op (some 17) (.build ([Cell.int .i64 0, Cell.int .i64 0, Cell.int .i64 0, Cell.int .i64 0, Cell.int .i64 0, Cell.int .i64 0]) [(2, 1), (3, 1), (5, 1)]) [(.k (.c (.int .i64 2))), (.t 12), (.t 16)] (.op none (.stAll (.slot 2) 6) [(.t 6), (.t 17)] .nil))))))))) .ret) (.seq (.reg 4 false (.op (some 19) (.bin .eql) [(.t 8), (.k (.c (.int .i64 2)))] (.op (some 18) .mov [(.t 19)] .nil))) (.cond (.t 18) (.seq (.reg 5 false (.op (some 20) (.addr 2) [(.t 3)] (.op (some 21) (.ld (.slot 0) (.i .i64)) [(.t 20)] (.op (some 22) .mov [(.t 2)] (.op (some 23) (.build ([Cell.int .i64 0, Cell.int .i64 0, Cell.int .i64 0, Cell.int .i64 0, Cell.int .i64 0, Cell.int .i64 0]) [(2, 1), (3, 1), (4, 1)]) [(.k (.c (.int .i64 1))), (.t 21), (.t 22)] (.op none (.stAll (.slot 2) 6) [(.t 6), (.t 23)] .nil)))))) .ret) (.seq (.reg 6 false (.op (some 25) (.bin .eql) [(.t 8), (.k (.c (.int .i64 4)))] (.op (some 24) .mov [(.t 25)] .nil))) (.cond (.t 24) (.seq (.seq (.reg 7 false (.op (some 26) .mov [(.t 2)] (.op (some 27) (.addr 3) [(.t 3)] (.op (some 28) (.ldN (.slot 0) 2) [(.t 27)] (.op (some 29) (.ldAll (.slot 1) 5) [(.t 4)] (.op (some 30) (.call 92 [(.i .i64)]) [(.t 28), (.t 29)] (.op (some 31) (.bin .eql) [(.t 26), (.t 30)] .nil))))))) (.cond (.t 31) (.seq (.reg 8 true (.op (some 32) (.addr 2) [(.t 3)] (.op (some 33) (.ld (.slot 0) (.i .i64)) [(.t 32)] (.op (some 34) .mov [(.t 2)] (.op (some 35) (.addr 6) [(.t 3)] (.op (some 36) (.ldN (.slot 0) 2) [(.t 35)] (.op (some 37) (.ldAll (.slot 1) 5) [(.t 4)] (.op (some 38) (.qcall 92 [(.i .i64)]) [(.t 36), (.t 37)] (.op (some 39) (.build ([Cell.int .i64 0, Cell.int .i64 0, Cell.int .i64 0, Cell.int .i64 0, Cell.int .i64 0, Cell.int .i64 0]) [(2, 1), (3, 1), (4, 1), (5, 1)]) [(.k (.c (.int .i64 4))), (.t 33), (.t 34), (.t 38)] (.op none (.stAll (.slot 2) 6) [(.t 6), (.t 39)] .nil)))))))))) .ret) .skip)) (.seq (.reg 9 false (.op (some 40) (.addr 2) [(.t 3)] (.op (some 41) (.ld (.slot 0) (.i .i64)) [(.t 40)] (.op (some 42) .mov [(.t 2)] (.op (some 43) (.build ([Cell.int .i64 0, Cell.int .i64 0, Cell.int .i64 0, Cell.int .i64 0, Cell.int .i64 0, Cell.int .i64 0]) [(2, 1), (3, 1), (4, 1)]) [(.k (.c (.int .i64 5))), (.t 41), (.t 42)] (.op none (.stAll (.slot 2) 6) [(.t 6), (.t 43)] .nil)))))) .ret)) .skip)))))))) (.seq (.reg 10 false (.op (some 44) (.build ([Cell.int .i64 0, Cell.int .i64 0, Cell.int .i64 0, Cell.int .i64 0, Cell.int .i64 0, Cell.int .i64 0]) [(2, 1)]) [(.k (.c (.int .i64 3)))] (.op none (.stAll (.slot 2) 6) [(.t 6), (.t 44)] .nil))) .ret))) }
def q122_b1 : IC := (.seq (.seq (.reg 2 false (.op (some 6) .mov [(.t 5)] (.op (some 7) (.addr 0) [(.t 2)] (.op (some 8) (.ld (.slot 0) .any) [(.t 7)] (.op (some 9) .len [(.t 8)] (.op (some 10) (.bin .lss) [(.t 6), (.t 9)] .nil)))))) (.cond (.t 10) .skip (.exit 0))) (.seq (.blk 1 (.seq (.reg 4 false (.op (some 13) (.addr 0) [(.t 2)] (.op (some 14) (.ld (.slot 0) .any) [(.t 13)] (.op (some 15) .mov [(.t 5)] (.op (some 16) (.idxS 1) [(.t 14), (.t 15)] (.op (some 17) (.ld .heap (.i .u8)) [(.t 16)] (.op (some 18) (.conv .i64) [(.t 17)] (.op (some 19) .mov [(.t 1)] (.op (some 20) (.bin .eql) [(.t 18), (.t 19)] .nil))))))))) (.cond (.t 20) (.seq (.reg 5 false (.op (some 21) .mov [(.t 5)] (.op (some 4) .mov [(.t 21)] .nil))) .ret) .skip))) (.reg 3 false (.op (some 11) .mov [(.t 5)] (.op (some 12) (.bin .add) [(.t 11), (.k (.c (.int .i64 1)))] (.op (some 5) .mov [(.t 12)] .nil))))))
def q122_p1 : IC := (.seq (.reg 6 false (.op (some 4) .mov [(.k (.c (.int .i64 (-1))))] .nil)) .ret)
def q122 : Fn := { np := 2, nt := 22, ns := 1, res := [.t 4 (.i .i64)], gc := false, code := (.seq (.reg 0 false (.box 2 0 (.t 0) (.op (some 4) .mov [(.k (.c (.int .i64 0)))] .nil))) (.seq (.seq (.reg 1 false (.op (some 5) .mov [(.k (.c (.int .i64 0)))] .nil)) (.blk 0 (.loop [1, 2, 5] [0] [(0, [4], []), (1, [], [])] q122_b1))) q122_p1)) }
def q123_b1 : IC := (.seq (.seq (.reg 1 true (.op (some 9) (.addr 0) [(.t 5)] (.op (some 10) (.ld (.slot 1) (.i .i64)) [(.t 9)] (.op (some 11) (.addr 2) [(.t 3)] (.op (some 12) (.ld (.slot 0) .any) [(.t 11)] (.op (some 13) .mov [(.t 1)] (.op (some 14) (.idxS 1) [(.t 12), (.t 13)] (.op (some 15) (.ld .heap .any) [(.t 14)] (.op (some 16) .len [(.t 15)] (.op (some 17) (.bin .lss) [(.t 10), (.t 16)] .nil)))))))))) (.cond (.t 17) .skip (.exit 0))) (.blk 1 (.seq (.reg 2 true (.op (some 18) (.addr 2) [(.t 3)] (.op (some 19) (.ld (.slot 0) .any) [(.t 18)] (.op (some 20) .mov [(.t 1)] (.op (some 21) (.idxS 1) [(.t 19), (.t 20)] (.op (some 22) (.ld .heap .any) [(.t 21)] (.op (some 23) (.addr 0) [(.t 5)] (.op (some 24) (.ld (.slot 1) (.i .i64)) [(.t 23)] (.op (some 25) (.idxS 9) [(.t 22), (.t 24)] (.op (some 26) (.ldN .heap 9) [(.t 25)] (.al 7 3 (List.replicate 9 (Cell.int .i64 0)) (.op none (.stAll (.slot 3) 9) [(.t 7), (.t 26)] .nil)))))))))))) (.seq (.reg 3 false (.op (some 27) (.addr 0) [(.t 7)] (.op (some 28) (.ld (.slot 3) (.i .i64)) [(.t 27)] .nil))) (.blk 2 (.seq (.reg 5 false (.op (some 31) (.bin .eql) [(.t 28), (.k (.c (.int .i64 5)))] (.op (some 30) .mov [(.t 31)] .nil))) (.cond (.t 30) (.seq (.reg 6 false (.op (some 32) (.addr 3) [(.t 7)] (.op (some 33) (.ldN (.slot 3) 2) [(.t 32)] (.op (some 34) (.ldAll (.slot 1) 5) [(.t 5)] (.op (some 35) (.call 92 [(.i .i64)]) [(.t 33), (.t 34)] (.op (some 8) .mov [(.t 35)] .nil)))))) (.seq (.seq (.reg 7 false (.op (some 36) (.addr 5) [(.t 7)] (.op (some 37) (.ld (.slot 3) (.i .i64)) [(.t 36)] (.op (some 38) (.bin .neq) [(.t 37), (.k (.c (.int .i64 0)))] .nil)))) (.cond (.t 38) (.reg 8 true (.op (some 40) (.addr 5) [(.t 7)] (.op (some 41) (.ld (.slot 3) (.i .i64)) [(.t 40)] (.op (some 42) .mov [(.t 8)] (.op (some 43) (.addr 6) [(.t 7)] (.op (some 44) (.ldN (.slot 3) 2) [(.t 43)] (.op (some 45) (.ldAll (.slot 1) 5) [(.t 5)] (.op (some 46) (.qcall 92 [(.i .i64)]) [(.t 44), (.t 45)] (.op (some 47) (.qcall 93 [(.i .i64), .b]) [(.t 41), (.t 42), (.t 46)] (.op (some 39) .mov [(.t 47)] (.op (some 48) (.ext 0) [(.t 39)] (.op (some 49) (.ext 1) [(.t 39)] (.op (some 8) .mov [(.t 48)] .nil))))))))))))) .skip)) (.seq (.reg 9 false (.op (some 50) (.addr 1) [(.t 7)] (.op (some 51) (.ld (.slot 3) (.i .i64)) [(.t 50)] (.op (some 52) .mov [(.t 8)] (.op (some 53) (.addr 1) [(.t 5)] (.op (some 54) (.idxA 4 1) [(.t 53), (.t 51)] (.op none (.st (.slot 1)) [(.t 54), (.t 52)] .nil))))))) (.reg 10 false (.op (some 55) (.addr 0) [(.t 5)] (.op (some 56) (.ld (.slot 1) (.i .i64)) [(.t 55)] (.op (some 57) (.bin .add) [(.t 56), (.k (.c (.int .i64 1)))] (.op (some 58) (.addr 0) [(.t 5)] (.op none (.st (.slot 1)) [(.t 58), (.t 57)] .nil))))))))) (.seq (.reg 11 false (.op (some 60) (.bin .eql) [(.t 28), (.k (.c (.int .i64 6)))] (.op (some 59) .mov [(.t 60)] .nil))) (.cond (.t 59) (.seq (.seq (.reg 12 true (.op (some 61) (.addr 3) [(.t 7)] (.op (some 62) (.ldN (.slot 3) 2) [(.t 61)] (.op (some 63) (.ldAll (.slot 1) 5) [(.t 5)] (.op (some 64) (.qcall 92 [(.i .i64)]) [(.t 62), (.t 63)] (.op (some 65) (.addr 6) [(.t 7)] (.op (some 66) (.ldN (.slot 3) 2) [(.t 65)] (.op (some 67) (.ldAll (.slot 1) 5) [(.t 5)] (.op (some 68) (.qcall 92 [(.i .i64)]) [(.t 66), (.t 67)] (.op (some 69) (.bin .eql) [(.t 64), (.t 68)] .nil)))))))))) (.cond (.t 69) (.reg 13 false (.op (some 70) (.addr 0) [(.t 5)] (.op (some 71) (.ld (.slot 1) (.i .i64)) [(.t 70)] (.op (some 72) (.addr 8) [(.t 7)] (.op (some 73) (.ld (.slot 3) (.i .i64)) [(.t 72)] (.op (some 74) (.bin .add) [(.t 71), (.t 73)] (.op (some 75) (.addr 0) [(.t 5)] (.op none (.st (.slot 1)) [(.t 75), (.t 74)] .nil)))))))) .skip)) (.reg 14 false (.op (some 76) (.addr 0) [(.t 5)] (.op (some 77) (.ld (.slot 1) (.i .i64)) [(.t 76)] (.op (some 78) (.bin .add) [(.t 77), (.k (.c (.int .i64 1)))] (.op (some 79) (.addr 0) [(.t 5)] (.op none (.st (.slot 1)) [(.t 79), (.t 78)] .nil))))))) (.seq (.reg 4 false (.op (some 29) (.ldAll (.slot 1) 5) [(.t 5)] (.op none (.stAll (.slot 2) 5) [(.t 6), (.t 29)] .nil))) .ret))))))))))
def q123_p1 : IC := (.seq (.reg 15 false (.op (some 80) (.ldAll (.slot 1) 5) [(.t 5)] (.op none (.stAll (.slot 2) 5) [(.t 6), (.t 80)] .nil))) .ret)
def q123 : Fn := { np := 3, nt := 81, ns := 4, res := [.all (.slot 2) 6 5], gc := false, code := (.seq (.reg 0 false (.box 3 0 (.t 0) (.box 5 1 (.t 2) (.al 6 2 ([Cell.int .i64 0, Cell.int .i64 0, Cell.int .i64 0, Cell.int .i64 0, Cell.int .i64 0]) .nil)))) (.seq (.blk 0 (.loop [1, 3, 5, 6] [0, 1, 2] [(0, [6], [2]), (1, [5, 6], [1, 2])] q123_b1)) q123_p1)) }
end Jq

namespace Jq
open Go
structure q122_In (E : Env) : Prop where
  fn : E.fn 122 = some q122
structure q101_In (E : Env) : Prop where
  fn : E.fn 101 = some q101
  c121 : q121_In E
  c122 : q122_In E
structure q110_In (E : Env) : Prop where
  fn : E.fn 110 = some q110
structure q81_In (E : Env) : Prop where
  fn : E.fn 81 = some q81
  c110 : q110_In E
structure q92_In (E : Env) : Prop where
  fn : E.fn 92 = some q92
structure q123_In (E : Env) : Prop where
  fn : E.fn 123 = some q123
  c92 : q92_In E
  c93 : q93_In E
structure q104_In (E : Env) : Prop where
  fn : E.fn 104 = some q104
  c110 : q110_In E
  c123 : q123_In E
structure q107_In (E : Env) : Prop where
  fn : E.fn 107 = some q107
  c81 : q81_In E
  c123 : q123_In E
structure q111_In (E : Env) : Prop where
  fn : E.fn 111 = some q111
  c92 : q92_In E
end Jq

namespace Jq
open Go
structure q76_In (E : Env) : Prop where
  fn : E.fn 76 = some q76
  c97 : q97_In E
  c101 : q101_In E
end Jq

namespace Jq
open Go
def q180_b1 : IC := (.seq (.seq (.reg 3 false (.op (some 13) .mov [(.t 6)] (.op (some 14) (.addr 1) [(.t 2)] (.op (some 15) (.ld (.slot 0) .any) [(.t 14)] (.op (some 16) .len [(.t 15)] (.op (some 17) (.bin .lss) [(.t 13), (.t 16)] .nil)))))) (.cond (.t 17) .skip (.exit 0))) (.seq (.blk 1 (.reg 5 true (.op (some 20) .mov [(.t 5)] (.op (some 21) .mov [(.t 6)] (.op (some 22) (.addr 1) [(.t 2)] (.op (some 23) (.ld (.slot 0) .any) [(.t 22)] (.op (some 24) .mov [(.t 6)] (.op (some 25) (.idxS 1) [(.t 23), (.t 24)] (.op (some 26) (.ld .heap (.i .i64)) [(.t 25)] (.op (some 27) .nilchk [(.t 20)] (.op (some 28) (.addr 4) [(.t 27)] (.op (some 29) (.idxA 4 1) [(.t 28), (.t 21)] (.op none (.st .heap) [(.t 29), (.t 26)] .nil))))))))))))) (.reg 4 false (.op (some 18) .mov [(.t 6)] (.op (some 19) (.bin .add) [(.t 18), (.k (.c (.int .i64 1)))] (.op (some 6) .mov [(.t 19)] .nil))))))
def q180_b2 : IC := (.seq (.seq (.reg 7 false (.op (some 30) .mov [(.t 7)] (.op (some 31) (.addr 2) [(.t 2)] (.op (some 32) (.ld (.slot 0) .any) [(.t 31)] (.op (some 33) .len [(.t 32)] (.op (some 34) (.bin .lss) [(.t 30), (.t 33)] .nil)))))) (.cond (.t 34) .skip (.exit 2))) (.seq (.blk 3 (.reg 9 true (.op (some 37) .mov [(.t 5)] (.op (some 38) .mov [(.t 7)] (.op (some 39) (.ldAll (.slot 0) 3) [(.t 2)] (.op (some 40) .mov [(.t 7)] (.op (some 41) (.qcall 104 [.agg]) [(.t 39), (.t 40)] (.op (some 42) .nilchk [(.t 37)] (.op (some 43) (.addr 12) [(.t 42)] (.op (some 44) (.idxA 4 5) [(.t 43), (.t 38)] (.op none (.stN .heap 5) [(.t 44), (.t 41)] .nil))))))))))) (.reg 8 false (.op (some 35) .mov [(.t 7)] (.op (some 36) (.bin .add) [(.t 35), (.k (.c (.int .i64 1)))] (.op (some 7) .mov [(.t 36)] .nil))))))
def q180_p2 : IC := (.seq (.reg 10 false (.op (some 45) .mov [(.t 5)] (.op (some 4) .mov [(.t 45)] .nil))) .ret)
def q180_p1 : IC := (.seq (.seq (.reg 6 false (.op (some 7) .mov [(.k (.c (.int .i64 0)))] .nil)) (.blk 2 (.loop [2, 5, 7] [0] [(3, [5], [])] q180_b2))) q180_p2)
def q180 : Fn := { np := 2, nt := 46, ns := 1, res := [.t 4 .any], gc := false, code := (.seq (.reg 0 false (.box 2 0 (.t 0) (.op (some 4) .mov [(.k (.c .nilp))] .nil))) (.seq (.reg 1 false (.op (some 8) (.ldAll (.slot 0) 3) [(.t 2)] (.op (some 9) .mov [(.t 1)] (.op (some 10) (.build ([Cell.int .i64 0, Cell.int .i64 0, Cell.int .i64 0, Cell.int .i64 0]) [(0, 1), (1, 1), (2, 1), (3, 1)]) [(.k (.c (.int .i64 (-1)))), (.k (.c (.int .i64 (-1)))), (.k (.c (.int .i64 (-1)))), (.k (.c (.int .i64 (-1))))] (.op (some 11) (.build ([Cell.nils, Cell.nils, Cell.nils] ++ List.replicate 29 (Cell.int .i64 0) ++ List.replicate 5 (Cell.nils)) [(0, 3), (3, 1), (8, 4)]) [(.t 8), (.t 9), (.t 10)] (.op (some 12) .boxH [(.t 11)] (.op (some 5) .mov [(.t 12)] .nil))))))) (.seq (.seq (.reg 2 false (.op (some 6) .mov [(.k (.c (.int .i64 0)))] .nil)) (.blk 0 (.loop [2, 5, 6] [0] [(1, [2, 5], [0])] q180_b1))) q180_p1))) }
def q181_b1 : IC := (.seq (.seq (.reg 3 false (.op (some 5) .mov [(.t 4)] (.op (some 6) (.bin .lss) [(.t 5), (.k (.c (.int .i64 24)))] .nil))) (.cond (.t 6) .skip (.exit 0))) (.seq (.blk 1 (.seq (.reg 5 false (.op (some 9) .mov [(.t 0)] (.op (some 10) .mov [(.t 4)] (.op (some 11) (.call 196 [.b]) [(.t 9), (.t 10)] .nil)))) (.cond (.t 11) (.reg 6 false (.op (some 12) .mov [(.t 3)] (.op (some 13) .mov [(.t 4)] (.op (some 14) (.lit 1 1 ([Cell.int .i64 0]) [(0, 1)]) [(.t 13)] (.op (some 15) (.app 1 8) [(.t 12), (.t 14)] (.op (some 3) .mov [(.t 15)] .nil)))))) .skip))) (.reg 4 false (.op (some 7) .mov [(.t 4)] (.op (some 8) (.bin .add) [(.t 7), (.k (.c (.int .i64 1)))] (.op (some 4) .mov [(.t 8)] .nil))))))
def q181_p1 : IC := (.seq (.reg 7 false (.op (some 16) .mov [(.t 3)] (.op (some 2) .mov [(.t 16)] .nil))) .ret)
def q181 : Fn := { np := 1, nt := 17, ns := 0, res := [.t 2 .any], gc := false, code := (.seq (.reg 0 false (.op (some 2) .mov [(.k (.c .nils))] .nil)) (.seq (.reg 1 false (.op (some 3) .mov [(.k (.c .nils))] .nil)) (.seq (.seq (.reg 2 false (.op (some 4) .mov [(.k (.c (.int .i64 0)))] .nil)) (.blk 0 (.loop [0, 3, 4] [] [(1, [3], [])] q181_b1))) q181_p1))) }
def q182_p10 : IC := (.seq (.reg 12 true (.op (some 105) .mov [(.t 0)] (.op (some 106) .mov [(.t 0)] (.op (some 107) .nilchk [(.t 106)] (.op (some 108) (.addr 36) [(.t 107)] (.op (some 109) (.ld .heap .any) [(.t 108)] (.op (some 110) (.ldAll (.slot 1) 7) [(.t 7)] (.op (some 111) (.lit 7 1 (List.replicate 7 (Cell.int .i64 0)) [(0, 7)]) [(.t 110)] (.op (some 112) (.app 7 56) [(.t 109), (.t 111)] (.op (some 113) .nilchk [(.t 105)] (.op (some 114) (.addr 36) [(.t 113)] (.op none (.st .heap) [(.t 114), (.t 112)] .nil)))))))))))) (.seq (.reg 13 false (.op (some 115) (.ldAll (.slot 1) 7) [(.t 7)] (.op none (.stAll (.slot 0) 7) [(.t 4), (.t 115)] (.op (some 5) .mov [(.k (.c (.bool true)))] .nil)))) .ret))
def q182_p9 : IC := (.cut [0, 4, 7] [0, 1] [] (.reg 11 true (.op (some 93) .mov [(.t 8)] (.op (some 94) (.addr 0) [(.t 12)] (.op (some 95) (.ld (.slot 2) (.i .i64)) [(.t 94)] (.op (some 96) (.addr 1) [(.t 12)] (.op (some 97) (.ld (.slot 2) (.i .i64)) [(.t 96)] (.op (some 98) (.addr 2) [(.t 12)] (.op (some 99) (.ld (.slot 2) (.i .i64)) [(.t 98)] (.op (some 100) (.addr 1) [(.t 7)] (.op none (.st (.slot 1)) [(.t 100), (.t 93)] (.op (some 101) (.addr 2) [(.t 7)] (.op none (.st (.slot 1)) [(.t 101), (.k (.c (.int .i64 6)))] (.op (some 102) (.addr 3) [(.t 7)] (.op none (.st (.slot 1)) [(.t 102), (.t 95)] (.op (some 103) (.addr 5) [(.t 7)] (.op none (.st (.slot 1)) [(.t 103), (.t 97)] (.op (some 104) (.addr 6) [(.t 7)] (.op none (.st (.slot 1)) [(.t 104), (.t 99)] .nil)))))))))))))))))) q182_p10)
def q182_p8 : IC := (.cut [0, 4, 7, 8, 12] [0, 1, 2] [] (.reg 10 true (.op (some 77) .mov [(.t 0)] (.op (some 78) (.addr 0) [(.t 12)] (.op (some 79) (.ld (.slot 2) (.i .i64)) [(.t 78)] (.op (some 80) .mov [(.t 0)] (.op (some 81) (.addr 0) [(.t 12)] (.op (some 82) (.ld (.slot 2) (.i .i64)) [(.t 81)] (.op (some 83) (.addr 1) [(.t 12)] (.op (some 84) (.ld (.slot 2) (.i .i64)) [(.t 83)] (.op (some 85) (.addr 2) [(.t 12)] (.op (some 86) (.ld (.slot 2) (.i .i64)) [(.t 85)] (.op (some 87) .nilchk [(.t 77)] (.op (some 88) (.addr 4) [(.t 87)] (.op (some 89) (.idxA 4 1) [(.t 88), (.t 79)] (.op none (.st .heap) [(.t 89), (.t 84)] (.op (some 90) .nilchk [(.t 80)] (.op (some 91) (.addr 8) [(.t 90)] (.op (some 92) (.idxA 4 1) [(.t 91), (.t 82)] (.op none (.st .heap) [(.t 92), (.t 86)] .nil))))))))))))))))))) q182_p9)
def q182_p7 : IC := (.cut [0, 4, 7, 8, 12] [0, 1, 2] [] (.reg 9 true (.op (some 52) .mov [(.t 0)] (.op (some 53) .mov [(.t 8)] (.op (some 54) (.bslice 3 0 (([] : List Cell)) []) [] (.op (some 55) .mov [(.t 0)] (.op (some 56) .mov [(.t 8)] (.op (some 57) .nilchk [(.t 55)] (.op (some 58) (.addr 32) [(.t 57)] (.op (some 59) (.idxA 4 1) [(.t 58), (.t 56)] (.op (some 60) (.ld0 .any) [(.t 59)] (.op (some 61) .mov [(.t 11)] (.op (some 62) (.slc 3 false true) [(.t 60), (.t 61)] (.op (some 63) (.app 3 24) [(.t 54), (.t 62)] (.op (some 64) .mov [(.t 0)] (.op (some 65) .mov [(.t 8)] (.op (some 66) .nilchk [(.t 64)] (.op (some 67) (.addr 32) [(.t 66)] (.op (some 68) (.idxA 4 1) [(.t 67), (.t 65)] (.op (some 69) (.ld0 .any) [(.t 68)] (.op (some 70) .mov [(.t 11)] (.op (some 71) (.bin .add) [(.t 70), (.k (.c (.int .i64 1)))] (.op (some 72) (.slc 3 true false) [(.t 69), (.t 71)] (.op (some 73) (.app 3 24) [(.t 63), (.t 72)] (.op (some 74) .nilchk [(.t 52)] (.op (some 75) (.addr 32) [(.t 74)] (.op (some 76) (.idxA 4 1) [(.t 75), (.t 53)] (.op none (.st .heap) [(.t 76), (.t 73)] .nil))))))))))))))))))))))))))) q182_p8)
def q182_p6 : IC := (.cut [0, 4, 7, 8, 11, 12] [0, 1, 2] [] (.reg 8 false (.op (some 43) .mov [(.t 0)] (.op (some 44) .mov [(.t 8)] (.op (some 45) .nilchk [(.t 43)] (.op (some 46) (.addr 32) [(.t 45)] (.op (some 47) (.idxA 4 1) [(.t 46), (.t 44)] (.op (some 48) (.ld .heap .any) [(.t 47)] (.op (some 49) .mov [(.t 11)] (.op (some 50) (.idxS 3) [(.t 48), (.t 49)] (.op (some 51) (.ldN .heap 3) [(.t 50)] (.al 12 2 ([Cell.int .i64 0, Cell.int .i64 0, Cell.int .i64 0]) (.op none (.stAll (.slot 2) 3) [(.t 12), (.t 51)] .nil)))))))))))) q182_p7)
def q182_p5 : IC := (.seq (.reg 6 false (.op (some 38) .mov [(.t 10)] .nil)) (.cond (.t 38) (.cut [0, 4, 7, 8, 11] [0, 1] [] (.reg 7 false (.op (some 39) .mov [(.t 0)] (.op (some 40) .mov [(.t 8)] (.op (some 41) .mov [(.t 9)] (.op (some 42) (.call 198 [(.i .i64)]) [(.t 39), (.t 40), (.t 41)] (.op (some 11) .mov [(.t 42)] .nil)))))) q182_p6) .skip))
def q182_p17 : IC := (.cond (.t 177) (.reg 22 true (.op (some 178) .mov [(.t 0)] (.op (some 179) .mov [(.t 1)] (.op (some 180) .nilchk [(.t 178)] (.op (some 181) (.addr 32) [(.t 180)] (.op (some 182) (.idxA 4 1) [(.t 181), (.t 179)] (.op (some 183) (.ld .heap .any) [(.t 182)] (.op (some 184) .mov [(.t 16)] (.op (some 185) (.idxS 3) [(.t 183), (.t 184)] (.op (some 186) (.addr 1) [(.t 185)] (.op (some 187) (.ld .heap (.i .i64)) [(.t 186)] (.op (some 188) .mov [(.t 0)] (.op (some 189) .mov [(.t 1)] (.op (some 190) .nilchk [(.t 188)] (.op (some 191) (.addr 32) [(.t 190)] (.op (some 192) (.idxA 4 1) [(.t 191), (.t 189)] (.op (some 193) (.ld .heap .any) [(.t 192)] (.op (some 194) .mov [(.t 16)] (.op (some 195) (.idxS 3) [(.t 193), (.t 194)] (.op (some 196) (.addr 2) [(.t 195)] (.op (some 197) (.ld .heap (.i .i64)) [(.t 196)] (.op (some 15) .mov [(.t 187)] (.op (some 198) (.addr 6) [(.t 7)] (.op none (.st (.slot 1)) [(.t 198), (.t 197)] .nil)))))))))))))))))))))))) .skip)
def q182_p16 : IC := (.reg 20 false (.op (some 163) .mov [(.t 16)] (.op (some 164) (.bin .add) [(.t 163), (.k (.c (.int .i64 1)))] (.op (some 16) .mov [(.t 164)] .nil))))
def q182_p15 : IC := (.seq (.blk 1 (.cut [0, 1, 4, 6, 7, 13, 15, 16, 177] [0, 1, 3] [] (.reg 21 true (.op (some 165) .mov [(.t 0)] (.op (some 166) .mov [(.t 1)] (.op (some 167) .nilchk [(.t 165)] (.op (some 168) (.addr 32) [(.t 167)] (.op (some 169) (.idxA 4 1) [(.t 168), (.t 166)] (.op (some 170) (.ld .heap .any) [(.t 169)] (.op (some 171) .mov [(.t 16)] (.op (some 172) (.idxS 3) [(.t 170), (.t 171)] (.op (some 173) (.addr 0) [(.t 172)] (.op (some 174) (.ld .heap (.i .i64)) [(.t 173)] (.op (some 175) (.addr 2) [(.t 13)] (.op (some 176) (.ld (.slot 3) (.i .i64)) [(.t 175)] (.op (some 177) (.bin .eql) [(.t 174), (.t 176)] .nil)))))))))))))) q182_p17)) q182_p16)
def q182_b1 : IC := (.cut [0, 1, 4, 6, 7, 13, 15, 16] [0, 1, 3] [(1, [0, 1, 4, 6, 7, 13, 15], [0, 1, 3])] (.seq (.reg 19 false (.op (some 154) .mov [(.t 16)] (.op (some 155) .mov [(.t 0)] (.op (some 156) .mov [(.t 1)] (.op (some 157) .nilchk [(.t 155)] (.op (some 158) (.addr 32) [(.t 157)] (.op (some 159) (.idxA 4 1) [(.t 158), (.t 156)] (.op (some 160) (.ld .heap .any) [(.t 159)] (.op (some 161) .len [(.t 160)] (.op (some 162) (.bin .lss) [(.t 154), (.t 161)] .nil)))))))))) (.cond (.t 162) .skip (.exit 0))) q182_p15)
def q182_p14 : IC := (.seq (.reg 18 false (.op (some 16) .mov [(.k (.c (.int .i64 0)))] .nil)) (.blk 0 (.loop [0, 1, 4, 6, 7, 13, 15, 16] [0, 1, 3] [(1, [0, 1, 4, 6, 7, 13, 15], [0, 1, 3])] q182_b1)))
def q182_p13 : IC := (.cond (.t 138) (.cut [0, 1, 4, 6, 7, 13, 15] [0, 1, 3] [] (.reg 17 true (.op (some 139) .mov [(.t 0)] (.op (some 140) (.addr 2) [(.t 13)] (.op (some 141) (.ld (.slot 3) (.i .i64)) [(.t 140)] (.op (some 142) .nilchk [(.t 139)] (.op (some 143) (.addr 4) [(.t 142)] (.op (some 144) (.idxA 4 1) [(.t 143), (.t 141)] (.op (some 145) (.ld .heap (.i .i64)) [(.t 144)] (.op (some 146) .mov [(.t 0)] (.op (some 147) (.addr 2) [(.t 13)] (.op (some 148) (.ld (.slot 3) (.i .i64)) [(.t 147)] (.op (some 149) .nilchk [(.t 146)] (.op (some 150) (.addr 8) [(.t 149)] (.op (some 151) (.idxA 4 1) [(.t 150), (.t 148)] (.op (some 152) (.ld .heap (.i .i64)) [(.t 151)] (.op (some 15) .mov [(.t 145)] (.op (some 153) (.addr 6) [(.t 7)] (.op none (.st (.slot 1)) [(.t 153), (.t 152)] .nil)))))))))))))))))) q182_p14) .skip)
def q182_p22 : IC := (.cond (.t 251) (.reg 28 true (.op (some 255) .mov [(.t 0)] (.op (some 256) .mov [(.t 1)] (.op (some 257) (.bslice 3 0 (([] : List Cell)) []) [] (.op (some 258) .mov [(.t 0)] (.op (some 259) .mov [(.t 1)] (.op (some 260) .nilchk [(.t 258)] (.op (some 261) (.addr 32) [(.t 260)] (.op (some 262) (.idxA 4 1) [(.t 261), (.t 259)] (.op (some 263) (.ld0 .any) [(.t 262)] (.op (some 264) (.app 3 24) [(.t 257), (.t 263)] (.op (some 265) (.addr 3) [(.t 17)] (.op (some 266) (.ld (.slot 4) (.i .i64)) [(.t 265)] (.op (some 267) (.addr 5) [(.t 17)] (.op (some 268) (.ld (.slot 4) (.i .i64)) [(.t 267)] (.op (some 269) .mov [(.t 6)] (.op (some 270) (.build ([Cell.int .i64 0, Cell.int .i64 0, Cell.int .i64 0]) [(0, 1), (1, 1), (2, 1)]) [(.t 266), (.t 268), (.t 269)] (.op (some 271) (.lit 3 1 ([Cell.int .i64 0, Cell.int .i64 0, Cell.int .i64 0]) [(0, 3)]) [(.t 270)] (.op (some 272) (.app 3 24) [(.t 264), (.t 271)] (.op (some 273) .nilchk [(.t 255)] (.op (some 274) (.addr 32) [(.t 273)] (.op (some 275) (.idxA 4 1) [(.t 274), (.t 256)] (.op none (.st .heap) [(.t 275), (.t 272)] .nil))))))))))))))))))))))) .skip)
def q182_p21 : IC := (.cond (.t 220) (.reg 26 true (.op (some 236) .mov [(.t 0)] (.op (some 237) (.addr 3) [(.t 17)] (.op (some 238) (.ld (.slot 4) (.i .i64)) [(.t 237)] (.op (some 239) .mov [(.t 0)] (.op (some 240) (.addr 3) [(.t 17)] (.op (some 241) (.ld (.slot 4) (.i .i64)) [(.t 240)] (.op (some 242) (.addr 5) [(.t 17)] (.op (some 243) (.ld (.slot 4) (.i .i64)) [(.t 242)] (.op (some 244) .mov [(.t 6)] (.op (some 245) .nilchk [(.t 236)] (.op (some 246) (.addr 4) [(.t 245)] (.op (some 247) (.idxA 4 1) [(.t 246), (.t 238)] (.op none (.st .heap) [(.t 247), (.t 243)] (.op (some 248) .nilchk [(.t 239)] (.op (some 249) (.addr 8) [(.t 248)] (.op (some 250) (.idxA 4 1) [(.t 249), (.t 241)] (.op none (.st .heap) [(.t 250), (.t 244)] .nil)))))))))))))))))) (.cut [0, 1, 4, 6, 7, 15, 17, 251] [0, 1, 4] [] (.reg 27 false (.op (some 252) (.addr 2) [(.t 17)] (.op (some 253) (.ld (.slot 4) (.i .i64)) [(.t 252)] (.op (some 254) (.bin .eql) [(.t 253), (.k (.c (.int .i64 2)))] (.op (some 251) .mov [(.t 254)] .nil))))) q182_p22))
def q182_p23 : IC := (.seq (.reg 30 true (.op (some 294) .mov [(.t 0)] (.op (some 295) .mov [(.t 0)] (.op (some 296) .nilchk [(.t 295)] (.op (some 297) (.addr 36) [(.t 296)] (.op (some 298) (.ld .heap .any) [(.t 297)] (.op (some 299) (.ldAll (.slot 1) 7) [(.t 7)] (.op (some 300) (.lit 7 1 (List.replicate 7 (Cell.int .i64 0)) [(0, 7)]) [(.t 299)] (.op (some 301) (.app 7 56) [(.t 298), (.t 300)] (.op (some 302) .nilchk [(.t 294)] (.op (some 303) (.addr 36) [(.t 302)] (.op none (.st .heap) [(.t 303), (.t 301)] .nil)))))))))))) (.seq (.reg 31 false (.op (some 304) (.ldAll (.slot 1) 7) [(.t 7)] (.op none (.stAll (.slot 0) 7) [(.t 4), (.t 304)] (.op (some 5) .mov [(.k (.c (.bool true)))] .nil)))) .ret))
def q182_p20 : IC := (.cut [0, 4, 7] [0, 1] [] (.reg 29 true (.op (some 276) .mov [(.t 0)] (.op (some 277) .mov [(.t 1)] (.op (some 278) .mov [(.t 0)] (.op (some 279) .nilchk [(.t 278)] (.op (some 280) (.addr 0) [(.t 279)] (.op (some 281) (.ldN .heap 3) [(.t 280)] (.op (some 282) .mov [(.t 1)] (.op (some 283) .mov [(.t 0)] (.op (some 284) .mov [(.t 1)] (.op (some 285) .nilchk [(.t 283)] (.op (some 286) (.addr 12) [(.t 285)] (.op (some 287) (.idxA 4 5) [(.t 286), (.t 284)] (.op (some 288) (.ldN .heap 5) [(.t 287)] (.op (some 289) .mov [(.t 15)] (.op (some 290) (.qcall 107 [.agg]) [(.t 281), (.t 282), (.t 288), (.t 289)] (.op (some 291) .nilchk [(.t 276)] (.op (some 292) (.addr 12) [(.t 291)] (.op (some 293) (.idxA 4 5) [(.t 292), (.t 277)] (.op none (.stN .heap 5) [(.t 293), (.t 290)] .nil)))))))))))))))))))) q182_p23)
def q182_p19 : IC := (.cut [0, 1, 4, 7, 15] [0, 1] [] (.blk 2 (.cut [0, 1, 4, 6, 7, 15, 17, 220] [0, 1, 4] [] (.reg 25 false (.op (some 221) (.addr 2) [(.t 17)] (.op (some 222) (.ld (.slot 4) (.i .i64)) [(.t 221)] (.op (some 223) (.bin .eql) [(.t 222), (.k (.c (.int .i64 4)))] (.op (some 224) .mov [(.t 223)] (.sc 224 false (.op (some 225) (.addr 2) [(.t 17)] (.op (some 226) (.ld (.slot 4) (.i .i64)) [(.t 225)] (.op (some 227) (.bin .eql) [(.t 226), (.k (.c (.int .i64 2)))] (.op (some 228) .mov [(.t 227)] (.sc 228 true (.op (some 229) .mov [(.t 0)] (.op (some 230) .nilchk [(.t 229)] (.op (some 231) (.addr 3) [(.t 230)] (.op (some 232) (.ld .heap (.i .i64)) [(.t 231)] (.op (some 233) (.bin .eql) [(.t 232), (.k (.c (.int .i64 1)))] .nil))))) 233 234 false .nil))))) 234 235 true (.op (some 220) .mov [(.t 235)] .nil))))))) q182_p21)) q182_p20)
def q182_p18 : IC := (.cut [0, 1, 4, 6, 7, 15, 17] [0, 1, 4] [] (.reg 24 true (.op (some 208) (.addr 2) [(.t 17)] (.op (some 209) (.ld (.slot 4) (.i .i64)) [(.t 208)] (.op (some 210) (.addr 3) [(.t 17)] (.op (some 211) (.ld (.slot 4) (.i .i64)) [(.t 210)] (.op (some 212) (.addr 4) [(.t 17)] (.op (some 213) (.ld (.slot 4) (.i .i64)) [(.t 212)] (.op (some 214) (.addr 5) [(.t 17)] (.op (some 215) (.ld (.slot 4) (.i .i64)) [(.t 214)] (.op (some 216) (.addr 2) [(.t 7)] (.op none (.st (.slot 1)) [(.t 216), (.t 209)] (.op (some 217) (.addr 3) [(.t 7)] (.op none (.st (.slot 1)) [(.t 217), (.t 211)] (.op (some 218) (.addr 4) [(.t 7)] (.op none (.st (.slot 1)) [(.t 218), (.t 213)] (.op (some 219) (.addr 5) [(.t 7)] (.op none (.st (.slot 1)) [(.t 219), (.t 215)] .nil))))))))))))))))) q182_p19)
def q182_p12 : IC := (.cut [0, 1, 4, 6, 7, 15, 17] [0, 1, 4] [] (.reg 23 true (.op (some 199) (.ldAll (.slot 3) 9) [(.t 13)] (.op (some 200) .mov [(.t 0)] (.op (some 201) .mov [(.t 1)] (.op (some 202) .nilchk [(.t 200)] (.op (some 203) (.addr 12) [(.t 202)] (.op (some 204) (.idxA 4 5) [(.t 203), (.t 201)] (.op (some 205) (.ldN .heap 5) [(.t 204)] (.op (some 206) .mov [(.t 15)] (.op (some 207) (.qcall 111 [.agg]) [(.t 199), (.t 205), (.t 206)] (.al 17 4 ([Cell.int .i64 0, Cell.int .i64 0, Cell.int .i64 0, Cell.int .i64 0, Cell.int .i64 0, Cell.int .i64 0]) (.op none (.stAll (.slot 4) 6) [(.t 17), (.t 207)] .nil)))))))))))) q182_p18)
def q182_p11 : IC := (.seq (.reg 15 false (.op (some 15) .mov [(.k (.c (.int .i64 0)))] .nil)) (.cut [0, 1, 4, 6, 7, 13, 15] [0, 1, 3] [] (.cut [0, 1, 4, 6, 7, 13, 15, 138] [0, 1, 3] [] (.reg 16 false (.op (some 131) (.addr 0) [(.t 13)] (.op (some 132) (.ld (.slot 3) (.i .i64)) [(.t 131)] (.op (some 133) (.bin .eql) [(.t 132), (.k (.c (.int .i64 2)))] (.op (some 134) .mov [(.t 133)] (.sc 134 false (.op (some 135) (.addr 0) [(.t 13)] (.op (some 136) (.ld (.slot 3) (.i .i64)) [(.t 135)] (.op (some 137) (.bin .eql) [(.t 136), (.k (.c (.int .i64 4)))] .nil))) 137 138 true .nil)))))) q182_p13) q182_p12))
def q182_p4 : IC := (.cut [0, 1, 4, 6, 7, 13] [0, 1, 3] [] (.reg 14 true (.op (some 117) .mov [(.t 0)] (.op (some 118) .nilchk [(.t 117)] (.op (some 119) (.addr 0) [(.t 118)] (.op (some 120) (.ldN .heap 3) [(.t 119)] (.op (some 121) .mov [(.t 1)] (.op (some 122) .mov [(.t 0)] (.op (some 123) .mov [(.t 1)] (.op (some 124) .nilchk [(.t 122)] (.op (some 125) (.addr 12) [(.t 124)] (.op (some 126) (.idxA 4 5) [(.t 125), (.t 123)] (.op (some 127) (.ldN .heap 5) [(.t 126)] (.op (some 128) (.qcall 81 [.agg, .b]) [(.t 120), (.t 121), (.t 127)] (.op (some 116) .mov [(.t 128)] (.op (some 129) (.ext 0) [(.t 116)] (.op (some 130) (.ext 1) [(.t 116)] (.al 13 3 (List.replicate 9 (Cell.int .i64 0)) (.op none (.stAll (.slot 3) 9) [(.t 13), (.t 129)] (.op (some 14) .mov [(.t 130)] .nil))))))))))))))))))) q182_p11)
def q182_p3 : IC := (.cut [0, 1, 4, 6, 7] [0, 1] [(0, [4, 5], [0])] (.cut [0, 1, 4, 6, 7, 8, 9, 10] [0, 1] [] (.reg 5 false (.op (some 32) .mov [(.t 0)] (.op (some 33) .mov [(.t 1)] (.op (some 34) (.call 197 [(.i .i64), (.i .i64), .b]) [(.t 32), (.t 33)] (.op (some 31) .mov [(.t 34)] (.op (some 35) (.ext 0) [(.t 31)] (.op (some 36) (.ext 1) [(.t 31)] (.op (some 37) (.ext 2) [(.t 31)] (.op (some 8) .mov [(.t 35)] (.op (some 9) .mov [(.t 36)] (.op (some 10) .mov [(.t 37)] .nil))))))))))) q182_p5) q182_p4)
def q182_p2 : IC := (.cut [0, 1, 4, 6, 7] [0, 1] [] (.reg 4 false (.op (some 28) .mov [(.t 1)] (.op (some 29) .mov [(.t 1)] (.op (some 30) (.build (List.replicate 7 (Cell.int .i64 0)) [(0, 1), (1, 1), (6, 1)]) [(.t 28), (.t 29), (.k (.c (.int .i64 (-1))))] (.al 7 1 (List.replicate 7 (Cell.int .i64 0)) (.op none (.stAll (.slot 1) 7) [(.t 7), (.t 30)] .nil)))))) q182_p3)
def q182_p1 : IC := (.cut [0, 1, 4, 6] [0] [] (.reg 3 false (.op (some 23) .mov [(.t 0)] (.op (some 24) .nilchk [(.t 23)] (.op (some 25) (.addr 36) [(.t 24)] (.op (some 26) (.ld .heap .any) [(.t 25)] (.op (some 27) .len [(.t 26)] (.op (some 6) .mov [(.t 27)] .nil))))))) q182_p2)
def q182 : Fn := { np := 2, nt := 305, ns := 5, res := [.all (.slot 0) 4 7, .t 5 .b], gc := false, code := (.seq (.reg 0 false (.al 4 0 (List.replicate 7 (Cell.int .i64 0)) (.op (some 5) .mov [(.k (.c (.bool false)))] .nil))) (.cut [0, 1, 4] [0] [(0, [4, 5], [0])] (.seq (.reg 1 false (.op (some 18) .mov [(.t 0)] (.op (some 19) .mov [(.t 1)] (.op (some 20) (.call 196 [.b]) [(.t 18), (.t 19)] (.op (some 21) (.un .not) [(.t 20)] .nil))))) (.cond (.t 21) (.seq (.reg 2 false (.op (some 22) (.build (List.replicate 7 (Cell.int .i64 0)) []) [] (.op none (.stAll (.slot 0) 7) [(.t 4), (.t 22)] (.op (some 5) .mov [(.k (.c (.bool false)))] .nil)))) .ret) .skip)) q182_p1)) }
def q186_b1 : IC := (.seq (.seq (.reg 3 false (.op (some 15) .mov [(.t 9)] (.op (some 16) .mov [(.t 2)] (.op (some 17) .len [(.t 16)] (.op (some 18) (.bin .lss) [(.t 15), (.t 17)] .nil))))) (.cond (.t 18) .skip (.exit 0))) (.seq (.blk 1 (.seq (.reg 5 false (.op (some 22) .mov [(.t 8)] (.op (some 23) .mov [(.t 2)] (.op (some 24) .mov [(.t 9)] (.op (some 25) (.idxS 1) [(.t 23), (.t 24)] (.op (some 26) (.ld .heap (.i .i64)) [(.t 25)] (.op (some 27) (.call 182 [.agg, .b]) [(.t 22), (.t 26)] (.op (some 21) .mov [(.t 27)] (.op (some 28) (.ext 0) [(.t 21)] (.op (some 29) (.ext 1) [(.t 21)] (.al 10 1 (List.replicate 7 (Cell.int .i64 0)) (.op none (.stAll (.slot 1) 7) [(.t 10), (.t 28)] (.op (some 11) .mov [(.t 29)] .nil))))))))))))) (.seq (.reg 6 false (.op (some 30) .mov [(.t 11)] (.op (some 31) (.un .not) [(.t 30)] .nil))) (.cond (.t 31) (.seq (.reg 7 false (.op (some 32) .mov [(.t 8)] (.op (some 33) .mov [(.t 9)] (.op (some 6) .mov [(.t 32)] (.op (some 7) .mov [(.t 33)] .nil))))) .ret) .skip)))) (.reg 4 false (.op (some 19) .mov [(.t 9)] (.op (some 20) (.bin .add) [(.t 19), (.k (.c (.int .i64 1)))] (.op (some 9) .mov [(.t 20)] .nil))))))
def q186_p1 : IC := (.seq (.reg 8 false (.op (some 34) .mov [(.t 8)] (.op (some 35) .mov [(.t 2)] (.op (some 36) .len [(.t 35)] (.op (some 6) .mov [(.t 34)] (.op (some 7) .mov [(.t 36)] .nil)))))) .ret)
def q186 : Fn := { np := 3, nt := 37, ns := 2, res := [.t 6 .any, .t 7 (.i .i64)], gc := false, code := (.seq (.reg 0 false (.box 3 0 (.t 0) (.op (some 6) .mov [(.k (.c .nilp))] (.op (some 7) .mov [(.k (.c (.int .i64 0)))] .nil)))) (.seq (.reg 1 false (.op (some 12) (.ldAll (.slot 0) 3) [(.t 3)] (.op (some 13) .mov [(.t 1)] (.op (some 14) (.call 180 [.any]) [(.t 12), (.t 13)] (.op (some 8) .mov [(.t 14)] .nil))))) (.seq (.seq (.reg 2 false (.op (some 9) .mov [(.k (.c (.int .i64 0)))] .nil)) (.blk 0 (.loop [2, 8, 9] [] [(0, [6, 7], []), (1, [2, 8], [])] q186_b1))) q186_p1))) }
def q196 : Fn := { np := 2, nt := 67, ns := 1, res := [.t 4 .b], gc := false, code := (.seq (.reg 0 false (.op (some 4) .mov [(.k (.c (.bool false)))] .nil)) (.seq (.seq (.reg 1 false (.op (some 10) .mov [(.t 1)] (.op (some 11) (.bin .geq) [(.t 10), (.k (.c (.int .i64 0)))] (.op (some 12) .mov [(.t 11)] (.sc 12 true (.op (some 13) .mov [(.t 1)] (.op (some 14) (.bin .lss) [(.t 13), (.k (.c (.int .i64 4)))] .nil)) 14 15 false .nil))))) (.cond (.t 15) (.seq (.reg 2 true (.op (some 17) .mov [(.t 0)] (.op (some 18) .nilchk [(.t 17)] (.op (some 19) (.addr 0) [(.t 18)] (.op (some 20) (.ldN .heap 3) [(.t 19)] (.op (some 21) .mov [(.t 1)] (.op (some 22) .mov [(.t 0)] (.op (some 23) .mov [(.t 1)] (.op (some 24) .nilchk [(.t 22)] (.op (some 25) (.addr 12) [(.t 24)] (.op (some 26) (.idxA 4 5) [(.t 25), (.t 23)] (.op (some 27) (.ldN .heap 5) [(.t 26)] (.op (some 28) (.qcall 81 [.agg, .b]) [(.t 20), (.t 21), (.t 27)] (.op (some 16) .mov [(.t 28)] (.op (some 29) (.ext 0) [(.t 16)] (.op (some 30) (.ext 1) [(.t 16)] (.al 5 0 (List.replicate 9 (Cell.int .i64 0)) (.op none (.stAll (.slot 0) 9) [(.t 5), (.t 29)] (.op (some 6) .mov [(.t 30)] .nil))))))))))))))))))) (.seq (.reg 3 false (.op (some 31) .mov [(.t 6)] (.op (some 32) .mov [(.t 31)] (.sc 32 true (.op (some 33) (.addr 0) [(.t 5)] (.op (some 34) (.ld (.slot 0) (.i .i64)) [(.t 33)] (.op (some 35) (.bin .neq) [(.t 34), (.k (.c (.int .i64 3)))] (.op (some 36) .mov [(.t 35)] (.sc 36 true (.op (some 37) (.addr 0) [(.t 5)] (.op (some 38) (.ld (.slot 0) (.i .i64)) [(.t 37)] (.op (some 39) (.bin .neq) [(.t 38), (.k (.c (.int .i64 4)))] .nil))) 39 40 false (.op (some 41) .mov [(.t 40)] (.sc 41 false (.op (some 42) .mov [(.t 0)] (.op (some 43) .mov [(.t 1)] (.op (some 44) .nilchk [(.t 42)] (.op (some 45) (.addr 32) [(.t 44)] (.op (some 46) (.idxA 4 1) [(.t 45), (.t 43)] (.op (some 47) (.ld .heap .any) [(.t 46)] (.op (some 48) .len [(.t 47)] (.op (some 49) (.bin .eql) [(.t 48), (.k (.c (.int .i64 0)))] .nil)))))))) 49 50 true .nil))))))) 50 51 false (.op (some 4) .mov [(.t 51)] .nil))))) .ret)) .skip)) (.seq (.reg 4 false (.op (some 53) .mov [(.t 0)] (.op (some 54) .mov [(.t 1)] (.op (some 55) (.call 197 [(.i .i64), (.i .i64), .b]) [(.t 53), (.t 54)] (.op (some 52) .mov [(.t 55)] (.op (some 56) (.ext 0) [(.t 52)] (.op (some 57) (.ext 1) [(.t 52)] (.op (some 58) (.ext 2) [(.t 52)] (.op (some 7) .mov [(.t 56)] (.op (some 8) .mov [(.t 57)] (.op (some 9) .mov [(.t 58)] .nil))))))))))) (.seq (.reg 5 false (.op (some 59) .mov [(.t 9)] (.op (some 60) .mov [(.t 59)] (.sc 60 true (.op (some 61) .mov [(.t 0)] (.op (some 62) .mov [(.t 7)] (.op (some 63) .mov [(.t 8)] (.op (some 64) (.call 198 [(.i .i64)]) [(.t 61), (.t 62), (.t 63)] (.op (some 65) (.bin .geq) [(.t 64), (.k (.c (.int .i64 0)))] .nil))))) 65 66 false (.op (some 4) .mov [(.t 66)] .nil))))) .ret)))) }
def q197 : Fn := { np := 2, nt := 43, ns := 0, res := [.t 4 (.i .i64), .t 5 (.i .i64), .t 6 .b], gc := false, code := (.seq (.reg 0 false (.op (some 4) .mov [(.k (.c (.int .i64 0)))] (.op (some 5) .mov [(.k (.c (.int .i64 0)))] (.op (some 6) .mov [(.k (.c (.bool false)))] .nil)))) (.seq (.blk 0 (.seq (.reg 1 false (.op (some 8) .mov [(.t 0)] (.op (some 9) .nilchk [(.t 8)] (.op (some 10) (.addr 3) [(.t 9)] (.op (some 11) (.ld .heap (.i .i64)) [(.t 10)] (.op (some 12) (.bin .eql) [(.t 11), (.k (.c (.int .i64 2)))] (.op (some 13) .mov [(.t 12)] (.sc 13 true (.op (some 14) .mov [(.t 1)] (.op (some 15) (.bin .geq) [(.t 14), (.k (.c (.int .i64 4)))] .nil)) 15 16 false (.op (some 17) .mov [(.t 16)] (.sc 17 true (.op (some 18) .mov [(.t 1)] (.op (some 19) (.bin .lss) [(.t 18), (.k (.c (.int .i64 8)))] .nil)) 19 20 false (.op (some 7) .mov [(.t 20)] .nil))))))))))) (.cond (.t 7) (.seq (.reg 2 false (.op (some 21) .mov [(.t 1)] (.op (some 22) (.bin .sub) [(.t 21), (.k (.c (.int .i64 4)))] (.op (some 4) .mov [(.t 22)] (.op (some 5) .mov [(.k (.c (.int .i64 (-1))))] (.op (some 6) .mov [(.k (.c (.bool true)))] .nil)))))) .ret) (.seq (.reg 3 false (.op (some 24) .mov [(.t 0)] (.op (some 25) .nilchk [(.t 24)] (.op (some 26) (.addr 3) [(.t 25)] (.op (some 27) (.ld .heap (.i .i64)) [(.t 26)] (.op (some 28) (.bin .eql) [(.t 27), (.k (.c (.int .i64 3)))] (.op (some 29) .mov [(.t 28)] (.sc 29 true (.op (some 30) .mov [(.t 1)] (.op (some 31) (.bin .geq) [(.t 30), (.k (.c (.int .i64 8)))] .nil)) 31 32 false (.op (some 33) .mov [(.t 32)] (.sc 33 true (.op (some 34) .mov [(.t 1)] (.op (some 35) (.bin .lss) [(.t 34), (.k (.c (.int .i64 24)))] .nil)) 35 36 false (.op (some 23) .mov [(.t 36)] .nil))))))))))) (.cond (.t 23) (.seq (.reg 4 false (.op (some 37) .mov [(.t 1)] (.op (some 38) (.bin .sub) [(.t 37), (.k (.c (.int .i64 8)))] (.op (some 39) (.bin .quo) [(.t 38), (.k (.c (.int .i64 4)))] (.op (some 40) .mov [(.t 1)] (.op (some 41) (.bin .sub) [(.t 40), (.k (.c (.int .i64 8)))] (.op (some 42) (.bin .rem) [(.t 41), (.k (.c (.int .i64 4)))] (.op (some 4) .mov [(.t 39)] (.op (some 5) .mov [(.t 42)] (.op (some 6) .mov [(.k (.c (.bool true)))] .nil)))))))))) .ret) .skip))))) (.seq (.reg 5 false (.op (some 4) .mov [(.k (.c (.int .i64 0)))] (.op (some 5) .mov [(.k (.c (.int .i64 0)))] (.op (some 6) .mov [(.k (.c (.bool false)))] .nil)))) .ret))) }
def q198_b1 : IC := (.seq (.seq (.reg 2 false (.op (some 8) .mov [(.t 7)] (.op (some 9) .mov [(.t 0)] (.op (some 10) .mov [(.t 1)] (.op (some 11) .nilchk [(.t 9)] (.op (some 12) (.addr 32) [(.t 11)] (.op (some 13) (.idxA 4 1) [(.t 12), (.t 10)] (.op (some 14) (.ld .heap .any) [(.t 13)] (.op (some 15) .len [(.t 14)] (.op (some 16) (.bin .lss) [(.t 8), (.t 15)] .nil)))))))))) (.cond (.t 16) .skip (.exit 0))) (.seq (.blk 1 (.seq (.reg 4 false (.op (some 19) .mov [(.t 2)] (.op (some 20) (.bin .lss) [(.t 19), (.k (.c (.int .i64 0)))] (.op (some 21) .mov [(.t 20)] (.sc 21 false (.op (some 22) .mov [(.t 0)] (.op (some 23) .mov [(.t 1)] (.op (some 24) .nilchk [(.t 22)] (.op (some 25) (.addr 32) [(.t 24)] (.op (some 26) (.idxA 4 1) [(.t 25), (.t 23)] (.op (some 27) (.ld .heap .any) [(.t 26)] (.op (some 28) .mov [(.t 7)] (.op (some 29) (.idxS 3) [(.t 27), (.t 28)] (.op (some 30) (.addr 0) [(.t 29)] (.op (some 31) (.ld .heap (.i .i64)) [(.t 30)] (.op (some 32) .mov [(.t 2)] (.op (some 33) (.bin .eql) [(.t 31), (.t 32)] .nil)))))))))))) 33 34 true .nil))))) (.cond (.t 34) (.seq (.reg 5 false (.op (some 35) .mov [(.t 7)] (.op (some 6) .mov [(.t 35)] .nil))) .ret) .skip))) (.reg 3 false (.op (some 17) .mov [(.t 7)] (.op (some 18) (.bin .add) [(.t 17), (.k (.c (.int .i64 1)))] (.op (some 7) .mov [(.t 18)] .nil))))))
def q198_p1 : IC := (.seq (.reg 6 false (.op (some 6) .mov [(.k (.c (.int .i64 (-1))))] .nil)) .ret)
def q198 : Fn := { np := 3, nt := 36, ns := 0, res := [.t 6 (.i .i64)], gc := false, code := (.seq (.reg 0 false (.op (some 6) .mov [(.k (.c (.int .i64 0)))] .nil)) (.seq (.seq (.reg 1 false (.op (some 7) .mov [(.k (.c (.int .i64 0)))] .nil)) (.blk 0 (.loop [0, 1, 2, 7] [] [(0, [6], []), (1, [], [])] q198_b1))) q198_p1)) }
def q199_b1 : IC := (.seq (.seq (.reg 3 false (.op (some 10) .mov [(.t 4)] (.op (some 11) (.bin .lss) [(.t 10), (.k (.c (.int .i64 4)))] .nil))) (.cond (.t 11) .skip (.exit 0))) (.seq (.blk 1 (.reg 5 false (.op (some 14) .mov [(.t 4)] (.op (some 15) .mov [(.t 0)] (.op (some 16) .mov [(.t 4)] (.op (some 17) .nilchk [(.t 15)] (.op (some 18) (.addr 12) [(.t 17)] (.op (some 19) (.idxA 4 5) [(.t 18), (.t 16)] (.op (some 20) (.addr 1) [(.t 19)] (.op (some 21) (.ldN .heap 4) [(.t 20)] (.op (some 22) (.addr 0) [(.t 3)] (.op (some 23) (.idxA 4 4) [(.t 22), (.t 14)] (.op none (.stN (.slot 1) 4) [(.t 23), (.t 21)] .nil))))))))))))) (.reg 4 false (.op (some 12) .mov [(.t 4)] (.op (some 13) (.bin .add) [(.t 12), (.k (.c (.int .i64 1)))] (.op (some 4) .mov [(.t 13)] .nil))))))
def q199_p1 : IC := (.seq (.reg 6 false (.op (some 24) (.ldAll (.slot 1) 20) [(.t 3)] (.op none (.stAll (.slot 0) 20) [(.t 2), (.t 24)] .nil))) .ret)
def q199 : Fn := { np := 1, nt := 25, ns := 2, res := [.all (.slot 0) 2 20], gc := false, code := (.seq (.reg 0 false (.al 2 0 (List.replicate 20 (Cell.int .i64 0)) .nil)) (.seq (.reg 1 false (.op (some 5) .mov [(.t 0)] (.op (some 6) .nilchk [(.t 5)] (.op (some 7) (.addr 4) [(.t 6)] (.op (some 8) (.ldN .heap 4) [(.t 7)] (.op (some 9) (.build (List.replicate 20 (Cell.int .i64 0)) [(16, 4)]) [(.t 8)] (.al 3 1 (List.replicate 20 (Cell.int .i64 0)) (.op none (.stAll (.slot 1) 20) [(.t 3), (.t 9)] .nil)))))))) (.seq (.seq (.reg 2 false (.op (some 4) .mov [(.k (.c (.int .i64 0)))] .nil)) (.blk 0 (.loop [0, 2, 3, 4] [0, 1] [(1, [2, 3], [0, 1])] q199_b1))) q199_p1))) }
end Jq

namespace Jq
open Go
structure q180_In (E : Env) : Prop where
  fn : E.fn 180 = some q180
  c104 : q104_In E
structure q197_In (E : Env) : Prop where
  fn : E.fn 197 = some q197
structure q198_In (E : Env) : Prop where
  fn : E.fn 198 = some q198
structure q196_In (E : Env) : Prop where
  fn : E.fn 196 = some q196
  c81 : q81_In E
  c197 : q197_In E
  c198 : q198_In E
structure q181_In (E : Env) : Prop where
  fn : E.fn 181 = some q181
  c196 : q196_In E
structure q182_In (E : Env) : Prop where
  fn : E.fn 182 = some q182
  c81 : q81_In E
  c107 : q107_In E
  c111 : q111_In E
  c196 : q196_In E
  c197 : q197_In E
  c198 : q198_In E
structure q199_In (E : Env) : Prop where
  fn : E.fn 199 = some q199
structure q186_In (E : Env) : Prop where
  fn : E.fn 186 = some q186
  c180 : q180_In E
  c182 : q182_In E
end Jq

namespace Jq
open Go
def q167 : Fn := { np := 1, nt := 34, ns := 0, res := [.t 2 .s], gc := false, code := (.seq (.reg 0 false (.op (some 2) .mov [(.k (.c (.str (ByteArray.mk #[]))))] .nil)) (.seq (.blk 0 (.seq (.reg 1 false (.op (some 4) .mov [(.t 0)] (.op (some 5) (.bin .lss) [(.t 4), (.k (.c (.int .i64 0)))] (.op (some 6) .mov [(.t 5)] (.sc 6 false (.op (some 7) .mov [(.t 0)] (.op (some 8) (.bin .geq) [(.t 7), (.k (.c (.int .i64 24)))] .nil)) 8 9 true (.op (some 3) .mov [(.t 9)] .nil)))))) (.cond (.t 3) (.seq (.reg 2 false (.op (some 2) .mov [(.k (.c (.str (ByteArray.mk #[]))))] .nil)) .ret) (.seq (.reg 3 false (.op (some 11) .mov [(.t 0)] (.op (some 12) (.bin .lss) [(.t 11), (.k (.c (.int .i64 4)))] (.op (some 10) .mov [(.t 12)] .nil)))) (.cond (.t 10) (.seq (.reg 4 false (.op (some 13) .mov [(.t 0)] (.op (some 14) (.call 45 [.s]) [(.t 13)] (.op (some 15) (.bin .add) [(.k (.c (.str (ByteArray.mk #[116])))), (.t 14)] (.op (some 2) .mov [(.t 15)] .nil))))) .ret) (.seq (.reg 5 false (.op (some 17) .mov [(.t 0)] (.op (some 18) (.bin .lss) [(.t 17), (.k (.c (.int .i64 8)))] (.op (some 16) .mov [(.t 18)] .nil)))) (.cond (.t 16) (.seq (.reg 6 false (.op (some 19) .mov [(.t 0)] (.op (some 20) (.bin .sub) [(.t 19), (.k (.c (.int .i64 4)))] (.op (some 21) (.call 45 [.s]) [(.t 20)] (.op (some 22) (.bin .add) [(.k (.c (.str (ByteArray.mk #[102])))), (.t 21)] (.op (some 2) .mov [(.t 22)] .nil)))))) .ret) .skip))))))) (.seq (.reg 7 false (.op (some 23) .mov [(.t 0)] (.op (some 24) (.bin .sub) [(.t 23), (.k (.c (.int .i64 8)))] (.op (some 25) (.bin .quo) [(.t 24), (.k (.c (.int .i64 4)))] (.op (some 26) (.call 45 [.s]) [(.t 25)] (.op (some 27) (.bin .add) [(.k (.c (.str (ByteArray.mk #[102])))), (.t 26)] (.op (some 28) (.bin .add) [(.t 27), (.k (.c (.str (ByteArray.mk #[46]))))] (.op (some 29) .mov [(.t 0)] (.op (some 30) (.bin .sub) [(.t 29), (.k (.c (.int .i64 8)))] (.op (some 31) (.bin .rem) [(.t 30), (.k (.c (.int .i64 4)))] (.op (some 32) (.call 45 [.s]) [(.t 31)] (.op (some 33) (.bin .add) [(.t 28), (.t 32)] (.op (some 2) .mov [(.t 33)] .nil))))))))))))) .ret))) }
def q171_b1 : IC := (.seq (.reg 5 false (.op (some 25) (.bin .lss) [(.t 24), (.k (.c (.int .i64 4)))] .nil)) (.seq (.cond (.t 25) .skip (.exit 0)) (.seq (.blk 1 (.seq (.reg 6 false (.op (some 26) .mov [(.t 24)] (.op (some 7) .mov [(.t 26)] .nil))) (.seq (.reg 7 true (.op (some 27) .mov [(.t 6)] (.op (some 28) .mov [(.t 7)] (.op (some 29) .mov [(.t 6)] (.op (some 30) .nilchk [(.t 29)] (.op (some 31) (.addr 0) [(.t 30)] (.op (some 32) (.ldN .heap 3) [(.t 31)] (.op (some 33) .mov [(.t 7)] (.op (some 34) (.qcall 94 [.agg]) [(.t 32), (.t 33)] (.op (some 35) .nilchk [(.t 27)] (.op (some 36) (.addr 4) [(.t 35)] (.op (some 37) (.idxA 4 5) [(.t 36), (.t 28)] (.op none (.stN .heap 5) [(.t 37), (.t 34)] .nil))))))))))))) (.seq (.reg 8 true (.op (some 38) .mov [(.t 6)] (.op (some 39) .mov [(.t 7)] (.op (some 40) .mov [(.t 1)] (.op (some 41) (.qcall 190 [.agg]) [(.t 40)] (.op (some 42) .nilchk [(.t 38)] (.op (some 43) (.addr 32) [(.t 42)] (.op (some 44) (.idxA 4 74) [(.t 43), (.t 39)] (.op none (.stN .heap 74) [(.t 44), (.t 41)] .nil))))))))) (.reg 9 false (.op (some 45) .mov [(.t 6)] (.op (some 46) .mov [(.t 7)] (.op (some 47) .nilchk [(.t 45)] (.op (some 48) (.addr 28) [(.t 47)] (.op (some 49) (.idxA 4 1) [(.t 48), (.t 46)] (.op none (.st .heap) [(.t 49), (.k (.c (.int .i64 (-1))))] .nil))))))))))) (.reg 10 false (.op (some 50) (.bin .add) [(.t 24), (.k (.c (.int .i64 1)))] (.op (some 24) .mov [(.t 50)] .nil))))))
def q171_p1 : IC := (.seq (.reg 11 true (.op (some 51) .mov [(.t 6)] (.op (some 52) .nilchk [(.t 51)] (.op (some 53) (.addr 24) [(.t 52)] (.op (some 54) (.slcA 4 1 false false) [(.t 53)] (.op (some 55) (.addr 1) [(.t 2)] (.op (some 56) (.ld (.slot 0) .any) [(.t 55)] (.op (some 57) (.copy 1) [(.t 54), (.t 56)] .nil)))))))) (.seq (.reg 12 false (.op (some 58) .mov [(.t 6)] (.op (some 4) .mov [(.t 58)] (.op (some 5) .mov [(.k (.c (.int .i64 0)))] .nil)))) .ret))
def q171 : Fn := { np := 2, nt := 59, ns := 1, res := [.t 4 .any, .t 5 (.i .i64)], gc := false, code := (.seq (.reg 0 false (.box 2 0 (.t 0) (.op (some 4) .mov [(.k (.c .nilp))] (.op (some 5) .mov [(.k (.c (.int .i64 0)))] .nil)))) (.seq (.seq (.reg 1 false (.op (some 8) .mov [(.t 1)] (.op (some 9) (.bin .lss) [(.t 8), (.k (.c (.int .i64 1)))] (.op (some 10) .mov [(.t 9)] (.sc 10 false (.op (some 11) .mov [(.t 1)] (.op (some 12) (.bin .gtr) [(.t 11), (.k (.c (.int .i64 3)))] .nil)) 12 13 true (.op (some 14) .mov [(.t 13)] (.sc 14 false (.op (some 15) (.ldAll (.slot 0) 3) [(.t 2)] (.op (some 16) (.call 188 [.b]) [(.t 15)] (.op (some 17) (.un .not) [(.t 16)] .nil))) 17 18 true .nil))))))) (.cond (.t 18) (.seq (.reg 2 false (.op (some 4) .mov [(.k (.c .nilp))] (.op (some 5) .mov [(.k (.c (.int .i64 1)))] .nil))) .ret) .skip)) (.seq (.reg 3 false (.op (some 19) (.ldAll (.slot 0) 3) [(.t 2)] (.op (some 20) (.call 189 [.agg]) [(.t 19)] (.op (some 21) .mov [(.t 1)] (.op (some 22) (.build ([Cell.nils, Cell.nils, Cell.nils] ++ List.replicate 325 (Cell.int .i64 0) ++ [Cell.nils]) [(0, 3), (3, 1)]) [(.t 20), (.t 21)] (.op (some 23) .boxH [(.t 22)] (.op (some 6) .mov [(.t 23)] .nil))))))) (.seq (.seq (.reg 4 false (.op (some 24) .mov [(.k (.c (.int .i64 0)))] .nil)) (.blk 0 (.loop [1, 2, 6, 24] [0] [(1, [2, 6], [0])] q171_b1))) q171_p1)))) }
def q172_b1 : IC := (.seq (.reg 12 false (.op (some 76) (.bin .lss) [(.t 75), (.k (.c (.int .i64 4)))] .nil)) (.seq (.cond (.t 76) .skip (.exit 2)) (.seq (.blk 3 (.seq (.reg 13 false (.op (some 77) .mov [(.t 75)] (.op (some 8) .mov [(.t 77)] .nil))) (.seq (.reg 14 false (.op (some 79) .mov [(.t 0)] (.op (some 80) .mov [(.t 4)] (.op (some 81) .nilchk [(.t 79)] (.op (some 82) (.addr 32) [(.t 81)] (.op (some 83) (.idxA 4 74) [(.t 82), (.t 80)] (.op (some 84) (.ldN .heap 74) [(.t 83)] (.op (some 85) .mov [(.t 8)] (.op (some 86) (.call 192 [(.i .i64), (.i .i64), (.i .i64), .b]) [(.t 84), (.t 85)] (.op (some 78) .mov [(.t 86)] (.op (some 87) (.ext 0) [(.t 78)] (.op (some 88) (.ext 1) [(.t 78)] (.op (some 89) (.ext 2) [(.t 78)] (.op (some 90) (.ext 3) [(.t 78)] (.op (some 9) .mov [(.t 87)] (.op (some 10) .mov [(.t 88)] (.op (some 11) .mov [(.t 89)] (.op (some 12) .mov [(.t 90)] .nil)))))))))))))))))) (.seq (.reg 15 false (.op (some 91) .mov [(.t 0)] (.op (some 92) .nilchk [(.t 91)] (.op (some 93) (.addr 3) [(.t 92)] (.op (some 94) (.ld .heap (.i .i64)) [(.t 93)] (.op (some 95) (.bin .eql) [(.t 94), (.k (.c (.int .i64 3)))] (.op (some 96) .mov [(.t 95)] (.sc 96 true (.op (some 97) .mov [(.t 12)] .nil) 97 98 false .nil)))))))) (.cond (.t 98) (.reg 16 false (.op (some 99) .mov [(.t 3)] (.op (some 100) .mov [(.t 4)] (.op (some 101) (.bin .mul) [(.k (.c (.int .i64 4))), (.t 100)] (.op (some 102) (.bin .add) [(.k (.c (.int .i64 8))), (.t 101)] (.op (some 103) .mov [(.t 8)] (.op (some 104) (.bin .add) [(.t 102), (.t 103)] (.op (some 105) (.call 18 [(.i .u64)]) [(.t 99), (.t 104)] (.op (some 3) .mov [(.t 105)] .nil))))))))) .skip))))) (.reg 17 false (.op (some 106) (.bin .add) [(.t 75), (.k (.c (.int .i64 1)))] (.op (some 75) .mov [(.t 106)] .nil))))))
def q172_p3 : IC := (.seq (.seq (.reg 9 false (.op (some 56) .mov [(.t 0)] (.op (some 57) .nilchk [(.t 56)] (.op (some 58) (.addr 3) [(.t 57)] (.op (some 59) (.ld .heap (.i .i64)) [(.t 58)] (.op (some 60) (.bin .eql) [(.t 59), (.k (.c (.int .i64 2)))] (.op (some 61) .mov [(.t 60)] (.sc 61 true (.op (some 62) .mov [(.t 0)] (.op (some 63) .mov [(.t 4)] (.op (some 64) .nilchk [(.t 62)] (.op (some 65) (.addr 32) [(.t 64)] (.op (some 66) (.idxA 4 74) [(.t 65), (.t 63)] (.op (some 67) (.ldN .heap 74) [(.t 66)] (.op (some 68) (.call 191 [.b]) [(.t 67)] (.op (some 69) (.un .not) [(.t 68)] .nil)))))))) 69 70 false .nil)))))))) (.cond (.t 70) (.reg 10 false (.op (some 71) .mov [(.t 3)] (.op (some 72) .mov [(.t 4)] (.op (some 73) (.bin .add) [(.k (.c (.int .i64 4))), (.t 72)] (.op (some 74) (.call 18 [(.i .u64)]) [(.t 71), (.t 73)] (.op (some 3) .mov [(.t 74)] .nil)))))) .skip)) (.seq (.reg 11 false (.op (some 75) .mov [(.k (.c (.int .i64 0)))] .nil)) (.blk 2 (.loop [0, 3, 4, 13, 75] [] [(3, [0, 3, 13], [])] q172_b1))))
def q172_p2 : IC := (.reg 18 false (.op (some 107) (.bin .add) [(.t 13), (.k (.c (.int .i64 1)))] (.op (some 13) .mov [(.t 107)] .nil)))
def q172_b2 : IC := (.seq (.reg 3 false (.op (some 14) (.bin .lss) [(.t 13), (.k (.c (.int .i64 4)))] .nil)) (.seq (.cond (.t 14) .skip (.exit 0)) (.seq (.blk 1 (.seq (.reg 4 false (.op (some 15) .mov [(.t 13)] (.op (some 4) .mov [(.t 15)] .nil))) (.seq (.reg 5 true (.op (some 17) .mov [(.t 0)] (.op (some 18) .nilchk [(.t 17)] (.op (some 19) (.addr 0) [(.t 18)] (.op (some 20) (.ldN .heap 3) [(.t 19)] (.op (some 21) .mov [(.t 4)] (.op (some 22) .mov [(.t 0)] (.op (some 23) .mov [(.t 4)] (.op (some 24) .nilchk [(.t 22)] (.op (some 25) (.addr 4) [(.t 24)] (.op (some 26) (.idxA 4 5) [(.t 25), (.t 23)] (.op (some 27) (.ldN .heap 5) [(.t 26)] (.op (some 28) (.qcall 105 [.agg, .b]) [(.t 20), (.t 21), (.t 27)] (.op (some 16) .mov [(.t 28)] (.op (some 29) (.ext 0) [(.t 16)] (.op (some 30) (.ext 1) [(.t 16)] (.al 5 0 (List.replicate 9 (Cell.int .i64 0)) (.op none (.stAll (.slot 0) 9) [(.t 5), (.t 29)] (.op (some 6) .mov [(.t 30)] .nil))))))))))))))))))) (.seq (.reg 6 false (.op (some 31) (.addr 0) [(.t 5)] (.op (some 32) (.ld (.slot 0) (.i .i64)) [(.t 31)] (.op (some 33) (.bin .eql) [(.t 32), (.k (.c (.int .i64 3)))] (.op (some 34) .mov [(.t 33)] (.sc 34 false (.op (some 35) (.addr 0) [(.t 5)] (.op (some 36) (.ld (.slot 0) (.i .i64)) [(.t 35)] (.op (some 37) (.bin .eql) [(.t 36), (.k (.c (.int .i64 4)))] .nil))) 37 38 true (.op (some 7) .mov [(.t 38)] .nil))))))) (.cut [0, 3, 4, 13] [] [] (.seq (.reg 7 false (.op (some 39) .mov [(.t 6)] (.op (some 40) .mov [(.t 39)] (.sc 40 true (.op (some 41) .mov [(.t 7)] (.op (some 42) (.un .not) [(.t 41)] (.op (some 43) .mov [(.t 42)] (.sc 43 false (.op (some 44) .mov [(.t 0)] (.op (some 45) .mov [(.t 4)] (.op (some 46) .nilchk [(.t 44)] (.op (some 47) (.addr 32) [(.t 46)] (.op (some 48) (.idxA 4 74) [(.t 47), (.t 45)] (.op (some 49) (.ldN .heap 74) [(.t 48)] (.op (some 50) (.call 191 [.b]) [(.t 49)] .nil))))))) 50 51 true .nil)))) 51 52 false .nil)))) (.cond (.t 52) (.reg 8 false (.op (some 53) .mov [(.t 3)] (.op (some 54) .mov [(.t 4)] (.op (some 55) (.call 18 [(.i .u64)]) [(.t 53), (.t 54)] (.op (some 3) .mov [(.t 55)] .nil))))) .skip)) q172_p3))))) q172_p2)))
def q172_p1 : IC := (.seq (.reg 19 false (.op (some 108) .mov [(.t 3)] (.op (some 2) .mov [(.t 108)] .nil))) .ret)
def q172 : Fn := { np := 1, nt := 109, ns := 1, res := [.t 2 (.i .u64)], gc := false, code := (.seq (.reg 0 false (.op (some 2) .mov [(.k (.c (.int .u64 0)))] .nil)) (.seq (.reg 1 false (.op (some 3) .mov [(.k (.c (.int .u64 0)))] .nil)) (.seq (.seq (.reg 2 false (.op (some 13) .mov [(.k (.c (.int .i64 0)))] .nil)) (.blk 0 (.loop [0, 3, 13] [] [(1, [3], [])] q172_b2))) q172_p1))) }
def q173 : Fn := { np := 2, nt := 47, ns := 2, res := [.all (.slot 0) 4 7, .t 5 .b], gc := false, code := (.seq (.reg 0 false (.al 4 0 (List.replicate 7 (Cell.int .i64 0)) (.op (some 5) .mov [(.k (.c (.bool false)))] .nil))) (.seq (.seq (.reg 1 false (.op (some 7) .mov [(.t 0)] (.op (some 8) (.call 172 [(.i .u64)]) [(.t 7)] (.op (some 9) .mov [(.t 1)] (.op (some 10) (.call 17 [.b]) [(.t 8), (.t 9)] (.op (some 11) (.un .not) [(.t 10)] .nil)))))) (.cond (.t 11) (.seq (.reg 2 false (.op (some 12) (.build (List.replicate 7 (Cell.int .i64 0)) []) [] (.op none (.stAll (.slot 0) 7) [(.t 4), (.t 12)] (.op (some 5) .mov [(.k (.c (.bool false)))] .nil)))) .ret) .skip)) (.seq (.reg 3 false (.al 6 1 (List.replicate 7 (Cell.int .i64 0)) .nil)) (.seq (.blk 0 (.seq (.reg 5 false (.op (some 22) .mov [(.t 1)] (.op (some 23) (.bin .lss) [(.t 22), (.k (.c (.int .i64 4)))] (.op (some 21) .mov [(.t 23)] .nil)))) (.cond (.t 21) (.reg 6 false (.op (some 24) .mov [(.t 0)] (.op (some 25) .mov [(.t 1)] (.op (some 26) (.call 193 [.agg]) [(.t 24), (.t 25)] (.op none (.stAll (.slot 1) 7) [(.t 6), (.t 26)] .nil))))) (.seq (.reg 7 false (.op (some 28) .mov [(.t 1)] (.op (some 29) (.bin .lss) [(.t 28), (.k (.c (.int .i64 8)))] (.op (some 27) .mov [(.t 29)] .nil)))) (.cond (.t 27) (.reg 8 false (.op (some 30) .mov [(.t 0)] (.op (some 31) .mov [(.t 1)] (.op (some 32) (.bin .sub) [(.t 31), (.k (.c (.int .i64 4)))] (.op (some 33) (.call 194 [.agg]) [(.t 30), (.t 32), (.k (.c (.int .i64 0)))] (.op none (.stAll (.slot 1) 7) [(.t 6), (.t 33)] .nil)))))) (.reg 4 false (.op (some 13) .mov [(.t 0)] (.op (some 14) .mov [(.t 1)] (.op (some 15) (.bin .sub) [(.t 14), (.k (.c (.int .i64 8)))] (.op (some 16) (.bin .quo) [(.t 15), (.k (.c (.int .i64 4)))] (.op (some 17) .mov [(.t 1)] (.op (some 18) (.bin .sub) [(.t 17), (.k (.c (.int .i64 8)))] (.op (some 19) (.bin .rem) [(.t 18), (.k (.c (.int .i64 4)))] (.op (some 20) (.call 194 [.agg]) [(.t 13), (.t 16), (.t 19)] (.op none (.stAll (.slot 1) 7) [(.t 6), (.t 20)] .nil))))))))))))))) (.seq (.reg 9 false (.op (some 34) .mov [(.t 1)] (.op (some 35) (.addr 0) [(.t 6)] (.op none (.st (.slot 1)) [(.t 35), (.t 34)] .nil)))) (.seq (.reg 10 true (.op (some 36) .mov [(.t 0)] (.op (some 37) .mov [(.t 0)] (.op (some 38) .nilchk [(.t 37)] (.op (some 39) (.addr 328) [(.t 38)] (.op (some 40) (.ld .heap .any) [(.t 39)] (.op (some 41) (.ldAll (.slot 1) 7) [(.t 6)] (.op (some 42) (.lit 7 1 (List.replicate 7 (Cell.int .i64 0)) [(0, 7)]) [(.t 41)] (.op (some 43) (.app 7 56) [(.t 40), (.t 42)] (.op (some 44) .nilchk [(.t 36)] (.op (some 45) (.addr 328) [(.t 44)] (.op none (.st .heap) [(.t 45), (.t 43)] .nil)))))))))))) (.seq (.reg 11 false (.op (some 46) (.ldAll (.slot 1) 7) [(.t 6)] (.op none (.stAll (.slot 0) 7) [(.t 4), (.t 46)] (.op (some 5) .mov [(.k (.c (.bool true)))] .nil)))) .ret))))))) }
def q174 : Fn := { np := 1, nt := 6, ns := 0, res := [.t 2 .b], gc := false, code := (.seq (.reg 0 false (.op (some 2) .mov [(.k (.c (.bool false)))] .nil)) (.seq (.reg 1 false (.op (some 3) .mov [(.t 0)] (.op (some 4) (.call 172 [(.i .u64)]) [(.t 3)] (.op (some 5) (.bin .eql) [(.t 4), (.k (.c (.int .u64 0)))] (.op (some 2) .mov [(.t 5)] .nil))))) .ret)) }
def q175 : Fn := { np := 1, nt := 8, ns := 0, res := [.t 2 .any], gc := false, code := (.seq (.reg 0 false (.op (some 2) .mov [(.k (.c .nils))] .nil)) (.seq (.reg 1 false (.op (some 3) .mov [(.t 0)] (.op (some 4) .nilchk [(.t 3)] (.op (some 5) (.addr 328) [(.t 4)] (.op (some 6) (.ld .heap .any) [(.t 5)] (.op (some 7) (.call 195 [.any]) [(.t 6)] (.op (some 2) .mov [(.t 7)] .nil))))))) .ret)) }
def q179_b1 : IC := (.seq (.reg 3 false (.op (some 6) (.bin .lss) [(.t 5), (.k (.c (.int .i64 4)))] .nil)) (.seq (.cond (.t 6) .skip (.exit 0)) (.seq (.blk 1 (.seq (.reg 4 false (.op (some 7) .mov [(.t 5)] (.op (some 4) .mov [(.t 7)] .nil))) (.reg 5 false (.op (some 8) .mov [(.t 4)] (.op (some 9) .mov [(.t 0)] (.op (some 10) .mov [(.t 4)] (.op (some 11) .nilchk [(.t 9)] (.op (some 12) (.addr 4) [(.t 11)] (.op (some 13) (.idxA 4 5) [(.t 12), (.t 10)] (.op (some 14) (.addr 1) [(.t 13)] (.op (some 15) (.ldN .heap 4) [(.t 14)] (.op (some 16) (.addr 0) [(.t 3)] (.op (some 17) (.idxA 4 4) [(.t 16), (.t 8)] (.op none (.stN (.slot 1) 4) [(.t 17), (.t 15)] .nil)))))))))))))) (.reg 6 false (.op (some 18) (.bin .add) [(.t 5), (.k (.c (.int .i64 1)))] (.op (some 5) .mov [(.t 18)] .nil))))))
def q179_p1 : IC := (.seq (.reg 7 false (.op (some 19) .mov [(.t 0)] (.op (some 20) .nilchk [(.t 19)] (.op (some 21) (.addr 24) [(.t 20)] (.op (some 22) (.ldN .heap 4) [(.t 21)] (.op (some 23) (.addr 16) [(.t 3)] (.op none (.stN (.slot 1) 4) [(.t 23), (.t 22)] .nil))))))) (.seq (.reg 8 false (.op (some 24) (.ldAll (.slot 1) 20) [(.t 3)] (.op none (.stAll (.slot 0) 20) [(.t 2), (.t 24)] .nil))) .ret))
def q179 : Fn := { np := 1, nt := 25, ns := 2, res := [.all (.slot 0) 2 20], gc := false, code := (.seq (.reg 0 false (.al 2 0 (List.replicate 20 (Cell.int .i64 0)) .nil)) (.seq (.reg 1 false (.al 3 1 (List.replicate 20 (Cell.int .i64 0)) .nil)) (.seq (.seq (.reg 2 false (.op (some 5) .mov [(.k (.c (.int .i64 0)))] .nil)) (.blk 0 (.loop [0, 2, 3, 5] [0, 1] [(1, [0, 2, 3], [0, 1])] q179_b1))) q179_p1))) }
def q184 : Fn := { np := 1, nt := 13, ns := 0, res := [.t 2 .any], gc := false, code := (.seq (.reg 0 false (.op (some 2) .mov [(.k (.c .nilp))] .nil)) (.seq (.reg 1 false (.op (some 4) .mov [(.t 0)] (.op (some 5) .nilchk [(.t 4)] (.op (some 6) (.ldN .heap 329) [(.t 5)] (.op (some 3) (.allocH ([Cell.nils, Cell.nils, Cell.nils] ++ List.replicate 325 (Cell.int .i64 0) ++ [Cell.nils])) [] (.op none (.stAll .heap 329) [(.t 3), (.t 6)] .nil)))))) (.seq (.reg 2 false (.op (some 7) .mov [(.t 0)] (.op (some 8) .nilchk [(.t 7)] (.op (some 9) (.addr 328) [(.t 8)] (.op (some 10) (.ld .heap .any) [(.t 9)] (.op (some 11) (.call 195 [.any]) [(.t 10)] (.op (some 12) (.addr 328) [(.t 3)] (.op none (.st .heap) [(.t 12), (.t 11)] .nil)))))))) (.seq (.reg 3 false (.op (some 2) .mov [(.t 3)] .nil)) .ret)))) }
def q189_b1 : IC := (.seq (.reg 3 false (.op (some 17) (.bin .lss) [(.t 16), (.t 15)] .nil)) (.seq (.cond (.t 17) .skip (.exit 0)) (.seq (.blk 1 (.seq (.reg 4 false (.op (some 18) (.idxS 1) [(.t 14), (.t 16)] (.op (some 19) (.ld .heap .any) [(.t 18)] (.op (some 5) .mov [(.t 19)] .nil)))) (.reg 5 true (.op (some 20) (.addr 2) [(.t 3)] (.op (some 21) (.ld (.slot 2) .any) [(.t 20)] (.op (some 22) .mov [(.t 5)] (.op (some 23) (.call 119 [.any]) [(.t 22)] (.op (some 24) (.lit 1 1 ([Cell.nils]) [(0, 1)]) [(.t 23)] (.op (some 25) (.app 1 24) [(.t 21), (.t 24)] (.op (some 26) (.addr 2) [(.t 3)] (.op none (.st (.slot 2)) [(.t 26), (.t 25)] .nil))))))))))) (.reg 6 false (.op (some 27) (.bin .add) [(.t 16), (.k (.c (.int .i64 1)))] (.op (some 16) .mov [(.t 27)] .nil))))))
def q189_p1 : IC := (.seq (.reg 7 false (.op (some 28) (.ldAll (.slot 2) 3) [(.t 3)] (.op none (.stAll (.slot 1) 3) [(.t 2), (.t 28)] .nil))) .ret)
def q189 : Fn := { np := 1, nt := 29, ns := 3, res := [.all (.slot 1) 2 3], gc := false, code := (.seq (.reg 0 false (.box 1 0 (.t 0) (.al 2 1 ([Cell.nils, Cell.nils, Cell.nils]) .nil))) (.seq (.reg 1 true (.op (some 6) (.addr 0) [(.t 1)] (.op (some 7) (.ld (.slot 0) .any) [(.t 6)] (.op (some 8) (.call 202 [.any]) [(.t 7)] (.op (some 9) (.addr 1) [(.t 1)] (.op (some 10) (.ld (.slot 0) .any) [(.t 9)] (.op (some 11) (.call 203 [.any]) [(.t 10)] (.op (some 12) (.build ([Cell.nils, Cell.nils, Cell.nils]) [(0, 1), (1, 1)]) [(.t 8), (.t 11)] (.al 3 2 ([Cell.nils, Cell.nils, Cell.nils]) (.op none (.stAll (.slot 2) 3) [(.t 3), (.t 12)] .nil)))))))))) (.seq (.seq (.reg 2 false (.op (some 13) (.addr 2) [(.t 1)] (.op (some 14) (.ld (.slot 0) .any) [(.t 13)] (.op (some 15) .len [(.t 14)] (.op (some 16) .mov [(.k (.c (.int .i64 0)))] .nil))))) (.blk 0 (.loop [2, 3, 14, 15, 16] [1, 2] [(1, [2, 3], [1, 2])] q189_b1))) q189_p1))) }
def q193_p2 : IC := (.seq (.reg 10 false (.op (some 71) .mov [(.t 0)] (.op (some 72) .nilchk [(.t 71)] (.op (some 73) (.addr 328) [(.t 72)] (.op (some 74) (.ld .heap .any) [(.t 73)] (.op (some 75) .len [(.t 74)] (.op (some 15) .mov [(.t 75)] .nil))))))) (.seq (.blk 0 (.seq (.reg 11 false (.op (some 77) (.addr 2) [(.t 13)] (.op (some 78) (.ld (.slot 3) (.i .i64)) [(.t 77)] (.op (some 79) (.bin .eql) [(.t 78), (.k (.c (.int .i64 2)))] (.op (some 80) .mov [(.t 79)] (.sc 80 true (.op (some 81) .mov [(.t 0)] (.op (some 82) .nilchk [(.t 81)] (.op (some 83) (.addr 3) [(.t 82)] (.op (some 84) (.ld .heap (.i .i64)) [(.t 83)] (.op (some 85) (.bin .neq) [(.t 84), (.k (.c (.int .i64 1)))] .nil))))) 85 86 false (.op (some 76) .mov [(.t 86)] .nil))))))) (.cond (.t 76) (.reg 12 true (.op (some 87) .mov [(.t 0)] (.op (some 88) .mov [(.t 1)] (.op (some 89) .mov [(.t 0)] (.op (some 90) .mov [(.t 1)] (.op (some 91) .nilchk [(.t 89)] (.op (some 92) (.addr 32) [(.t 91)] (.op (some 93) (.idxA 4 74) [(.t 92), (.t 90)] (.op (some 94) (.ldN .heap 74) [(.t 93)] (.op (some 95) (.addr 3) [(.t 13)] (.op (some 96) (.ld (.slot 3) (.i .i64)) [(.t 95)] (.op (some 97) (.addr 5) [(.t 13)] (.op (some 98) (.ld (.slot 3) (.i .i64)) [(.t 97)] (.op (some 99) .mov [(.t 15)] (.op (some 100) (.qcall 206 [.agg]) [(.t 94), (.t 96), (.t 98), (.t 99)] (.op (some 101) .nilchk [(.t 87)] (.op (some 102) (.addr 32) [(.t 101)] (.op (some 103) (.idxA 4 74) [(.t 102), (.t 88)] (.op none (.stN .heap 74) [(.t 103), (.t 100)] .nil))))))))))))))))))) (.seq (.reg 13 false (.op (some 105) (.ldAll (.slot 3) 6) [(.t 13)] (.op (some 106) (.call 80 [.b]) [(.t 105)] (.op (some 104) .mov [(.t 106)] .nil)))) (.cond (.t 104) (.reg 14 true (.op (some 107) .mov [(.t 0)] (.op (some 108) (.addr 3) [(.t 13)] (.op (some 109) (.ld (.slot 3) (.i .i64)) [(.t 108)] (.op (some 110) .mov [(.t 0)] (.op (some 111) (.addr 3) [(.t 13)] (.op (some 112) (.ld (.slot 3) (.i .i64)) [(.t 111)] (.op (some 113) (.addr 5) [(.t 13)] (.op (some 114) (.ld (.slot 3) (.i .i64)) [(.t 113)] (.op (some 115) .mov [(.t 15)] (.op (some 116) .nilchk [(.t 107)] (.op (some 117) (.addr 24) [(.t 116)] (.op (some 118) (.idxA 4 1) [(.t 117), (.t 109)] (.op none (.st .heap) [(.t 118), (.t 114)] (.op (some 119) .nilchk [(.t 110)] (.op (some 120) (.addr 28) [(.t 119)] (.op (some 121) (.idxA 4 1) [(.t 120), (.t 112)] (.op none (.st .heap) [(.t 121), (.t 115)] .nil)))))))))))))))))) .skip))))) (.seq (.reg 15 true (.op (some 122) .mov [(.t 0)] (.op (some 123) .mov [(.t 1)] (.op (some 124) .mov [(.t 0)] (.op (some 125) .nilchk [(.t 124)] (.op (some 126) (.addr 0) [(.t 125)] (.op (some 127) (.ldN .heap 3) [(.t 126)] (.op (some 128) .mov [(.t 1)] (.op (some 129) (.ldAll (.slot 1) 5) [(.t 5)] (.op (some 130) .mov [(.t 8)] (.op (some 131) (.qcall 106 [.agg]) [(.t 127), (.t 128), (.t 129), (.t 130)] (.op (some 132) .nilchk [(.t 122)] (.op (some 133) (.addr 4) [(.t 132)] (.op (some 134) (.idxA 4 5) [(.t 133), (.t 123)] (.op none (.stN .heap 5) [(.t 134), (.t 131)] .nil))))))))))))))) (.seq (.reg 16 false (.op (some 135) .mov [(.t 1)] (.op (some 136) (.addr 2) [(.t 13)] (.op (some 137) (.ld (.slot 3) (.i .i64)) [(.t 136)] (.op (some 138) (.addr 3) [(.t 13)] (.op (some 139) (.ld (.slot 3) (.i .i64)) [(.t 138)] (.op (some 140) (.addr 4) [(.t 13)] (.op (some 141) (.ld (.slot 3) (.i .i64)) [(.t 140)] (.op (some 142) (.addr 5) [(.t 13)] (.op (some 143) (.ld (.slot 3) (.i .i64)) [(.t 142)] (.op (some 144) .mov [(.t 9)] (.op (some 145) (.build (List.replicate 7 (Cell.int .i64 0)) [(1, 1), (2, 1), (3, 1), (4, 1), (5, 1), (6, 1)]) [(.t 135), (.t 137), (.t 139), (.t 141), (.t 143), (.t 144)] (.op none (.stAll (.slot 0) 7) [(.t 4), (.t 145)] .nil))))))))))))) .ret))))
def q193_p1 : IC := (.seq (.reg 7 false (.op (some 63) (.ldAll (.slot 2) 9) [(.t 6)] (.op (some 64) (.ldAll (.slot 1) 5) [(.t 5)] (.op (some 65) .mov [(.t 8)] (.op (some 66) (.call 109 [.agg, .b]) [(.t 63), (.t 64), (.t 65)] (.op (some 62) .mov [(.t 66)] (.op (some 67) (.ext 0) [(.t 62)] (.op (some 68) (.ext 1) [(.t 62)] (.al 13 3 ([Cell.int .i64 0, Cell.int .i64 0, Cell.int .i64 0, Cell.int .i64 0, Cell.int .i64 0, Cell.int .i64 0]) (.op none (.stAll (.slot 3) 6) [(.t 13), (.t 67)] (.op (some 14) .mov [(.t 68)] .nil))))))))))) (.cut [0, 1, 4, 5, 8, 9, 13] [0, 1, 3] [] (.seq (.reg 8 false (.op (some 69) .mov [(.t 14)] (.op (some 70) (.un .not) [(.t 69)] .nil))) (.cond (.t 70) (.reg 9 false (.op (some 9) .mov [(.k (.c (.int .i64 (-1))))] .nil)) .skip)) q193_p2))
def q193 : Fn := { np := 2, nt := 146, ns := 4, res := [.all (.slot 0) 4 7], gc := false, code := (.seq (.reg 0 false (.al 4 0 (List.replicate 7 (Cell.int .i64 0)) .nil)) (.seq (.reg 1 false (.op (some 16) .mov [(.t 0)] (.op (some 17) .mov [(.t 1)] (.op (some 18) .nilchk [(.t 16)] (.op (some 19) (.addr 4) [(.t 18)] (.op (some 20) (.idxA 4 5) [(.t 19), (.t 17)] (.op (some 21) (.ldN .heap 5) [(.t 20)] (.al 5 1 ([Cell.int .i64 0, Cell.int .i64 0, Cell.int .i64 0, Cell.int .i64 0, Cell.int .i64 0]) (.op none (.stAll (.slot 1) 5) [(.t 5), (.t 21)] .nil))))))))) (.seq (.reg 2 true (.op (some 23) .mov [(.t 0)] (.op (some 24) .nilchk [(.t 23)] (.op (some 25) (.addr 0) [(.t 24)] (.op (some 26) (.ldN .heap 3) [(.t 25)] (.op (some 27) .mov [(.t 1)] (.op (some 28) (.ldAll (.slot 1) 5) [(.t 5)] (.op (some 29) (.qcall 105 [.agg, .b]) [(.t 26), (.t 27), (.t 28)] (.op (some 22) .mov [(.t 29)] (.op (some 30) (.ext 0) [(.t 22)] (.op (some 31) (.ext 1) [(.t 22)] (.al 6 2 (List.replicate 9 (Cell.int .i64 0)) (.op none (.stAll (.slot 2) 9) [(.t 6), (.t 30)] (.op (some 7) .mov [(.t 31)] .nil)))))))))))))) (.seq (.reg 3 true (.op (some 32) .mov [(.t 0)] (.op (some 33) (.addr 2) [(.t 6)] (.op (some 34) (.ld (.slot 2) (.i .i64)) [(.t 33)] (.op (some 35) .nilchk [(.t 32)] (.op (some 36) (.addr 24) [(.t 35)] (.op (some 37) (.idxA 4 1) [(.t 36), (.t 34)] (.op (some 38) (.ld .heap (.i .i64)) [(.t 37)] (.op (some 39) .mov [(.t 0)] (.op (some 40) (.addr 2) [(.t 6)] (.op (some 41) (.ld (.slot 2) (.i .i64)) [(.t 40)] (.op (some 42) .nilchk [(.t 39)] (.op (some 43) (.addr 28) [(.t 42)] (.op (some 44) (.idxA 4 1) [(.t 43), (.t 41)] (.op (some 45) (.ld .heap (.i .i64)) [(.t 44)] (.op (some 8) .mov [(.t 38)] (.op (some 9) .mov [(.t 45)] .nil))))))))))))))))) (.cut [0, 1, 4, 5, 6, 8, 9] [0, 1, 2] [] (.seq (.reg 4 true (.op (some 47) .mov [(.t 0)] (.op (some 48) .mov [(.t 1)] (.op (some 49) .nilchk [(.t 47)] (.op (some 50) (.addr 32) [(.t 49)] (.op (some 51) (.idxA 4 74) [(.t 50), (.t 48)] (.op (some 52) (.ldN .heap 74) [(.t 51)] (.op (some 53) (.addr 2) [(.t 6)] (.op (some 54) (.ld (.slot 2) (.i .i64)) [(.t 53)] (.op (some 55) (.qcall 205 [(.i .i64), (.i .i64), .b]) [(.t 52), (.t 54)] (.op (some 46) .mov [(.t 55)] (.op (some 56) (.ext 0) [(.t 46)] (.op (some 57) (.ext 1) [(.t 46)] (.op (some 58) (.ext 2) [(.t 46)] (.op (some 10) .mov [(.t 56)] (.op (some 11) .mov [(.t 57)] (.op (some 12) .mov [(.t 58)] .nil))))))))))))))))) (.seq (.reg 5 false (.op (some 59) .mov [(.t 12)] .nil)) (.cond (.t 59) (.reg 6 false (.op (some 60) .mov [(.t 10)] (.op (some 61) .mov [(.t 11)] (.op (some 8) .mov [(.t 60)] (.op (some 9) .mov [(.t 61)] .nil))))) .skip))) q193_p1))))) }
def q194 : Fn := { np := 3, nt := 54, ns := 1, res := [.all (.slot 0) 6 7], gc := false, code := (.seq (.reg 0 false (.al 6 0 (List.replicate 7 (Cell.int .i64 0)) .nil)) (.seq (.reg 1 false (.op (some 12) .mov [(.t 0)] (.op (some 13) .mov [(.t 1)] (.op (some 14) .nilchk [(.t 12)] (.op (some 15) (.addr 32) [(.t 14)] (.op (some 16) (.idxA 4 74) [(.t 15), (.t 13)] (.op (some 17) (.ldN .heap 74) [(.t 16)] (.op (some 18) .mov [(.t 2)] (.op (some 19) (.call 192 [(.i .i64), (.i .i64), (.i .i64), .b]) [(.t 17), (.t 18)] (.op (some 11) .mov [(.t 19)] (.op (some 20) (.ext 0) [(.t 11)] (.op (some 21) (.ext 1) [(.t 11)] (.op (some 22) (.ext 2) [(.t 11)] (.op (some 23) (.ext 3) [(.t 11)] (.op (some 7) .mov [(.t 20)] (.op (some 8) .mov [(.t 21)] (.op (some 9) .mov [(.t 22)] (.op (some 10) .mov [(.t 23)] .nil)))))))))))))))))) (.seq (.reg 2 true (.op (some 24) .mov [(.t 0)] (.op (some 25) .mov [(.t 1)] (.op (some 26) .mov [(.t 0)] (.op (some 27) .mov [(.t 1)] (.op (some 28) .nilchk [(.t 26)] (.op (some 29) (.addr 32) [(.t 28)] (.op (some 30) (.idxA 4 74) [(.t 29), (.t 27)] (.op (some 31) (.ldN .heap 74) [(.t 30)] (.op (some 32) .mov [(.t 2)] (.op (some 33) (.qcall 207 [.agg]) [(.t 31), (.t 32)] (.op (some 34) .nilchk [(.t 24)] (.op (some 35) (.addr 32) [(.t 34)] (.op (some 36) (.idxA 4 74) [(.t 35), (.t 25)] (.op none (.stN .heap 74) [(.t 36), (.t 33)] .nil))))))))))))))) (.seq (.reg 3 true (.op (some 37) .mov [(.t 0)] (.op (some 38) .mov [(.t 7)] (.op (some 39) .mov [(.t 0)] (.op (some 40) .mov [(.t 7)] (.op (some 41) .mov [(.t 8)] (.op (some 42) .mov [(.t 9)] (.op (some 43) .nilchk [(.t 37)] (.op (some 44) (.addr 24) [(.t 43)] (.op (some 45) (.idxA 4 1) [(.t 44), (.t 38)] (.op none (.st .heap) [(.t 45), (.t 41)] (.op (some 46) .nilchk [(.t 39)] (.op (some 47) (.addr 28) [(.t 46)] (.op (some 48) (.idxA 4 1) [(.t 47), (.t 40)] (.op none (.st .heap) [(.t 48), (.t 42)] .nil))))))))))))))) (.seq (.reg 4 false (.op (some 49) .mov [(.t 1)] (.op (some 50) .mov [(.t 7)] (.op (some 51) .mov [(.t 8)] (.op (some 52) .mov [(.t 9)] (.op (some 53) (.build (List.replicate 7 (Cell.int .i64 0)) [(1, 1), (2, 1), (3, 1), (5, 1), (6, 1)]) [(.t 49), (.k (.c (.int .i64 6))), (.t 50), (.t 51), (.t 52)] (.op none (.stAll (.slot 0) 7) [(.t 6), (.t 53)] .nil))))))) .ret))))) }
end Jq

namespace Jq
open Go
def q45 : Fn := { np := 1, nt := 5, ns := 0, res := [.t 2 .s], gc := false, code := (.seq (.reg 0 false (.op (some 2) .mov [(.k (.c (.str (ByteArray.mk #[]))))] .nil)) (.seq (.reg 1 false (.op (some 3) .mov [(.t 0)] (.op (some 4) (.call 46 [.s]) [(.t 3)] (.op (some 2) .mov [(.t 4)] .nil)))) .ret)) }
end Jq

namespace Jq
open Go
structure q45_In (E : Env) : Prop where
  fn : E.fn 45 = some q45
  c46 : q46_In E
end Jq

namespace Jq
open Go
structure q167_In (E : Env) : Prop where
  fn : E.fn 167 = some q167
  c45 : q45_In E
structure q189_In (E : Env) : Prop where
  fn : E.fn 189 = some q189
  c119 : q119_In E
  c202 : q202_In E
  c203 : q203_In E
structure q171_In (E : Env) : Prop where
  fn : E.fn 171 = some q171
  c94 : q94_In E
  c188 : q188_In E
  c189 : q189_In E
  c190 : q190_In E
structure q172_In (E : Env) : Prop where
  fn : E.fn 172 = some q172
  c18 : q18_In E
  c105 : q105_In E
  c191 : q191_In E
  c192 : q192_In E
structure q193_In (E : Env) : Prop where
  fn : E.fn 193 = some q193
  c80 : q80_In E
  c105 : q105_In E
  c106 : q106_In E
  c109 : q109_In E
  c205 : q205_In E
  c206 : q206_In E
structure q194_In (E : Env) : Prop where
  fn : E.fn 194 = some q194
  c192 : q192_In E
  c207 : q207_In E
structure q173_In (E : Env) : Prop where
  fn : E.fn 173 = some q173
  c17 : q17_In E
  c172 : q172_In E
  c193 : q193_In E
  c194 : q194_In E
structure q174_In (E : Env) : Prop where
  fn : E.fn 174 = some q174
  c172 : q172_In E
structure q175_In (E : Env) : Prop where
  fn : E.fn 175 = some q175
  c195 : q195_In E
structure q179_In (E : Env) : Prop where
  fn : E.fn 179 = some q179
structure q184_In (E : Env) : Prop where
  fn : E.fn 184 = some q184
  c195 : q195_In E
end Jq

namespace Jq
open Go
structure q170_In (E : Env) : Prop where
  fn : E.fn 170 = some q170
  c167 : q167_In E
  c171 : q171_In E
  c172 : q172_In E
  c173 : q173_In E
  c187 : q187_In E
structure q183_In (E : Env) : Prop where
  fn : E.fn 183 = some q183
  c32 : q32_In E
  c172 : q172_In E
  c174 : q174_In E
  c175 : q175_In E
  c179 : q179_In E
  c181 : q181_In E
  c199 : q199_In E
structure q185_In (E : Env) : Prop where
  fn : E.fn 185 = some q185
  c175 : q175_In E
structure q223_In (E : Env) : Prop where
  fn : E.fn 223 = some q223
  c32 : q32_In E
  c76 : q76_In E
  c170 : q170_In E
  c171 : q171_In E
  c172 : q172_In E
  c173 : q173_In E
  c180 : q180_In E
  c183 : q183_In E
  c184 : q184_In E
  c185 : q185_In E
  c186 : q186_In E
end Jq

namespace Jq
open Go
variable (C : CallF) (L : LoopF) (G : Glo)
set_option maxRecDepth 100000 in
theorem q17_eq (a0 a1 : Int) (h0 : AHeap) : q17.body C L G [(.c (.int .u64 a0)), (.c (.int .i64 a1))] h0 = c1 (C 19 [(.c (.int .i64 a1))] h0) fun y_2 h_1 => asI .u64 y_2 fun n_3 => some ([(.c (.bool ((G.band .u64 a0 n_3) != 0)))], h_1) := by kernel_rfl
set_option maxRecDepth 100000 in
theorem q18_eq (a0 a1 : Int) (h0 : AHeap) : q18.body C L G [(.c (.int .u64 a0)), (.c (.int .i64 a1))] h0 = c1 (C 19 [(.c (.int .i64 a1))] h0) fun y_2 h_1 => asI .u64 y_2 fun n_3 => some ([(.c (.int .u64 (G.bor .u64 a0 n_3)))], h_1) := by kernel_rfl
set_option maxRecDepth 100000 in
theorem q19_eq (a0 : Int) (h0 : AHeap) : q19.body C L G [(.c (.int .i64 a0))] h0 = scK (decide (a0 < 0)) false (some ((decide (a0 ≥ 64)), h0)) true h0 fun b_1 h_2 => if b_1 = true then some ([(.c (.int .u64 0))], h_2) else if (G.wrap .u64 a0) < 0 then none else some ([(.c (.int .u64 (G.shl .u64 1 (G.wrap .u64 a0))))], h_2) := by kernel_rfl
def q32_k2 (C : CallF) (L : LoopF) (G : Glo) (h0 : AHeap) : Ex → St → Option (List AV × AHeap) := kSeq (fun st => q32_p1.exec C L G st (q32.fin G h0)) (q32.fin G h0)
def q32_k3 (C : CallF) (L : LoopF) (G : Glo) (h0 : AHeap) : Ex → St → Option (List AV × AHeap) := kBlk 0 (q32_k2 C L G h0)
def q32_s1 (a0 : Int) (x3 : Cell) (h : AHeap) : St := ⟨.v (.c (.int .u64 a0)) :: tops 2 (.v (.c x3) :: tops 12 []), [], h⟩
def q32_F1 (C : CallF) (L : LoopF) (G : Glo) : St → Option (Ex × St) := roundF (fun st f => q32_b1.exec C L G st f) [0, 3] [] [(1, [3], [])]
def q32_x1_1 (x3 : Cell) (h : AHeap) : St := ⟨tops 3 (.v (.c x3) :: tops 12 []), [], h⟩
theorem q32_r1 (a0 : Int) (x3 : Cell) (h : AHeap) : q32_F1 C L G (q32_s1 a0 x3 h) = if (a0 != 0) = true then c1 (C 38 [(.c (.int .u64 a0))] h) fun y_2 h_1 => asI .i64 y_2 fun n_3 => if (splice [Cell.int .i64 0] 0 ([(.int .i64 n_3)] : List Cell)).length = 1 * 1 then appK 1 8 x3 (splice [Cell.int .i64 0] 0 ([(.int .i64 n_3)] : List Cell)) h_1 fun x_4 h_5 => some (.normal, (q32_s1 (G.band .u64 a0 (G.wrap .u64 (a0 - 1))) x_4 h_5)) else none else some ((.exit 0), (q32_x1_1 x3 h)) := by kernel_rfl
theorem q32_e1_1 (h0 : AHeap) (x3 : Cell) (h : AHeap) : (q32_k3 C L G h0) (.exit 0) (q32_x1_1 x3 h) = some ([(.c x3)], h) := by kernel_rfl
set_option maxRecDepth 100000 in
theorem q32_eq (a0 : Int) (h0 : AHeap) : q32.body C L G [(.c (.int .u64 a0))] h0 = (L (q32_F1 C L G) (q32_s1 a0 .nils h0)).bind fun p_6 => (q32_k3 C L G h0) p_6.1 p_6.2 := by kernel_rfl
set_option maxRecDepth 100000 in
theorem q38_eq (a0 : Int) (h0 : AHeap) : q38.body C L G [(.c (.int .u64 a0))] h0 = if (a0 == 0) = true then some ([(.c (.int .i64 (-1)))], h0) else c1 (C 42 [(.c (.int .u64 a0))] h0) fun y_2 h_1 => asI .i64 y_2 fun n_3 => some ([(.c (.int .i64 n_3))], h_1) := by kernel_rfl
end Jq

namespace Jq
open Go
def bitI (i : Int) : Nat := if 0 ≤ i ∧ i < 64 then 2 ^ i.toNat else 0
theorem bitI_lt (i : Int) : bitI i < 2 ^ 64 := by
  unfold bitI; split
  · exact Nat.pow_lt_pow_right (by omega) (by omega)
  · omega
def hasI (s : Nat) (i : Int) : Bool := decide (0 ≤ i) && s.testBit i.toNat && decide (i < 64)
theorem and_bitI {s : Nat} (i : Int) : ((s &&& bitI i) != 0) = hasI s i := by
  unfold hasI bitI
  by_cases h : 0 ≤ i ∧ i < 64
  · rw [if_pos h]
    simp only [h.1, h.2, decide_true, Bool.true_and, Bool.and_true]
    cases hb : s.testBit i.toNat with
    | true =>
      simp only [bne_iff_ne, ne_eq]
      intro h0
      have := congrArg (fun x => x.testBit i.toNat) h0
      simp [Nat.testBit_and, hb, Nat.testBit_two_pow] at this
    | false =>
      have : s &&& 2 ^ i.toNat = 0 := by
        refine Nat.eq_of_testBit_eq fun j => ?_
        rw [Nat.testBit_and, Nat.testBit_two_pow, Nat.zero_testBit]
        by_cases hj : i.toNat = j
        · subst hj; simp [hb]
        · simp [hj]
      simp [this]
  · rw [if_neg h]
    have : ¬ (0 ≤ i) ∨ ¬ (i < 64) := by omega
    rcases this with h | h <;> simp [h]
theorem hasI_nat {s i : Nat} (hi : i < 64) : hasI s (i : Int) = s.testBit i := by
  unfold hasI; simp; omega
variable {E : Env}
theorem bit_R (hE : q19_In E) (i : Int) (h : AHeap) : R E 19 [.c (.int .i64 i)] h = some ([.c (.int .u64 (bitI i))], h) := by
  refine R_intro hE.fn ?_
  rw [q19_eq, scK_or]
  unfold bitI
  by_cases hi : 0 ≤ i ∧ i < 64
  · have h1 : (decide (i < 0) || decide (i ≥ 64)) = false := by simp; omega
    rw [h1, if_pos hi]
    obtain ⟨n, rfl⟩ := Int.eq_ofNat_of_zero_le hi.1
    have hw : E.glob.wrap .u64 (n : Int) = n := wrap_u64n (by omega)
    rw [hw]
    simp only [Bool.false_eq_true, if_false]
    rw [if_neg (by omega), show E.glob.shl .u64 1 (n : Int) = _ from std_shl_one (by omega)]
    simp
  · have h1 : (decide (i < 0) || decide (i ≥ 64)) = true := by simp; omega
    rw [h1, if_neg hi]; simp
theorem Has_R (hE : q17_In E) {s : Nat} (hs : s < 2 ^ 64) (i : Int) (h : AHeap) : R E 17 [.c (.int .u64 s), .c (.int .i64 i)] h = some ([.c (.bool (hasI s i))], h) := by
  refine R_intro hE.fn ?_
  rw [q17_eq, bit_R hE.c19, c1_ok, asI_ok, show E.glob.band .u64 (s : Int) _ = _ from std_band hs (bitI_lt i), ← and_bitI]
  have : (((s &&& bitI i : Nat) : Int) != 0) = (s &&& bitI i != 0) := by rw [Bool.eq_iff_iff]; simp
  rw [this]
theorem With_R (hE : q18_In E) {s : Nat} (hs : s < 2 ^ 64) (i : Int) (h : AHeap) : R E 18 [.c (.int .u64 s), .c (.int .i64 i)] h = some ([.c (.int .u64 ((s ||| bitI i : Nat) : Int))], h) := by
  refine R_intro hE.fn ?_
  rw [q18_eq, bit_R hE.c19, c1_ok, asI_ok, show E.glob.bor .u64 (s : Int) _ = _ from std_bor hs (bitI_lt i)]
end Jq

namespace Jq
open Go
variable (C : CallF) (L : LoopF) (G : Glo)
set_option maxRecDepth 100000 in
theorem q42_eq (a0 : Int) (h0 : AHeap) : q42.body C L G [(.c (.int .u64 a0))] h0 = if (a0 == 0) = true then some ([(.c (.int .i64 64))], h0) else let v_1 : Int := (G.wrap .u64 ((G.band .u64 a0 (G.wrap .u64 (0 - a0))) * 285870213051353865)); if 0 ≤ (G.shr .u64 v_1 58) ∧ (G.shr .u64 v_1 58) < ((64 : Nat) : Int) then atK (G.tab 1) (0 + ((Int.toNat (G.shr .u64 v_1 58)) * 1)) fun q_2 => asI .u8 (.c q_2) fun n_3 => some ([(.c (.int .i64 (G.wrap .i64 n_3)))], h0) else none := by kernel_rfl
end Jq

namespace Jq
open Go
def pcN : Nat → Nat → Nat
  | 0, _ => 0
  | k + 1, x => x % 2 + pcN k (x / 2)
def pc (x : Nat) : Nat := pcN 64 x
def mapB (f : Nat → Nat) : Nat → Nat → Nat
  | 0, _ => 0
  | k + 1, x => f (x % 256) + 256 * mapB f k (x / 256)
def repB (c : Nat) : Nat → Nat
  | 0 => 0
  | k + 1 => c + 256 * repB c k
def fb1 (b : Nat) : Nat := ((b / 2) &&& 0x55) + (b &&& 0x55)
def fb2 (b : Nat) : Nat := ((b / 4) &&& 0x33) + (b &&& 0x33)
def fb3 (b : Nat) : Nat := (b + b / 16) &&& 0x0f
variable {E : Env}
theorem sh_by {k m : Nat} (hk : k ≤ 64) (hm : 2 ^ k = m) (y : Nat) : E.glob.shr .u64 (y : Int) (k : Int) = ((y / m : Nat) : Int) := by
  rw [g_shr hk, Nat.shiftRight_eq_div_pow, hm]
end Jq

namespace Jq
open Go
variable {E : Env}
theorem mul_wrap (y : Nat) : E.glob.wrap .u64 ((y : Int) * 285870213051353865) = ((y * 285870213051353865 % 18446744073709551616 : Nat) : Int) := by
  show IntKind.wrap .u64 _ = _
  simp only [IntKind.wrap, IntKind.signed, IntKind.bits, Bool.false_and, Bool.false_eq_true, if_false]; omega
theorem neg_wrap {x : Nat} (hx : x < 2 ^ 64) (h0 : x ≠ 0) : E.glob.wrap .u64 (0 - (x : Int)) = ((2 ^ 64 - x : Nat) : Int) := by
  show IntKind.wrap .u64 _ = _
  simp only [IntKind.wrap, IntKind.signed, IntKind.bits, Bool.false_and, Bool.false_eq_true, if_false]; omega
theorem shr58 (y : Nat) : E.glob.shr .u64 (y : Int) 58 = ((y / 288230376151711744 : Nat) : Int) := sh_by (k := 58) (by omega) (by decide) y
theorem getD_some {L : List Nat} {n i k : Nat} (hn : L.length = n) (hi : i < n) (hd : L.getD i 0 = k) : L[i]? = some k := by
  rw [List.getD_eq_getElem?_getD] at hd
  cases h : L[i]? with
  | none => rw [List.getElem?_eq_none_iff] at h; omega
  | some x => rw [h] at hd; exact congrArg some hd
theorem deB_len : Go.Lib.deBruijn64tab.length = 64 := by decide
theorem TrailingZeros_R (hE : q42_In E) (htab : ∀ k, k < 64 → (E.tab 1)[k]? = (Go.Lib.deBruijn64tab[k]?).map fun (n : Nat) => Cell.int .u8 (n : Int)) {x : Nat} (hx : x < 2 ^ 64) (h0 : x ≠ 0) (h : AHeap) :
    R E 42 [.c (.int .u64 x)] h = some ([.c (.int .i64 (Go.Lib.ctz 64 x))], h) := by
  refine R_intro hE.fn ?_
  have hne : ((x : Int) == 0) = false := by rw [beq_eq_false_iff_ne]; omega
  obtain ⟨q1, q2⟩ := Go.Lib.lowest_bit 64 x h0 hx
  rw [q42_eq, hne, neg_wrap hx h0, g_band hx (by omega), q1, mul_wrap]
  dsimp only
  rw [shr58]
  simp only [Bool.false_eq_true, if_false]
  obtain ⟨d1, d2⟩ := Go.Lib.deBruijn64_at (Go.Lib.ctz 64 x) q2
  generalize Go.Lib.ctz 64 x = k at *
  generalize 2 ^ k * 285870213051353865 % 18446744073709551616 / 288230376151711744 = i at *
  have hc : (E.glob.tab 1)[0 + (i : Int).toNat * 1]? = some (.int .u8 (k : Int)) := by
    rw [Int.toNat_natCast, Nat.mul_one, Nat.zero_add]
    show (E.tab 1)[i]? = _
    rw [htab i d1, getD_some deB_len d1 d2]
    rfl
  have hi : 0 ≤ (i : Int) ∧ (i : Int) < ((64 : Nat) : Int) := ⟨Int.natCast_nonneg _, by exact_mod_cast d1⟩
  rw [if_pos hi, atK_ok hc, asI_ok, g_wrap_i64 (by omega) (by omega)]
end Jq

namespace Jq
open Go
def bitsL (s : Nat) : List Nat := (List.range 64).filter fun i => s.testBit i
theorem mem_bitsL {s i : Nat} : i ∈ bitsL s ↔ i < 64 ∧ s.testBit i = true := by simp [bitsL]
theorem low_form {s : Nat} (hs : s < 2 ^ 64) (h0 : s ≠ 0) : ∃ m, s = 2 ^ (Lib.ctz 64 s + 1) * m + 2 ^ Lib.ctz 64 s ∧ Lib.ctz 64 s < 64 := by
  have : Lib.ctz 64 s = Lib.ctzFrom 64 s := by unfold Lib.ctz; rw [if_neg h0]
  rw [this]
  obtain ⟨m, h1, h2⟩ := Lib.ctzFrom_spec 64 s (by omega) hs
  refine ⟨m, ?_, h2⟩
  conv => lhs; rw [h1]
  rw [Nat.mul_add, Nat.mul_one, ← Nat.mul_assoc, Nat.pow_succ]
theorem low_bit {s : Nat} (hs : s < 2 ^ 64) (h0 : s ≠ 0) : s.testBit (Lib.ctz 64 s) = true ∧ (∀ j, j < Lib.ctz 64 s → s.testBit j = false) ∧ ∀ j, (s &&& (s - 1)).testBit j = (s.testBit j && decide (j ≠ Lib.ctz 64 s)) := by
  obtain ⟨m, h1, h2⟩ := low_form hs h0
  generalize Lib.ctz 64 s = k at h1 h2
  have hp : 0 < 2 ^ k := Nat.two_pow_pos k
  have hlt : 2 ^ k < 2 ^ (k + 1) := by rw [Nat.pow_succ]; omega
  have t1 : ∀ j, s.testBit j = if j < k + 1 then decide (j = k) else m.testBit (j - (k + 1)) := by
    intro j
    rw [h1, Nat.testBit_two_pow_mul_add _ hlt]
    split
    · rw [Nat.testBit_two_pow, Bool.eq_iff_iff]; simp; exact eq_comm
    · rfl
  have t2 : ∀ j, (s - 1).testBit j = if j < k + 1 then decide (j < k) else m.testBit (j - (k + 1)) := by
    intro j
    have : s - 1 = 2 ^ (k + 1) * m + (2 ^ k - 1) := by omega
    rw [this, Nat.testBit_two_pow_mul_add _ (by omega)]
    split
    · rw [Nat.testBit_two_pow_sub_one]
    · rfl
  refine ⟨by rw [t1, if_pos (by omega)]; simp, fun j hj => by rw [t1, if_pos (by omega)]; simp; omega, fun j => ?_⟩
  rw [Nat.testBit_and, t1, t2]
  split
  · rw [Bool.eq_iff_iff]; simp; omega
  · rename_i hj
    have : decide (j ≠ k) = true := by simp; omega
    rw [this, Bool.and_self, Bool.and_true]
theorem bitsL_cons {s : Nat} (hs : s < 2 ^ 64) (h0 : s ≠ 0) : bitsL s = Lib.ctz 64 s :: bitsL (s &&& (s - 1)) := by
  obtain ⟨b1, b2, b3⟩ := low_bit hs h0
  obtain ⟨_, _, hk⟩ := low_form hs h0
  generalize Lib.ctz 64 s = k at b1 b2 b3 hk
  unfold bitsL
  have hr : List.range 64 = List.range k ++ k :: List.range' (k + 1) (64 - (k + 1)) := by
    rw [List.range_eq_range', List.range_eq_range']
    have : (64 : Nat) = k + (1 + (64 - (k + 1))) := by omega
    conv => lhs; rw [this]
    rw [List.range'_append_1.symm, Nat.zero_add, Nat.add_comm 1, List.range'_succ]
  rw [hr, List.filter_append, List.filter_append, List.filter_cons, List.filter_cons, if_pos b1, b3 k]
  have e1 : (List.range k).filter (fun i => s.testBit i) = [] := List.filter_eq_nil_iff.2 fun x hx => by rw [b2 x (by simpa using hx)]; simp
  have e2 : (List.range k).filter (fun i => (s &&& (s - 1)).testBit i) = [] := List.filter_eq_nil_iff.2 fun x hx => by rw [b3, b2 x (by simpa using hx)]; simp
  rw [e1, e2, List.nil_append, List.nil_append, if_neg (by simp)]
  congr 1
  refine List.filter_congr fun x hx => ?_
  rw [List.mem_range'_1] at hx
  rw [b3]
  have : decide (x ≠ k) = true := by simp; omega
  rw [this, Bool.and_true]
theorem and_pred_lt {s : Nat} (h0 : s ≠ 0) : s &&& (s - 1) < s := Nat.lt_of_le_of_lt Nat.and_le_right (by omega)
theorem bitsL_zero : bitsL 0 = [] := by decide
theorem bitsL_nil {s : Nat} (hs : s < 2 ^ 64) : bitsL s = [] ↔ s = 0 := by
  constructor
  · intro h
    by_cases h0 : s = 0
    · exact h0
    · rw [bitsL_cons hs h0] at h; cases h
  · rintro rfl; exact bitsL_zero
def firstI (s : Nat) : Int := if s = 0 then -1 else Lib.ctz 64 s
def TabOk (E : Env) : Prop := ∀ k, k < 64 → (E.tab 1)[k]? = (Lib.deBruijn64tab[k]?).map fun (n : Nat) => Cell.int .u8 (n : Int)
variable {E : Env}
theorem First_R (hE : q38_In E) (ht : TabOk E) {s : Nat} (hs : s < 2 ^ 64) (h : AHeap) : R E 38 [.c (.int .u64 s)] h = some ([.c (.int .i64 (firstI s))], h) := by
  refine R_intro hE.fn ?_
  rw [q38_eq]
  unfold firstI
  by_cases h0 : s = 0
  · subst h0; simp
  · have hne : ((s : Int) == 0) = false := by rw [beq_eq_false_iff_ne]; omega
    rw [hne, if_neg h0]
    simp only [Bool.false_eq_true, if_false]
    rw [TrailingZeros_R hE.c42 ht hs h0, c1_ok, asI_ok]
def natC (l : List Nat) : List Cell := intC .i64 (l.map fun (n : Nat) => (n : Int))
theorem natC_snoc (l : List Nat) (n : Nat) : natC (l ++ [n]) = natC l ++ [.int .i64 n] := by simp [natC, intC]
theorem natC_get {l : List Nat} {i n : Nat} (h : l[i]? = some n) : (natC l)[i]? = some (.int .i64 n) := by simp [natC, intC, h]
theorem List_R (hE : q32_In E) (ht : TabOk E) {s : Nat} (hs : s < 2 ^ 64) (h : AHeap) :
    ∃ x h', R E 32 [.c (.int .u64 s)] h = some ([.c x], h') ∧ Own h.length h' x 1 (natC (bitsL s)) (bitsL s).length ∧ Kp h.length h h' := by
  suffices hs' : ∃ x h', q32.body (R E) Lim E.glob [.c (.int .u64 s)] h = some ([.c x], h') ∧ Own h.length h' x 1 (natC (bitsL s)) (bitsL s).length ∧ Kp h.length h h' by
    obtain ⟨x, h', hh, hr⟩ := hs'; exact ⟨x, h', R_intro hE.fn hh, hr⟩
  obtain ⟨p, hp, x, h', rfl, ho, hk⟩ := Lim_fall (F := q32_F1 (R E) Lim E.glob) (fun st => match st.t with | .v (.c (.int _ n)) :: _ => n.toNat | _ => 0)
    (fun st => ∃ (a : Nat) (x : Cell) (h' : AHeap) (done : List Nat), st = q32_s1 a x h' ∧ a < 2 ^ 64 ∧ done ++ bitsL a = bitsL s ∧ Own h.length h' x 1 (natC done) done.length ∧ Kp h.length h h')
    (fun p => ∃ x h', p = (.exit 0, q32_x1_1 x h') ∧ Own h.length h' x 1 (natC (bitsL s)) (bitsL s).length ∧ Kp h.length h h')
    (fun st hI => by
      obtain ⟨a, x, h', done, rfl, ha, hd, ho, hk⟩ := hI
      by_cases h0 : a = 0
      · right
        subst h0
        refine ⟨_, by rw [q32_r1]; rfl, by simp, x, h', rfl, ?_, hk⟩
        rw [bitsL_zero, List.append_nil] at hd
        rw [← hd]; exact ho
      · left
        have hne : ((a : Int) != 0) = true := by rw [bne_iff_ne]; omega
        have hlen : done.length < 64 := by
          have h1 : (bitsL s).length ≤ 64 := by unfold bitsL; exact Nat.le_trans (List.length_filter_le _ _) (by simp)
          rw [← hd, bitsL_cons ha h0] at h1
          simp at h1; omega
        obtain ⟨x', h2, hap, ho', hk', _⟩ := ho.app (xs := [.int .i64 (Lib.ctz 64 a : Nat)]) (bytes := 8) hk.1 rfl (by omega) (by unfold maxBytes; omega) (by unfold maxBytes; omega)
        refine ⟨q32_s1 ((a &&& (a - 1) : Nat) : Int) x' h2, ?_, ⟨a &&& (a - 1), x', h2, done ++ [Lib.ctz 64 a], rfl, and_lt ha, ?_, ?_, hk.trans hk'⟩, ?_⟩
        · rw [q32_r1, if_pos hne, First_R hE.c38 ht ha, c1_ok, asI_ok]
          unfold firstI
          rw [if_neg h0, show splice [Cell.int .i64 0] 0 [Cell.int .i64 ((Lib.ctz 64 a : Nat) : Int)] = [.int .i64 ((Lib.ctz 64 a : Nat) : Int)] from rfl, if_pos (show (List.length [_] : Nat) = 1 * 1 from rfl), hap]
          rw [show E.glob.wrap .u64 ((a : Int) - 1) = ((a - 1 : Nat) : Int) by rw [g_wrap_u64 (by omega) (by omega)]; omega, g_band ha (by omega)]
        · rw [List.append_assoc, List.singleton_append, ← bitsL_cons ha h0, hd]
        · rw [natC_snoc, List.length_append]; exact ho'
        · have := and_pred_lt h0
          show ((a &&& (a - 1) : Nat) : Int).toNat < ((a : Nat) : Int).toNat
          omega)
    (st := q32_s1 s .nils h) ⟨s, .nils, h, [], rfl, hs, rfl, by exact Own.nil _ _ _, Kp.refl _ _⟩
  refine ⟨x, h', ?_, ho, hk⟩
  rw [q32_eq, hp, bind_ok, q32_e1_1]
def ofL (l : List Int) : Nat := l.foldl (fun s i => s ||| bitI i) 0
def nextN (s : Nat) : Nat :=
  if s = 0 then 0 else
    let up := (s + 2 ^ Lib.ctz 64 s) % 2 ^ 64
    if up = 0 then 0 else up ||| (((s ^^^ up) >>> 2) >>> Lib.ctz 64 s)
end Jq

namespace Go.Proofs.YtnjjcoobhpldcaaDoor.LVmCopies
open Go Jq
def seatFn : Nat → Nat
  | 17 => 21
  | 18 => 46
  | 19 => 51
  | 32 => 19
  | 38 => 48
  | 42 => 78
  | 45 => 36
  | 46 => 61
  | 47 => 88
  | 48 => 96
  | 49 => 97
  | 50 => 98
  | 51 => 99
  | 76 => 16
  | 80 => 82
  | 81 => 57
  | 92 => 87
  | 93 => 95
  | 94 => 42
  | 97 => 39
  | 101 => 38
  | 102 => 65
  | 104 => 53
  | 105 => 44
  | 106 => 83
  | 107 => 59
  | 108 => 92
  | 109 => 80
  | 110 => 85
  | 111 => 58
  | 113 => 76
  | 114 => 75
  | 115 => 64
  | 119 => 74
  | 121 => 62
  | 122 => 63
  | 123 => 86
  | 124 => 94
  | 125 => 93
  | 139 => 100
  | 148 => 68
  | 155 => 69
  | 156 => 89
  | 158 => 66
  | 159 => 71
  | 163 => 90
  | 164 => 91
  | 167 => 12
  | 170 => 15
  | 171 => 17
  | 172 => 18
  | 173 => 20
  | 174 => 22
  | 175 => 23
  | 179 => 28
  | 180 => 29
  | 181 => 30
  | 182 => 31
  | 183 => 32
  | 184 => 33
  | 185 => 35
  | 186 => 34
  | 187 => 37
  | 188 => 40
  | 189 => 41
  | 190 => 43
  | 191 => 45
  | 192 => 47
  | 193 => 49
  | 194 => 50
  | 195 => 52
  | 196 => 54
  | 197 => 55
  | 198 => 56
  | 199 => 60
  | 200 => 67
  | 201 => 70
  | 202 => 72
  | 203 => 73
  | 204 => 77
  | 205 => 79
  | 206 => 81
  | 207 => 84
  | 223 => 11
  | _ => 0
def envFn : Nat → Option Jq.Fn
  | 17 => some q17
  | 18 => some q18
  | 19 => some q19
  | 32 => some q32
  | 38 => some q38
  | 42 => some q42
  | 45 => some q45
  | 46 => some q46
  | 47 => some q47
  | 48 => some q48
  | 76 => some q76
  | 80 => some q80
  | 81 => some q81
  | 92 => some q92
  | 93 => some q93
  | 94 => some q94
  | 97 => some q97
  | 101 => some q101
  | 102 => some q102
  | 104 => some q104
  | 105 => some q105
  | 106 => some q106
  | 107 => some q107
  | 108 => some q108
  | 109 => some q109
  | 110 => some q110
  | 111 => some q111
  | 113 => some q113
  | 114 => some q114
  | 115 => some q115
  | 119 => some q119
  | 121 => some q121
  | 122 => some q122
  | 123 => some q123
  | 124 => some q124
  | 125 => some q125
  | 139 => some q139
  | 148 => some q148
  | 155 => some q155
  | 156 => some q156
  | 158 => some q158
  | 159 => some q159
  | 163 => some q163
  | 164 => some q164
  | 167 => some q167
  | 170 => some q170
  | 171 => some q171
  | 172 => some q172
  | 173 => some q173
  | 174 => some q174
  | 175 => some q175
  | 179 => some q179
  | 180 => some q180
  | 181 => some q181
  | 182 => some q182
  | 183 => some q183
  | 184 => some q184
  | 185 => some q185
  | 186 => some q186
  | 187 => some q187
  | 188 => some q188
  | 189 => some q189
  | 190 => some q190
  | 191 => some q191
  | 192 => some q192
  | 193 => some q193
  | 194 => some q194
  | 195 => some q195
  | 196 => some q196
  | 197 => some q197
  | 198 => some q198
  | 199 => some q199
  | 200 => some q200
  | 201 => some q201
  | 202 => some q202
  | 203 => some q203
  | 204 => some q204
  | 205 => some q205
  | 206 => some q206
  | 207 => some q207
  | 223 => some q223
  | _ => none
def deB : List Int := [0, 1, 56, 2, 57, 49, 28, 3, 61, 58, 42, 50, 38, 29, 17, 4, 62, 47, 59, 36, 45, 43, 51, 22, 53, 39, 33, 30, 24, 18, 12, 5, 63, 55, 48, 27, 60, 41, 37, 16, 46, 35, 44, 21, 52, 32, 23, 11, 54, 26, 40, 15, 34, 20, 31, 10, 25, 14, 19, 9, 13, 8, 7, 6]
def seatTab : Nat → List Cell := fun k => if k = 1 then deB.map (Cell.int .u8) else []
noncomputable def seat : Seat := { P := Tryd.prog, fn := seatFn, gl := fun _ => 0, tab := seatTab }
def env : Env := { fn := envFn, tab := seatTab }
theorem tabOk : TabOk env := by
  have : ∀ k, k < 64 → (seatTab 1)[k]? = (Lib.deBruijn64tab[k]?).map fun (n : Nat) => Cell.int .u8 (n : Int) := by decide +kernel
  exact this
theorem mixed : true = true → seat.P.follows .mixedOrders = true := fun _ => by kernel_rfl
theorem ok_17 : FnOk seat 17 q17 := ⟨⟨Tryd.f21, _, drK seat true, Tryd.func21, rfl, by kernel_rfl, by kernel_rfl, by kernel_rfl, by kernel_rfl, fun _ _ h => draw_sound mixed h⟩⟩
theorem ok_18 : FnOk seat 18 q18 := ⟨⟨Tryd.f46, _, drK seat true, Tryd.func46, rfl, by kernel_rfl, by kernel_rfl, by kernel_rfl, by kernel_rfl, fun _ _ h => draw_sound mixed h⟩⟩
theorem ok_19 : FnOk seat 19 q19 := ⟨⟨Tryd.f51, _, drK seat true, Tryd.func51, rfl, by kernel_rfl, by kernel_rfl, by kernel_rfl, by kernel_rfl, fun _ _ h => draw_sound mixed h⟩⟩
theorem ok_32 : FnOk seat 32 q32 := ⟨⟨Tryd.f19, _, drK seat true, Tryd.func19, rfl, by kernel_rfl, by kernel_rfl, by kernel_rfl, by kernel_rfl, fun _ _ h => draw_sound mixed h⟩⟩
theorem ok_38 : FnOk seat 38 q38 := ⟨⟨Tryd.f48, _, drK seat true, Tryd.func48, rfl, by kernel_rfl, by kernel_rfl, by kernel_rfl, by kernel_rfl, fun _ _ h => draw_sound mixed h⟩⟩
theorem ok_42 : FnOk seat 42 q42 := ⟨⟨Tryd.f78, _, drK seat true, Tryd.func78, rfl, by kernel_rfl, by kernel_rfl, by kernel_rfl, by kernel_rfl, fun _ _ h => draw_sound mixed h⟩⟩
theorem ok_45 : FnOk seat 45 q45 := ⟨⟨Tryd.f36, _, drK seat true, Tryd.func36, rfl, by kernel_rfl, by kernel_rfl, by kernel_rfl, by kernel_rfl, fun _ _ h => draw_sound mixed h⟩⟩
theorem ok_46 : FnOk seat 46 q46 := ⟨⟨Tryd.f61, _, drK seat true, Tryd.func61, rfl, by kernel_rfl, by kernel_rfl, by kernel_rfl, by kernel_rfl, fun _ _ h => draw_sound mixed h⟩⟩
theorem ok_47 : FnOk seat 47 q47 := ⟨⟨Tryd.f88, _, drK seat true, Tryd.func88, rfl, by kernel_rfl, by kernel_rfl, by kernel_rfl, by kernel_rfl, fun _ _ h => draw_sound mixed h⟩⟩
theorem ok_48 : FnOk seat 48 q48 := ⟨⟨Tryd.f96, _, drK seat true, Tryd.func96, rfl, by kernel_rfl, by kernel_rfl, by kernel_rfl, by kernel_rfl, fun _ _ h => draw_sound mixed h⟩⟩
theorem ok_76 : FnOk seat 76 q76 := ⟨⟨Tryd.f16, _, drK seat true, Tryd.func16, rfl, by kernel_rfl, by kernel_rfl, by kernel_rfl, by kernel_rfl, fun _ _ h => draw_sound mixed h⟩⟩
theorem ok_80 : FnOk seat 80 q80 := ⟨⟨Tryd.f82, _, drK seat true, Tryd.func82, rfl, by kernel_rfl, by kernel_rfl, by kernel_rfl, by kernel_rfl, fun _ _ h => draw_sound mixed h⟩⟩
theorem ok_81 : FnOk seat 81 q81 := ⟨⟨Tryd.f57, _, drK seat true, Tryd.func57, rfl, by kernel_rfl, by kernel_rfl, by kernel_rfl, by kernel_rfl, fun _ _ h => draw_sound mixed h⟩⟩
theorem ok_92 : FnOk seat 92 q92 := ⟨⟨Tryd.f87, _, drK seat true, Tryd.func87, rfl, by kernel_rfl, by kernel_rfl, by kernel_rfl, by kernel_rfl, fun _ _ h => draw_sound mixed h⟩⟩
theorem ok_93 : FnOk seat 93 q93 := ⟨⟨Tryd.f95, _, drK seat true, Tryd.func95, rfl, by kernel_rfl, by kernel_rfl, by kernel_rfl, by kernel_rfl, fun _ _ h => draw_sound mixed h⟩⟩
theorem ok_94 : FnOk seat 94 q94 := ⟨⟨Tryd.f42, _, drK seat true, Tryd.func42, rfl, by kernel_rfl, by kernel_rfl, by kernel_rfl, by kernel_rfl, fun _ _ h => draw_sound mixed h⟩⟩
theorem ok_97 : FnOk seat 97 q97 := ⟨⟨Tryd.f39, _, drK seat true, Tryd.func39, rfl, by kernel_rfl, by kernel_rfl, by kernel_rfl, by kernel_rfl, fun _ _ h => draw_sound mixed h⟩⟩
theorem ok_101 : FnOk seat 101 q101 := ⟨⟨Tryd.f38, _, drK seat true, Tryd.func38, rfl, by kernel_rfl, by kernel_rfl, by kernel_rfl, by kernel_rfl, fun _ _ h => draw_sound mixed h⟩⟩
theorem ok_102 : FnOk seat 102 q102 := ⟨⟨Tryd.f65, _, drK seat true, Tryd.func65, rfl, by kernel_rfl, by kernel_rfl, by kernel_rfl, by kernel_rfl, fun _ _ h => draw_sound mixed h⟩⟩
theorem ok_104 : FnOk seat 104 q104 := ⟨⟨Tryd.f53, _, drK seat true, Tryd.func53, rfl, by kernel_rfl, by kernel_rfl, by kernel_rfl, by kernel_rfl, fun _ _ h => draw_sound mixed h⟩⟩
theorem ok_105 : FnOk seat 105 q105 := ⟨⟨Tryd.f44, _, drK seat true, Tryd.func44, rfl, by kernel_rfl, by kernel_rfl, by kernel_rfl, by kernel_rfl, fun _ _ h => draw_sound mixed h⟩⟩
theorem ok_106 : FnOk seat 106 q106 := ⟨⟨Tryd.f83, _, drK seat true, Tryd.func83, rfl, by kernel_rfl, by kernel_rfl, by kernel_rfl, by kernel_rfl, fun _ _ h => draw_sound mixed h⟩⟩
theorem ok_107 : FnOk seat 107 q107 := ⟨⟨Tryd.f59, _, drK seat true, Tryd.func59, rfl, by kernel_rfl, by kernel_rfl, by kernel_rfl, by kernel_rfl, fun _ _ h => draw_sound mixed h⟩⟩
theorem ok_108 : FnOk seat 108 q108 := ⟨⟨Tryd.f92, _, drK seat true, Tryd.func92, rfl, by kernel_rfl, by kernel_rfl, by kernel_rfl, by kernel_rfl, fun _ _ h => draw_sound mixed h⟩⟩
theorem ok_109 : FnOk seat 109 q109 := ⟨⟨Tryd.f80, _, drK seat true, Tryd.func80, rfl, by kernel_rfl, by kernel_rfl, by kernel_rfl, by kernel_rfl, fun _ _ h => draw_sound mixed h⟩⟩
theorem ok_110 : FnOk seat 110 q110 := ⟨⟨Tryd.f85, _, drK seat true, Tryd.func85, rfl, by kernel_rfl, by kernel_rfl, by kernel_rfl, by kernel_rfl, fun _ _ h => draw_sound mixed h⟩⟩
theorem ok_111 : FnOk seat 111 q111 := ⟨⟨Tryd.f58, _, drK seat true, Tryd.func58, rfl, by kernel_rfl, by kernel_rfl, by kernel_rfl, by kernel_rfl, fun _ _ h => draw_sound mixed h⟩⟩
theorem ok_113 : FnOk seat 113 q113 := ⟨⟨Tryd.f76, _, drK seat true, Tryd.func76, rfl, by kernel_rfl, by kernel_rfl, by kernel_rfl, by kernel_rfl, fun _ _ h => draw_sound mixed h⟩⟩
theorem ok_114 : FnOk seat 114 q114 := ⟨⟨Tryd.f75, _, drK seat true, Tryd.func75, rfl, by kernel_rfl, by kernel_rfl, by kernel_rfl, by kernel_rfl, fun _ _ h => draw_sound mixed h⟩⟩
theorem ok_115 : FnOk seat 115 q115 := ⟨⟨Tryd.f64, _, drK seat true, Tryd.func64, rfl, by kernel_rfl, by kernel_rfl, by kernel_rfl, by kernel_rfl, fun _ _ h => draw_sound mixed h⟩⟩
theorem ok_119 : FnOk seat 119 q119 := ⟨⟨Tryd.f74, _, drK seat true, Tryd.func74, rfl, by kernel_rfl, by kernel_rfl, by kernel_rfl, by kernel_rfl, fun _ _ h => draw_sound mixed h⟩⟩
theorem ok_121 : FnOk seat 121 q121 := ⟨⟨Tryd.f62, _, drK seat true, Tryd.func62, rfl, by kernel_rfl, by kernel_rfl, by kernel_rfl, by kernel_rfl, fun _ _ h => draw_sound mixed h⟩⟩
theorem ok_122 : FnOk seat 122 q122 := ⟨⟨Tryd.f63, _, drK seat true, Tryd.func63, rfl, by kernel_rfl, by kernel_rfl, by kernel_rfl, by kernel_rfl, fun _ _ h => draw_sound mixed h⟩⟩
theorem ok_123 : FnOk seat 123 q123 := ⟨⟨Tryd.f86, _, drK seat true, Tryd.func86, rfl, by kernel_rfl, by kernel_rfl, by kernel_rfl, by kernel_rfl, fun _ _ h => draw_sound mixed h⟩⟩
theorem ok_124 : FnOk seat 124 q124 := ⟨⟨Tryd.f94, _, drK seat true, Tryd.func94, rfl, by kernel_rfl, by kernel_rfl, by kernel_rfl, by kernel_rfl, fun _ _ h => draw_sound mixed h⟩⟩
theorem ok_125 : FnOk seat 125 q125 := ⟨⟨Tryd.f93, _, drK seat true, Tryd.func93, rfl, by kernel_rfl, by kernel_rfl, by kernel_rfl, by kernel_rfl, fun _ _ h => draw_sound mixed h⟩⟩
theorem ok_139 : FnOk seat 139 q139 := ⟨⟨Tryd.f100, _, drK seat true, Tryd.func100, rfl, by kernel_rfl, by kernel_rfl, by kernel_rfl, by kernel_rfl, fun _ _ h => draw_sound mixed h⟩⟩
theorem ok_148 : FnOk seat 148 q148 := ⟨⟨Tryd.f68, _, drK seat true, Tryd.func68, rfl, by kernel_rfl, by kernel_rfl, by kernel_rfl, by kernel_rfl, fun _ _ h => draw_sound mixed h⟩⟩
theorem ok_155 : FnOk seat 155 q155 := ⟨⟨Tryd.f69, _, drK seat true, Tryd.func69, rfl, by kernel_rfl, by kernel_rfl, by kernel_rfl, by kernel_rfl, fun _ _ h => draw_sound mixed h⟩⟩
theorem ok_156 : FnOk seat 156 q156 := ⟨⟨Tryd.f89, _, drK seat true, Tryd.func89, rfl, by kernel_rfl, by kernel_rfl, by kernel_rfl, by kernel_rfl, fun _ _ h => draw_sound mixed h⟩⟩
theorem ok_158 : FnOk seat 158 q158 := ⟨⟨Tryd.f66, _, drK seat true, Tryd.func66, rfl, by kernel_rfl, by kernel_rfl, by kernel_rfl, by kernel_rfl, fun _ _ h => draw_sound mixed h⟩⟩
theorem ok_159 : FnOk seat 159 q159 := ⟨⟨Tryd.f71, _, drK seat true, Tryd.func71, rfl, by kernel_rfl, by kernel_rfl, by kernel_rfl, by kernel_rfl, fun _ _ h => draw_sound mixed h⟩⟩
theorem ok_163 : FnOk seat 163 q163 := ⟨⟨Tryd.f90, _, drK seat true, Tryd.func90, rfl, by kernel_rfl, by kernel_rfl, by kernel_rfl, by kernel_rfl, fun _ _ h => draw_sound mixed h⟩⟩
theorem ok_164 : FnOk seat 164 q164 := ⟨⟨Tryd.f91, _, drK seat true, Tryd.func91, rfl, by kernel_rfl, by kernel_rfl, by kernel_rfl, by kernel_rfl, fun _ _ h => draw_sound mixed h⟩⟩
theorem ok_167 : FnOk seat 167 q167 := ⟨⟨Tryd.f12, _, drK seat true, Tryd.func12, rfl, by kernel_rfl, by kernel_rfl, by kernel_rfl, by kernel_rfl, fun _ _ h => draw_sound mixed h⟩⟩
theorem ok_170 : FnOk seat 170 q170 := ⟨⟨Tryd.f15, _, drK seat true, Tryd.func15, rfl, by kernel_rfl, by kernel_rfl, by kernel_rfl, by kernel_rfl, fun _ _ h => draw_sound mixed h⟩⟩
theorem ok_171 : FnOk seat 171 q171 := ⟨⟨Tryd.f17, _, drK seat true, Tryd.func17, rfl, by kernel_rfl, by kernel_rfl, by kernel_rfl, by kernel_rfl, fun _ _ h => draw_sound mixed h⟩⟩
theorem ok_172 : FnOk seat 172 q172 := ⟨⟨Tryd.f18, _, drK seat true, Tryd.func18, rfl, by kernel_rfl, by kernel_rfl, by kernel_rfl, by kernel_rfl, fun _ _ h => draw_sound mixed h⟩⟩
theorem ok_173 : FnOk seat 173 q173 := ⟨⟨Tryd.f20, _, drK seat true, Tryd.func20, rfl, by kernel_rfl, by kernel_rfl, by kernel_rfl, by kernel_rfl, fun _ _ h => draw_sound mixed h⟩⟩
theorem ok_174 : FnOk seat 174 q174 := ⟨⟨Tryd.f22, _, drK seat true, Tryd.func22, rfl, by kernel_rfl, by kernel_rfl, by kernel_rfl, by kernel_rfl, fun _ _ h => draw_sound mixed h⟩⟩
theorem ok_175 : FnOk seat 175 q175 := ⟨⟨Tryd.f23, _, drK seat true, Tryd.func23, rfl, by kernel_rfl, by kernel_rfl, by kernel_rfl, by kernel_rfl, fun _ _ h => draw_sound mixed h⟩⟩
theorem ok_179 : FnOk seat 179 q179 := ⟨⟨Tryd.f28, _, drK seat true, Tryd.func28, rfl, by kernel_rfl, by kernel_rfl, by kernel_rfl, by kernel_rfl, fun _ _ h => draw_sound mixed h⟩⟩
theorem ok_180 : FnOk seat 180 q180 := ⟨⟨Tryd.f29, _, drK seat true, Tryd.func29, rfl, by kernel_rfl, by kernel_rfl, by kernel_rfl, by kernel_rfl, fun _ _ h => draw_sound mixed h⟩⟩
theorem ok_181 : FnOk seat 181 q181 := ⟨⟨Tryd.f30, _, drK seat true, Tryd.func30, rfl, by kernel_rfl, by kernel_rfl, by kernel_rfl, by kernel_rfl, fun _ _ h => draw_sound mixed h⟩⟩
theorem ok_182 : FnOk seat 182 q182 := ⟨⟨Tryd.f31, _, drK seat true, Tryd.func31, rfl, by kernel_rfl, by kernel_rfl, by kernel_rfl, by kernel_rfl, fun _ _ h => draw_sound mixed h⟩⟩
theorem ok_183 : FnOk seat 183 q183 := ⟨⟨Tryd.f32, _, drK seat true, Tryd.func32, rfl, by kernel_rfl, by kernel_rfl, by kernel_rfl, by kernel_rfl, fun _ _ h => draw_sound mixed h⟩⟩
theorem ok_184 : FnOk seat 184 q184 := ⟨⟨Tryd.f33, _, drK seat true, Tryd.func33, rfl, by kernel_rfl, by kernel_rfl, by kernel_rfl, by kernel_rfl, fun _ _ h => draw_sound mixed h⟩⟩
theorem ok_185 : FnOk seat 185 q185 := ⟨⟨Tryd.f35, _, drK seat true, Tryd.func35, rfl, by kernel_rfl, by kernel_rfl, by kernel_rfl, by kernel_rfl, fun _ _ h => draw_sound mixed h⟩⟩
theorem ok_186 : FnOk seat 186 q186 := ⟨⟨Tryd.f34, _, drK seat true, Tryd.func34, rfl, by kernel_rfl, by kernel_rfl, by kernel_rfl, by kernel_rfl, fun _ _ h => draw_sound mixed h⟩⟩
theorem ok_187 : FnOk seat 187 q187 := ⟨⟨Tryd.f37, _, drK seat true, Tryd.func37, rfl, by kernel_rfl, by kernel_rfl, by kernel_rfl, by kernel_rfl, fun _ _ h => draw_sound mixed h⟩⟩
theorem ok_188 : FnOk seat 188 q188 := ⟨⟨Tryd.f40, _, drK seat true, Tryd.func40, rfl, by kernel_rfl, by kernel_rfl, by kernel_rfl, by kernel_rfl, fun _ _ h => draw_sound mixed h⟩⟩
theorem ok_189 : FnOk seat 189 q189 := ⟨⟨Tryd.f41, _, drK seat true, Tryd.func41, rfl, by kernel_rfl, by kernel_rfl, by kernel_rfl, by kernel_rfl, fun _ _ h => draw_sound mixed h⟩⟩
theorem ok_190 : FnOk seat 190 q190 := ⟨⟨Tryd.f43, _, drK seat true, Tryd.func43, rfl, by kernel_rfl, by kernel_rfl, by kernel_rfl, by kernel_rfl, fun _ _ h => draw_sound mixed h⟩⟩
theorem ok_191 : FnOk seat 191 q191 := ⟨⟨Tryd.f45, _, drK seat true, Tryd.func45, rfl, by kernel_rfl, by kernel_rfl, by kernel_rfl, by kernel_rfl, fun _ _ h => draw_sound mixed h⟩⟩
theorem ok_192 : FnOk seat 192 q192 := ⟨⟨Tryd.f47, _, drK seat true, Tryd.func47, rfl, by kernel_rfl, by kernel_rfl, by kernel_rfl, by kernel_rfl, fun _ _ h => draw_sound mixed h⟩⟩
theorem ok_193 : FnOk seat 193 q193 := ⟨⟨Tryd.f49, _, drK seat true, Tryd.func49, rfl, by kernel_rfl, by kernel_rfl, by kernel_rfl, by kernel_rfl, fun _ _ h => draw_sound mixed h⟩⟩
theorem ok_194 : FnOk seat 194 q194 := ⟨⟨Tryd.f50, _, drK seat true, Tryd.func50, rfl, by kernel_rfl, by kernel_rfl, by kernel_rfl, by kernel_rfl, fun _ _ h => draw_sound mixed h⟩⟩
theorem ok_195 : FnOk seat 195 q195 := ⟨⟨Tryd.f52, _, drK seat true, Tryd.func52, rfl, by kernel_rfl, by kernel_rfl, by kernel_rfl, by kernel_rfl, fun _ _ h => draw_sound mixed h⟩⟩
theorem ok_196 : FnOk seat 196 q196 := ⟨⟨Tryd.f54, _, drK seat true, Tryd.func54, rfl, by kernel_rfl, by kernel_rfl, by kernel_rfl, by kernel_rfl, fun _ _ h => draw_sound mixed h⟩⟩
theorem ok_197 : FnOk seat 197 q197 := ⟨⟨Tryd.f55, _, drK seat true, Tryd.func55, rfl, by kernel_rfl, by kernel_rfl, by kernel_rfl, by kernel_rfl, fun _ _ h => draw_sound mixed h⟩⟩
theorem ok_198 : FnOk seat 198 q198 := ⟨⟨Tryd.f56, _, drK seat true, Tryd.func56, rfl, by kernel_rfl, by kernel_rfl, by kernel_rfl, by kernel_rfl, fun _ _ h => draw_sound mixed h⟩⟩
theorem ok_199 : FnOk seat 199 q199 := ⟨⟨Tryd.f60, _, drK seat true, Tryd.func60, rfl, by kernel_rfl, by kernel_rfl, by kernel_rfl, by kernel_rfl, fun _ _ h => draw_sound mixed h⟩⟩
theorem ok_200 : FnOk seat 200 q200 := ⟨⟨Tryd.f67, _, drK seat true, Tryd.func67, rfl, by kernel_rfl, by kernel_rfl, by kernel_rfl, by kernel_rfl, fun _ _ h => draw_sound mixed h⟩⟩
theorem ok_201 : FnOk seat 201 q201 := ⟨⟨Tryd.f70, _, drK seat true, Tryd.func70, rfl, by kernel_rfl, by kernel_rfl, by kernel_rfl, by kernel_rfl, fun _ _ h => draw_sound mixed h⟩⟩
theorem ok_202 : FnOk seat 202 q202 := ⟨⟨Tryd.f72, _, drK seat true, Tryd.func72, rfl, by kernel_rfl, by kernel_rfl, by kernel_rfl, by kernel_rfl, fun _ _ h => draw_sound mixed h⟩⟩
theorem ok_203 : FnOk seat 203 q203 := ⟨⟨Tryd.f73, _, drK seat true, Tryd.func73, rfl, by kernel_rfl, by kernel_rfl, by kernel_rfl, by kernel_rfl, fun _ _ h => draw_sound mixed h⟩⟩
theorem ok_204 : FnOk seat 204 q204 := ⟨⟨Tryd.f77, _, drK seat true, Tryd.func77, rfl, by kernel_rfl, by kernel_rfl, by kernel_rfl, by kernel_rfl, fun _ _ h => draw_sound mixed h⟩⟩
theorem ok_205 : FnOk seat 205 q205 := ⟨⟨Tryd.f79, _, drK seat true, Tryd.func79, rfl, by kernel_rfl, by kernel_rfl, by kernel_rfl, by kernel_rfl, fun _ _ h => draw_sound mixed h⟩⟩
theorem ok_206 : FnOk seat 206 q206 := ⟨⟨Tryd.f81, _, drK seat true, Tryd.func81, rfl, by kernel_rfl, by kernel_rfl, by kernel_rfl, by kernel_rfl, fun _ _ h => draw_sound mixed h⟩⟩
theorem ok_207 : FnOk seat 207 q207 := ⟨⟨Tryd.f84, _, drK seat true, Tryd.func84, rfl, by kernel_rfl, by kernel_rfl, by kernel_rfl, by kernel_rfl, fun _ _ h => draw_sound mixed h⟩⟩
theorem ok_223 : FnOk seat 223 q223 := ⟨⟨Tryd.f11, _, drK seat true, Tryd.func11, rfl, by kernel_rfl, by kernel_rfl, by kernel_rfl, by kernel_rfl, fun _ _ h => draw_sound mixed h⟩⟩
theorem allOk : ∀ g fn, env.fn g = some fn → FnOk seat g fn := by
  intro g fn h
  unfold env envFn at h
  dsimp only at h
  split at h
  · cases h; exact ok_17
  · cases h; exact ok_18
  · cases h; exact ok_19
  · cases h; exact ok_32
  · cases h; exact ok_38
  · cases h; exact ok_42
  · cases h; exact ok_45
  · cases h; exact ok_46
  · cases h; exact ok_47
  · cases h; exact ok_48
  · cases h; exact ok_76
  · cases h; exact ok_80
  · cases h; exact ok_81
  · cases h; exact ok_92
  · cases h; exact ok_93
  · cases h; exact ok_94
  · cases h; exact ok_97
  · cases h; exact ok_101
  · cases h; exact ok_102
  · cases h; exact ok_104
  · cases h; exact ok_105
  · cases h; exact ok_106
  · cases h; exact ok_107
  · cases h; exact ok_108
  · cases h; exact ok_109
  · cases h; exact ok_110
  · cases h; exact ok_111
  · cases h; exact ok_113
  · cases h; exact ok_114
  · cases h; exact ok_115
  · cases h; exact ok_119
  · cases h; exact ok_121
  · cases h; exact ok_122
  · cases h; exact ok_123
  · cases h; exact ok_124
  · cases h; exact ok_125
  · cases h; exact ok_139
  · cases h; exact ok_148
  · cases h; exact ok_155
  · cases h; exact ok_156
  · cases h; exact ok_158
  · cases h; exact ok_159
  · cases h; exact ok_163
  · cases h; exact ok_164
  · cases h; exact ok_167
  · cases h; exact ok_170
  · cases h; exact ok_171
  · cases h; exact ok_172
  · cases h; exact ok_173
  · cases h; exact ok_174
  · cases h; exact ok_175
  · cases h; exact ok_179
  · cases h; exact ok_180
  · cases h; exact ok_181
  · cases h; exact ok_182
  · cases h; exact ok_183
  · cases h; exact ok_184
  · cases h; exact ok_185
  · cases h; exact ok_186
  · cases h; exact ok_187
  · cases h; exact ok_188
  · cases h; exact ok_189
  · cases h; exact ok_190
  · cases h; exact ok_191
  · cases h; exact ok_192
  · cases h; exact ok_193
  · cases h; exact ok_194
  · cases h; exact ok_195
  · cases h; exact ok_196
  · cases h; exact ok_197
  · cases h; exact ok_198
  · cases h; exact ok_199
  · cases h; exact ok_200
  · cases h; exact ok_201
  · cases h; exact ok_202
  · cases h; exact ok_203
  · cases h; exact ok_204
  · cases h; exact ok_205
  · cases h; exact ok_206
  · cases h; exact ok_207
  · cases h; exact ok_223
  · cases h
theorem in_42 : q42_In env := { fn := rfl }
theorem in_38 : q38_In env := { fn := rfl, c42 := in_42 }
theorem in_32 : q32_In env := { fn := rfl, c38 := in_38 }
theorem in_115 : q115_In env := { fn := rfl }
theorem in_97 : q97_In env := { fn := rfl, c115 := in_115 }
theorem in_121 : q121_In env := { fn := rfl }
theorem in_122 : q122_In env := { fn := rfl }
theorem in_101 : q101_In env := { fn := rfl, c121 := in_121, c122 := in_122 }
theorem in_76 : q76_In env := { fn := rfl, c97 := in_97, c101 := in_101 }
theorem in_48 : q48_In env := { fn := rfl }
theorem in_47 : q47_In env := { fn := rfl, c48 := in_48 }
theorem in_46 : q46_In env := { fn := rfl, c47 := in_47 }
theorem in_45 : q45_In env := { fn := rfl, c46 := in_46 }
theorem in_167 : q167_In env := { fn := rfl, c45 := in_45 }
theorem in_113 : q113_In env := { fn := rfl }
theorem in_108 : q108_In env := { fn := rfl }
theorem in_124 : q124_In env := { fn := rfl }
theorem in_139 : q139_In env := { fn := rfl }
theorem in_125 : q125_In env := { fn := rfl, c139 := in_139 }
theorem in_114 : q114_In env := { fn := rfl, c108 := in_108, c124 := in_124, c125 := in_125 }
theorem in_94 : q94_In env := { fn := rfl, c113 := in_113, c114 := in_114 }
theorem in_102 : q102_In env := { fn := rfl }
theorem in_148 : q148_In env := { fn := rfl }
theorem in_156 : q156_In env := { fn := rfl }
theorem in_155 : q155_In env := { fn := rfl, c156 := in_156 }
theorem in_158 : q158_In env := { fn := rfl }
theorem in_200 : q200_In env := { fn := rfl }
theorem in_164 : q164_In env := { fn := rfl }
theorem in_163 : q163_In env := { fn := rfl, c164 := in_164 }
theorem in_159 : q159_In env := { fn := rfl, c163 := in_163, c164 := in_164 }
theorem in_201 : q201_In env := { fn := rfl, c159 := in_159 }
theorem in_188 : q188_In env := { fn := rfl, c102 := in_102, c148 := in_148, c155 := in_155, c158 := in_158, c200 := in_200, c201 := in_201 }
theorem in_119 : q119_In env := { fn := rfl }
theorem in_202 : q202_In env := { fn := rfl }
theorem in_203 : q203_In env := { fn := rfl }
theorem in_189 : q189_In env := { fn := rfl, c119 := in_119, c202 := in_202, c203 := in_203 }
theorem in_190 : q190_In env := { fn := rfl }
theorem in_171 : q171_In env := { fn := rfl, c94 := in_94, c188 := in_188, c189 := in_189, c190 := in_190 }
theorem in_19 : q19_In env := { fn := rfl }
theorem in_18 : q18_In env := { fn := rfl, c19 := in_19 }
theorem in_105 : q105_In env := { fn := rfl, c113 := in_113 }
theorem in_191 : q191_In env := { fn := rfl }
theorem in_204 : q204_In env := { fn := rfl }
theorem in_192 : q192_In env := { fn := rfl, c204 := in_204 }
theorem in_172 : q172_In env := { fn := rfl, c18 := in_18, c105 := in_105, c191 := in_191, c192 := in_192 }
theorem in_17 : q17_In env := { fn := rfl, c19 := in_19 }
theorem in_80 : q80_In env := { fn := rfl }
theorem in_106 : q106_In env := { fn := rfl, c105 := in_105, c113 := in_113, c114 := in_114, c124 := in_124 }
theorem in_109 : q109_In env := { fn := rfl, c108 := in_108 }
theorem in_205 : q205_In env := { fn := rfl }
theorem in_206 : q206_In env := { fn := rfl }
theorem in_193 : q193_In env := { fn := rfl, c80 := in_80, c105 := in_105, c106 := in_106, c109 := in_109, c205 := in_205, c206 := in_206 }
theorem in_207 : q207_In env := { fn := rfl, c204 := in_204 }
theorem in_194 : q194_In env := { fn := rfl, c192 := in_192, c207 := in_207 }
theorem in_173 : q173_In env := { fn := rfl, c17 := in_17, c172 := in_172, c193 := in_193, c194 := in_194 }
theorem in_187 : q187_In env := { fn := rfl }
theorem in_170 : q170_In env := { fn := rfl, c167 := in_167, c171 := in_171, c172 := in_172, c173 := in_173, c187 := in_187 }
theorem in_110 : q110_In env := { fn := rfl }
theorem in_92 : q92_In env := { fn := rfl }
theorem in_93 : q93_In env := { fn := rfl }
theorem in_123 : q123_In env := { fn := rfl, c92 := in_92, c93 := in_93 }
theorem in_104 : q104_In env := { fn := rfl, c110 := in_110, c123 := in_123 }
theorem in_180 : q180_In env := { fn := rfl, c104 := in_104 }
theorem in_174 : q174_In env := { fn := rfl, c172 := in_172 }
theorem in_195 : q195_In env := { fn := rfl }
theorem in_175 : q175_In env := { fn := rfl, c195 := in_195 }
theorem in_179 : q179_In env := { fn := rfl }
theorem in_81 : q81_In env := { fn := rfl, c110 := in_110 }
theorem in_197 : q197_In env := { fn := rfl }
theorem in_198 : q198_In env := { fn := rfl }
theorem in_196 : q196_In env := { fn := rfl, c81 := in_81, c197 := in_197, c198 := in_198 }
theorem in_181 : q181_In env := { fn := rfl, c196 := in_196 }
theorem in_199 : q199_In env := { fn := rfl }
theorem in_183 : q183_In env := { fn := rfl, c32 := in_32, c172 := in_172, c174 := in_174, c175 := in_175, c179 := in_179, c181 := in_181, c199 := in_199 }
theorem in_184 : q184_In env := { fn := rfl, c195 := in_195 }
theorem in_185 : q185_In env := { fn := rfl, c175 := in_175 }
theorem in_107 : q107_In env := { fn := rfl, c81 := in_81, c123 := in_123 }
theorem in_111 : q111_In env := { fn := rfl, c92 := in_92 }
theorem in_182 : q182_In env := { fn := rfl, c81 := in_81, c107 := in_107, c111 := in_111, c196 := in_196, c197 := in_197, c198 := in_198 }
theorem in_186 : q186_In env := { fn := rfl, c180 := in_180, c182 := in_182 }
theorem in_223 : q223_In env := { fn := rfl, c32 := in_32, c76 := in_76, c170 := in_170, c171 := in_171, c172 := in_172, c173 := in_173, c180 := in_180, c183 := in_183, c184 := in_184, c185 := in_185, c186 := in_186 }
end Go.Proofs.YtnjjcoobhpldcaaDoor.LVmCopies

namespace Jq
open Go
end Jq

namespace Jq
open Go
def relL (n : Nat) (f : Nat → Nat) : List Cell := .int .i64 n :: (List.range 64).map fun i => .int .u64 (f i)
def updF (f : Nat → Nat) (i v : Nat) : Nat → Nat := fun j => if j = i then v else f j
def zeroL : List Cell := [Cell.int .i64 0] ++ List.replicate 64 (Cell.int .u64 0)
def Words (f : Nat → Nat) : Prop := ∀ i, f i < 2 ^ 64
def clamp (a : Int) : Nat := min a.toNat 64
variable {E : Env}
def inR (n : Nat) (a : Int) : Bool := decide (0 ≤ a) && decide (a < n)
def hasR (n : Nat) (f : Nat → Nat) (a b : Int) : Bool := inR n a && hasI (f a.toNat) b
def addR (n : Nat) (f : Nat → Nat) (a b : Int) : Nat → Nat := if inR n a && inR n b then updF f a.toNat (f a.toNat ||| bitI b) else f
def clS (f : Nat → Nat) (k i : Nat) : Nat → Nat := if (f i).testBit k then updF f i (f i ||| f k) else f
def cl1 (k : Nat) : Nat → (Nat → Nat) → Nat → Nat
  | 0, f => f
  | i + 1, f => clS (cl1 k i f) k i
def clK (n : Nat) (f : Nat → Nat) : Nat → Nat → Nat
  | 0 => f
  | k + 1 => cl1 k n (clK n f k)
def acycR (n : Nat) (f : Nat → Nat) : Bool := !(List.range n).any fun i => (clK n f n i).testBit i
end Jq

namespace Jq
inductive Way (f : Nat → Nat) (k : Nat) : Nat → Nat → Prop
  | one {a b : Nat} : (f a).testBit b = true → Way f k a b
  | step {a c b : Nat} : (f a).testBit c = true → c < k → Way f k c b → Way f k a b
theorem Way.mono {f : Nat → Nat} {k m : Nat} (hkm : k ≤ m) {a b : Nat} (w : Way f k a b) : Way f m a b := by
  induction w with
  | one h => exact .one h
  | step h hc _ ih => exact .step h (by omega) ih
theorem Way.trans {f : Nat → Nat} {k a c b : Nat} (w : Way f k a c) (hc : c < k) (v : Way f k c b) : Way f k a b := by
  induction w with
  | one h => exact .step h hc v
  | step h hc' _ ih => exact .step h hc' (ih hc v)
theorem Way.succ {f : Nat → Nat} {k a b : Nat} : Way f (k + 1) a b ↔ Way f k a b ∨ (Way f k a k ∧ Way f k k b) := by
  constructor
  · intro w
    induction w with
    | one h => exact .inl (.one h)
    | step h hc _ ih =>
      rcases Nat.lt_or_ge _ k with hk | hk
      · rcases ih with ih | ⟨i1, i2⟩
        · exact .inl (.step h hk ih)
        · exact .inr ⟨.step h hk i1, i2⟩
      · have : _ = k := Nat.le_antisymm (Nat.lt_succ_iff.1 hc) hk
        subst this
        rcases ih with ih | ⟨_, i2⟩
        · exact .inr ⟨.one h, ih⟩
        · exact .inr ⟨.one h, i2⟩
  · rintro (w | ⟨w1, w2⟩)
    · exact w.mono (by omega)
    · exact (w1.mono (by omega)).trans (Nat.lt_succ_self k) (w2.mono (by omega))
end Jq

namespace Jq
open Go
end Jq

namespace Jq
open Go
end Jq

namespace Jq
open Go
end Jq

