/- YtkdicbhkkancoaaRelAcyclicA: a part of the proof; no conditions of its own. -/
import Derived.Test.YtkdicbhkkancoaaRows
import Derived.KernelRfl
import Derived.WalkKit
import Derived.ProofKit
import Derived.OpenShut
import Derived.ShutString
import Derived.ChangeOld
import Derived.Below
import Derived.Carry
import Derived.Test.YtkdicbhkkancoaaCoreC
set_option linter.unusedVariables false
set_option linter.unusedSimpArgs false

namespace Jq
open Go

/- jacquard/jacquardlaw8.Of: 1 -/
def jacquardlaw8_Of_b1 : IC :=
  (.seq (.seq (.reg 4 false (.op (some 17) .mov [(.t 8)]
    (.op (some 18) .mov [(.t 1)]
    (.op (some 19) .len [(.t 18)]
    (.op (some 20) (.bin .lss) [(.t 17), (.t 19)]
    (.op (some 21) .mov [(.t 20)]
    (.sc 21 true (.op (some 22) .mov [(.t 8)]
    (.op (some 23) (.bin .lss) [(.t 22), (.k (.c (.int .i64 200)))]
    .nil)) 23 24 false
    .nil)))))))
  (.cond (.t 24)
  .skip
  (.exit 0)))
  (.seq (.blk 1 (.seq (.reg 6 true (.op (some 27) .mov [(.t 1)]
    (.op (some 28) .mov [(.t 8)]
    (.op (some 29) (.idxS 2) [(.t 27), (.t 28)]
    (.op (some 30) (.idxA 2 1) [(.t 29), (.k (.c (.int .i64 0)))]
    (.op (some 31) (.ld .heap (.i .i64)) [(.t 30)]
    (.op (some 32) .mov [(.t 1)]
    (.op (some 33) .mov [(.t 8)]
    (.op (some 34) (.idxS 2) [(.t 32), (.t 33)]
    (.op (some 35) (.idxA 2 1) [(.t 34), (.k (.c (.int .i64 1)))]
    (.op (some 36) (.ld .heap (.i .i64)) [(.t 35)]
    (.op (some 9) .mov [(.t 31)]
    (.op (some 10) .mov [(.t 36)]
    .nil)))))))))))))
  (.seq (.reg 7 false (.op (some 37) (.ldAll (.slot 2) 65) [(.t 6)]
    (.op (some 38) .mov [(.t 9)]
    (.op (some 39) .mov [(.t 10)]
    (.op (some 40) (.call 10 [.agg]) [(.t 37), (.t 38), (.t 39)]
    (.op none (.stAll (.slot 2) 65) [(.t 6), (.t 40)]
    .nil))))))
  (.seq (.reg 8 false (.op (some 41) .mov [(.t 9)]
    (.op (some 42) (.bin .geq) [(.t 41), (.k (.c (.int .i64 0)))]
    (.op (some 43) .mov [(.t 42)]
    (.sc 43 true (.op (some 44) .mov [(.t 9)]
    (.op (some 45) (.addr 0) [(.t 7)]
    (.op (some 46) (.ld .heap (.i .i64)) [(.t 45)]
    (.op (some 47) (.bin .lss) [(.t 44), (.t 46)]
    .nil)))) 47 48 false
    (.op (some 49) .mov [(.t 48)]
    (.sc 49 true (.op (some 50) .mov [(.t 10)]
    (.op (some 51) (.bin .geq) [(.t 50), (.k (.c (.int .i64 0)))]
    .nil)) 51 52 false
    (.op (some 53) .mov [(.t 52)]
    (.sc 53 true (.op (some 54) .mov [(.t 10)]
    (.op (some 55) (.addr 0) [(.t 7)]
    (.op (some 56) (.ld .heap (.i .i64)) [(.t 55)]
    (.op (some 57) (.bin .lss) [(.t 54), (.t 56)]
    .nil)))) 57 58 false
    .nil)))))))))
  (.cond (.t 58)
  (.reg 9 false (.op (some 59) .mov [(.t 9)]
    (.op (some 60) .mov [(.t 10)]
    (.op (some 61) (.call 13 []) [(.t 7), (.t 59), (.t 60)]
    .nil))))
  .skip)))))
  (.reg 5 false (.op (some 25) .mov [(.t 8)]
    (.op (some 26) (.bin .add) [(.t 25), (.k (.c (.int .i64 1)))]
    (.op (some 8) .mov [(.t 26)]
    .nil))))))
def jacquardlaw8_Of_p1 : IC :=
  (.seq (.reg 10 true (.op (some 62) (.ldAll (.slot 2) 65) [(.t 6)]
    (.op (some 63) (.ldAll .heap 65) [(.t 7)]
    (.op none (.stAll (.slot 0) 65) [(.t 4), (.t 62)]
    (.op none (.stAll (.slot 1) 65) [(.t 5), (.t 63)]
    .nil)))))
  .ret)
def jacquardlaw8_Of : Fn := { np := 2, nt := 64, ns := 3, res := [.all (.slot 0) 4 65, .all (.slot 1) 5 65], gc := true, code :=
  (.seq (.reg 0 false (.al 4 0 ([Cell.int .i64 0] ++ List.replicate 64 (Cell.int .u64 0))
    (.al 5 1 ([Cell.int .i64 0] ++ List.replicate 64 (Cell.int .u64 0))
    .nil)))
  (.seq (.reg 1 false (.op (some 11) .mov [(.t 0)]
    (.op (some 12) (.call 9 [.agg]) [(.t 11)]
    (.al 6 2 ([Cell.int .i64 0] ++ List.replicate 64 (Cell.int .u64 0))
    (.op none (.stAll (.slot 2) 65) [(.t 6), (.t 12)]
    .nil)))))
  (.seq (.reg 2 false (.op (some 13) .mov [(.t 0)]
    (.op (some 14) .mx [(.t 13), (.k (.c (.int .i64 0)))]
    (.op (some 15) .mn [(.t 14), (.k (.c (.int .i64 64)))]
    (.op (some 16) (.build ([Cell.int .i64 0] ++ List.replicate 64 (Cell.int .u64 0)) [(0, 1)]) [(.t 15)]
    (.op (some 7) (.allocH ([Cell.int .i64 0] ++ List.replicate 64 (Cell.int .u64 0))) []
    (.op none (.stAll .heap 65) [(.t 7), (.t 16)]
    .nil)))))))
  (.seq (.seq (.reg 3 false (.op (some 8) .mov [(.k (.c (.int .i64 0)))]
    .nil))
  (.blk 0 (.loop [1, 4, 5, 6, 7, 8] [0, 1, 2] [(1, [4, 5, 6, 7], [0, 1, 2])] jacquardlaw8_Of_b1)))
  jacquardlaw8_Of_p1)))) }

/- jacquard/jacquardlaw8.awake: 55 -/
def jacquardlaw8_awake : Fn := { np := 0, nt := 28, ns := 1, res := [.t 0 .b], gc := false, code :=
  (.seq (.reg 0 false (.op (some 0) .mov [(.k (.c (.bool false)))]
    .nil))
  (.seq (.reg 1 false (.op (some 2) (.call 9 [.agg]) [(.k (.c (.int .i64 3)))]
    (.op (some 3) (.call 10 [.agg]) [(.t 2), (.k (.c (.int .i64 0))), (.k (.c (.int .i64 1)))]
    (.op (some 4) (.call 10 [.agg]) [(.t 3), (.k (.c (.int .i64 1))), (.k (.c (.int .i64 2)))]
    (.al 1 0 ([Cell.int .i64 0] ++ List.replicate 64 (Cell.int .u64 0))
    (.op none (.stAll (.slot 0) 65) [(.t 1), (.t 4)]
    .nil))))))
  (.seq (.reg 2 false (.op (some 5) (.ldAll (.slot 0) 65) [(.t 1)]
    (.op (some 6) (.call 12 [.agg]) [(.t 5)]
    (.op (some 7) (.call 3 [.b]) [(.t 6), (.k (.c (.int .i64 0))), (.k (.c (.int .i64 2)))]
    (.op (some 8) .mov [(.t 7)]
    (.sc 8 true (.op (some 9) (.ldAll (.slot 0) 65) [(.t 1)]
    (.op (some 10) (.call 3 [.b]) [(.t 9), (.k (.c (.int .i64 0))), (.k (.c (.int .i64 2)))]
    (.op (some 11) (.un .not) [(.t 10)]
    .nil))) 11 12 false
    (.op (some 13) .mov [(.t 12)]
    (.sc 13 true (.op (some 14) (.ldAll (.slot 0) 65) [(.t 1)]
    (.op (some 15) (.call 26 [.b]) [(.t 14)]
    .nil)) 15 16 false
    (.op (some 17) .mov [(.t 16)]
    (.sc 17 true (.op (some 18) (.ldAll (.slot 0) 65) [(.t 1)]
    (.op (some 19) (.call 10 [.agg]) [(.t 18), (.k (.c (.int .i64 2))), (.k (.c (.int .i64 0)))]
    (.op (some 20) (.call 26 [.b]) [(.t 19)]
    (.op (some 21) (.un .not) [(.t 20)]
    .nil)))) 21 22 false
    (.op (some 23) .mov [(.t 22)]
    (.sc 23 true (.op (some 24) (.ldAll (.slot 0) 65) [(.t 1)]
    (.op (some 25) (.call 14 [(.i .i64)]) [(.t 24)]
    (.op (some 26) (.bin .eql) [(.t 25), (.k (.c (.int .i64 3)))]
    .nil))) 26 27 false
    (.op (some 0) .mov [(.t 27)]
    .nil)))))))))))))
  .ret))) }

/- jacquard/jacquardlaw8.RelAcyclic: 238 -/
def jacquardlaw8_RelAcyclic_b1 : IC :=
  (.seq (.seq (.reg 4 false (.op (some 19) .mov [(.t 8)]
    (.op (some 20) .mov [(.t 1)]
    (.op (some 21) .len [(.t 20)]
    (.op (some 22) (.bin .lss) [(.t 19), (.t 21)]
    (.op (some 23) .mov [(.t 22)]
    (.sc 23 true (.op (some 24) .mov [(.t 8)]
    (.op (some 25) (.bin .lss) [(.t 24), (.k (.c (.int .i64 60)))]
    .nil)) 25 26 false
    .nil)))))))
  (.cond (.t 26)
  .skip
  (.exit 0)))
  (.seq (.blk 1 (.seq (.reg 6 true (.op (some 29) .mov [(.t 1)]
    (.op (some 30) .mov [(.t 8)]
    (.op (some 31) (.idxS 2) [(.t 29), (.t 30)]
    (.op (some 32) (.idxA 2 1) [(.t 31), (.k (.c (.int .i64 0)))]
    (.op (some 33) (.ld .heap (.i .i64)) [(.t 32)]
    (.op (some 34) (.bin .and) [(.t 33), (.k (.c (.int .i64 255)))]
    (.op (some 35) .mov [(.t 0)]
    (.op (some 36) (.bin .rem) [(.t 34), (.t 35)]
    (.op (some 37) .mov [(.t 1)]
    (.op (some 38) .mov [(.t 8)]
    (.op (some 39) (.idxS 2) [(.t 37), (.t 38)]
    (.op (some 40) (.idxA 2 1) [(.t 39), (.k (.c (.int .i64 1)))]
    (.op (some 41) (.ld .heap (.i .i64)) [(.t 40)]
    (.op (some 42) (.bin .and) [(.t 41), (.k (.c (.int .i64 255)))]
    (.op (some 43) .mov [(.t 0)]
    (.op (some 44) (.bin .rem) [(.t 42), (.t 43)]
    (.op (some 9) .mov [(.t 36)]
    (.op (some 10) .mov [(.t 44)]
    .nil)))))))))))))))))))
  (.seq (.reg 7 false (.op (some 45) .mov [(.t 9)]
    (.op (some 46) .mov [(.t 10)]
    (.op (some 47) (.bin .lss) [(.t 45), (.t 46)]
    .nil))))
  (.cond (.t 47)
  (.reg 8 false (.op (some 48) .mov [(.t 7)]
    (.op (some 49) .mov [(.t 9)]
    (.op (some 50) .mov [(.t 10)]
    (.op (some 51) (.build ([Cell.int .i64 0, Cell.int .i64 0]) [(0, 1), (1, 1)]) [(.t 49), (.t 50)]
    (.op (some 52) (.lit 2 1 ([Cell.int .i64 0, Cell.int .i64 0]) [(0, 2)]) [(.t 51)]
    (.op (some 53) (.app 2 16) [(.t 48), (.t 52)]
    (.op (some 7) .mov [(.t 53)]
    .nil))))))))
  .skip))))
  (.reg 5 false (.op (some 27) .mov [(.t 8)]
    (.op (some 28) (.bin .add) [(.t 27), (.k (.c (.int .i64 1)))]
    (.op (some 8) .mov [(.t 28)]
    .nil))))))
def jacquardlaw8_RelAcyclic_p1 : IC :=
  (.seq (.reg 9 false (.op (some 55) .mov [(.t 0)]
    (.op (some 56) .mov [(.t 7)]
    (.op (some 57) (.call 1 [.agg, .agg]) [(.t 55), (.t 56)]
    (.op (some 54) .mov [(.t 57)]
    (.op (some 58) (.ext 0) [(.t 54)]
    (.op (some 59) (.ext 1) [(.t 54)]
    (.al 11 0 ([Cell.int .i64 0] ++ List.replicate 64 (Cell.int .u64 0))
    (.al 12 1 ([Cell.int .i64 0] ++ List.replicate 64 (Cell.int .u64 0))
    (.op none (.stAll (.slot 0) 65) [(.t 11), (.t 58)]
    (.op none (.stAll (.slot 1) 65) [(.t 12), (.t 59)]
    .nil)))))))))))
  (.seq (.seq (.reg 10 false (.op (some 60) (.ldAll (.slot 0) 65) [(.t 11)]
    (.op (some 61) (.call 26 [.b]) [(.t 60)]
    (.op (some 62) (.un .not) [(.t 61)]
    .nil))))
  (.cond (.t 62)
  (.seq (.reg 11 false (.op (some 6) .mov [(.k (.c (.bool false)))]
    .nil))
  .ret)
  .skip))
  (.seq (.seq (.reg 12 false (.op (some 63) .mov [(.t 7)]
    (.op (some 64) .len [(.t 63)]
    (.op (some 65) (.bin .eql) [(.t 64), (.k (.c (.int .i64 0)))]
    .nil))))
  (.cond (.t 65)
  (.seq (.reg 13 false (.op (some 66) (.call 55 [.b]) []
    (.op (some 6) .mov [(.t 66)]
    .nil)))
  .ret)
  .skip))
  (.seq (.reg 14 false (.op (some 67) .mov [(.t 7)]
    (.op (some 68) .mov [(.t 2)]
    (.op (some 69) (.bin .and) [(.t 68), (.k (.c (.int .i64 255)))]
    (.op (some 70) .mov [(.t 7)]
    (.op (some 71) .len [(.t 70)]
    (.op (some 72) (.bin .rem) [(.t 69), (.t 71)]
    (.op (some 73) (.idxS 2) [(.t 67), (.t 72)]
    (.op (some 74) (.ldN .heap 2) [(.t 73)]
    (.al 13 2 ([Cell.int .i64 0, Cell.int .i64 0])
    (.op none (.stAll (.slot 2) 2) [(.t 13), (.t 74)]
    .nil)))))))))))
  (.seq (.reg 15 false (.op (some 75) (.ldAll (.slot 0) 65) [(.t 11)]
    (.op (some 76) (.idxA 2 1) [(.t 13), (.k (.c (.int .i64 1)))]
    (.op (some 77) (.ld (.slot 2) (.i .i64)) [(.t 76)]
    (.op (some 78) (.idxA 2 1) [(.t 13), (.k (.c (.int .i64 0)))]
    (.op (some 79) (.ld (.slot 2) (.i .i64)) [(.t 78)]
    (.op (some 80) (.call 10 [.agg]) [(.t 75), (.t 77), (.t 79)]
    (.al 14 3 ([Cell.int .i64 0] ++ List.replicate 64 (Cell.int .u64 0))
    (.op none (.stAll (.slot 3) 65) [(.t 14), (.t 80)]
    .nil)))))))))
  (.seq (.reg 16 true (.op (some 81) (.ldAll (.slot 3) 65) [(.t 14)]
    (.op (some 82) (.qcall 26 [.b]) [(.t 81)]
    (.op (some 83) (.un .not) [(.t 82)]
    (.op (some 84) .mov [(.t 83)]
    (.sc 84 true (.op (some 85) (.ldAll (.slot 3) 65) [(.t 14)]
    (.op (some 86) (.qcall 12 [.agg]) [(.t 85)]
    (.op (some 87) (.idxA 2 1) [(.t 13), (.k (.c (.int .i64 0)))]
    (.op (some 88) (.ld (.slot 2) (.i .i64)) [(.t 87)]
    (.op (some 89) (.idxA 2 1) [(.t 13), (.k (.c (.int .i64 0)))]
    (.op (some 90) (.ld (.slot 2) (.i .i64)) [(.t 89)]
    (.op (some 91) (.qcall 3 [.b]) [(.t 86), (.t 88), (.t 90)]
    .nil))))))) 91 92 false
    (.op (some 93) .mov [(.t 92)]
    (.sc 93 true (.op (some 94) (.ldAll (.slot 0) 65) [(.t 11)]
    (.op (some 95) (.qcall 10 [.agg]) [(.t 94), (.k (.c (.int .i64 0))), (.k (.c (.int .i64 0)))]
    (.op (some 96) (.qcall 26 [.b]) [(.t 95)]
    (.op (some 97) (.un .not) [(.t 96)]
    .nil)))) 97 98 false
    (.op (some 99) .mov [(.t 98)]
    (.sc 99 true (.op (some 100) (.qcall 55 [.b]) []
    .nil) 100 101 false
    (.op (some 6) .mov [(.t 101)]
    .nil)))))))))))
  .ret))))))
def jacquardlaw8_RelAcyclic : Fn := { np := 3, nt := 102, ns := 4, res := [.t 6 .b], gc := false, code :=
  (.seq (.reg 0 false (.op (some 6) .mov [(.k (.c (.bool false)))]
    .nil))
  (.seq (.reg 1 false (.op (some 15) .mov [(.t 0)]
    (.op (some 16) (.bin .and) [(.t 15), (.k (.c (.int .i64 255)))]
    (.op (some 17) (.bin .rem) [(.t 16), (.k (.c (.int .i64 62)))]
    (.op (some 18) (.bin .add) [(.t 17), (.k (.c (.int .i64 2)))]
    (.op (some 0) .mov [(.t 18)]
    .nil))))))
  (.seq (.reg 2 false (.op (some 7) .mov [(.k (.c .nils))]
    .nil))
  (.seq (.seq (.reg 3 false (.op (some 8) .mov [(.k (.c (.int .i64 0)))]
    .nil))
  (.blk 0 (.loop [0, 1, 2, 7, 8] [] [(1, [0, 2, 7], [])] jacquardlaw8_RelAcyclic_b1)))
  jacquardlaw8_RelAcyclic_p1)))) }


end Jq

namespace Jq
open Go

/- (*jacquard/jacquardref6.Rel).Add: 13 -/
def jacquardref6_Rel_Add : Fn := { np := 3, nt := 20, ns := 0, res := [], gc := false, code :=
  (.reg 0 true (.op (some 6) .mov [(.t 0)]
    (.op (some 7) .mov [(.t 1)]
    (.op (some 8) .mov [(.t 0)]
    (.op (some 9) .mov [(.t 1)]
    (.op (some 10) .nilchk [(.t 8)]
    (.op (some 11) (.addr 1) [(.t 10)]
    (.op (some 12) (.idxA 64 1) [(.t 11), (.t 9)]
    (.op (some 13) (.ld .heap (.i .u64)) [(.t 12)]
    (.op (some 14) .mov [(.t 2)]
    (.op (some 15) (.bin .shl) [(.k (.c (.int .u64 1))), (.t 14)]
    (.op (some 16) (.bin .or) [(.t 13), (.t 15)]
    (.op (some 17) .nilchk [(.t 6)]
    (.op (some 18) (.addr 1) [(.t 17)]
    (.op (some 19) (.idxA 64 1) [(.t 18), (.t 7)]
    (.op none (.st .heap) [(.t 19), (.t 16)]
    .nil)))))))))))))))) }


end Jq

namespace Jq
open Go


end Jq

/- What a function needs of an environment. -/
namespace Jq
open Go


end Jq

/- What a function needs of an environment. -/
namespace Jq
open Go

structure jacquardref6_Rel_Add_In (E : Env) : Prop where
  fn : E.fn 13 = some jacquardref6_Rel_Add

end Jq

namespace Jq
open Go

/- (jacquard/rel.Rel).Has: 3 -/
def rel_Rel_Has : Fn := { np := 3, nt := 18, ns := 1, res := [.t 6 .b], gc := false, code :=
  (.seq (.reg 0 false (.box 3 0 (.t 0)
    (.op (some 6) .mov [(.k (.c (.bool false)))]
    .nil)))
  (.seq (.reg 1 false (.op (some 7) (.ldAll (.slot 0) 65) [(.t 3)]
    (.op (some 8) .mov [(.t 1)]
    (.op (some 9) (.call 16 [.b]) [(.t 7), (.t 8)]
    (.op (some 10) .mov [(.t 9)]
    (.sc 10 true (.op (some 11) .mov [(.t 1)]
    (.op (some 12) (.addr 1) [(.t 3)]
    (.op (some 13) (.idxA 64 1) [(.t 12), (.t 11)]
    (.op (some 14) (.ld (.slot 0) (.i .u64)) [(.t 13)]
    (.op (some 15) .mov [(.t 2)]
    (.op (some 16) (.call 17 [.b]) [(.t 14), (.t 15)]
    .nil)))))) 16 17 false
    (.op (some 6) .mov [(.t 17)]
    .nil)))))))
  .ret)) }

/- jacquard/rel.New: 9 -/
def rel_New : Fn := { np := 1, nt := 7, ns := 1, res := [.all (.slot 0) 2 65], gc := false, code :=
  (.seq (.reg 0 false (.al 2 0 ([Cell.int .i64 0] ++ List.replicate 64 (Cell.int .u64 0))
    .nil))
  (.seq (.reg 1 false (.op (some 3) .mov [(.t 0)]
    (.op (some 4) .mx [(.t 3), (.k (.c (.int .i64 0)))]
    (.op (some 5) .mn [(.t 4), (.k (.c (.int .i64 64)))]
    (.op (some 6) (.build ([Cell.int .i64 0] ++ List.replicate 64 (Cell.int .u64 0)) [(0, 1)]) [(.t 5)]
    (.op none (.stAll (.slot 0) 65) [(.t 2), (.t 6)]
    .nil))))))
  .ret)) }

/- (jacquard/rel.Rel).Add: 10 -/
def rel_Rel_Add : Fn := { np := 3, nt := 25, ns := 2, res := [.all (.slot 1) 6 65], gc := false, code :=
  (.seq (.reg 0 false (.box 3 0 (.t 0)
    (.al 6 1 ([Cell.int .i64 0] ++ List.replicate 64 (Cell.int .u64 0))
    .nil)))
  (.seq (.seq (.reg 1 false (.op (some 7) (.ldAll (.slot 0) 65) [(.t 3)]
    (.op (some 8) .mov [(.t 1)]
    (.op (some 9) (.call 16 [.b]) [(.t 7), (.t 8)]
    (.op (some 10) .mov [(.t 9)]
    (.sc 10 true (.op (some 11) (.ldAll (.slot 0) 65) [(.t 3)]
    (.op (some 12) .mov [(.t 2)]
    (.op (some 13) (.call 16 [.b]) [(.t 11), (.t 12)]
    .nil))) 13 14 false
    .nil))))))
  (.cond (.t 14)
  (.reg 2 false (.op (some 15) .mov [(.t 1)]
    (.op (some 16) .mov [(.t 1)]
    (.op (some 17) (.addr 1) [(.t 3)]
    (.op (some 18) (.idxA 64 1) [(.t 17), (.t 16)]
    (.op (some 19) (.ld (.slot 0) (.i .u64)) [(.t 18)]
    (.op (some 20) .mov [(.t 2)]
    (.op (some 21) (.call 18 [(.i .u64)]) [(.t 19), (.t 20)]
    (.op (some 22) (.addr 1) [(.t 3)]
    (.op (some 23) (.idxA 64 1) [(.t 22), (.t 15)]
    (.op none (.st (.slot 0)) [(.t 23), (.t 21)]
    .nil)))))))))))
  .skip))
  (.seq (.reg 3 false (.op (some 24) (.ldAll (.slot 0) 65) [(.t 3)]
    (.op none (.stAll (.slot 1) 65) [(.t 6), (.t 24)]
    .nil)))
  .ret))) }

/- (jacquard/rel.Rel).Closure: 12 -/
def rel_Rel_Closure_b1 : IC :=
  (.seq (.reg 5 false (.op (some 13) (.bin .lss) [(.t 12), (.t 11)]
    .nil))
  (.seq (.cond (.t 13)
  .skip
  (.exit 2))
  (.seq (.blk 3 (.seq (.reg 6 false (.op (some 14) .mov [(.t 12)]
    (.op (some 4) .mov [(.t 14)]
    .nil)))
  (.seq (.reg 7 false (.op (some 15) .mov [(.t 4)]
    (.op (some 16) (.addr 1) [(.t 1)]
    (.op (some 17) (.idxA 64 1) [(.t 16), (.t 15)]
    (.op (some 18) (.ld (.slot 0) (.i .u64)) [(.t 17)]
    (.op (some 19) .mov [(.t 3)]
    (.op (some 20) (.call 17 [.b]) [(.t 18), (.t 19)]
    .nil)))))))
  (.cond (.t 20)
  (.reg 8 true (.op (some 21) .mov [(.t 4)]
    (.op (some 22) (.addr 1) [(.t 1)]
    (.op (some 23) (.idxA 64 1) [(.t 22), (.t 21)]
    (.op (some 24) (.ld (.slot 0) (.i .u64)) [(.t 23)]
    (.op (some 25) .mov [(.t 3)]
    (.op (some 26) (.addr 1) [(.t 1)]
    (.op (some 27) (.idxA 64 1) [(.t 26), (.t 25)]
    (.op (some 28) (.ld (.slot 0) (.i .u64)) [(.t 27)]
    (.op (some 29) (.bin .or) [(.t 24), (.t 28)]
    (.op (some 30) (.addr 1) [(.t 1)]
    (.op (some 31) (.idxA 64 1) [(.t 30), (.t 21)]
    (.op none (.st (.slot 0)) [(.t 31), (.t 29)]
    .nil)))))))))))))
  .skip))))
  (.reg 9 false (.op (some 32) (.bin .add) [(.t 12), (.k (.c (.int .i64 1)))]
    (.op (some 12) .mov [(.t 32)]
    .nil))))))
def rel_Rel_Closure_p2 : IC :=
  (.reg 10 false (.op (some 33) (.bin .add) [(.t 7), (.k (.c (.int .i64 1)))]
    (.op (some 7) .mov [(.t 33)]
    .nil)))
def rel_Rel_Closure_b2 : IC :=
  (.seq (.reg 2 false (.op (some 8) (.bin .lss) [(.t 7), (.t 6)]
    .nil))
  (.seq (.cond (.t 8)
  .skip
  (.exit 0))
  (.seq (.blk 1 (.seq (.reg 3 false (.op (some 9) .mov [(.t 7)]
    (.op (some 3) .mov [(.t 9)]
    .nil)))
  (.seq (.reg 4 false (.op (some 10) (.addr 0) [(.t 1)]
    (.op (some 11) (.ld (.slot 0) (.i .i64)) [(.t 10)]
    (.op (some 12) .mov [(.k (.c (.int .i64 0)))]
    .nil))))
  (.blk 2 (.loop [1, 2, 3, 6, 7, 11, 12] [0, 1] [(3, [1, 2, 6, 7], [0, 1])] rel_Rel_Closure_b1)))))
  rel_Rel_Closure_p2)))
def rel_Rel_Closure_p1 : IC :=
  (.seq (.reg 11 false (.op (some 34) (.ldAll (.slot 0) 65) [(.t 1)]
    (.op none (.stAll (.slot 1) 65) [(.t 2), (.t 34)]
    .nil)))
  .ret)
def rel_Rel_Closure : Fn := { np := 1, nt := 35, ns := 2, res := [.all (.slot 1) 2 65], gc := false, code :=
  (.seq (.reg 0 false (.box 1 0 (.t 0)
    (.al 2 1 ([Cell.int .i64 0] ++ List.replicate 64 (Cell.int .u64 0))
    .nil)))
  (.seq (.seq (.reg 1 false (.op (some 5) (.addr 0) [(.t 1)]
    (.op (some 6) (.ld (.slot 0) (.i .i64)) [(.t 5)]
    (.op (some 7) .mov [(.k (.c (.int .i64 0)))]
    .nil))))
  (.blk 0 (.loop [1, 2, 6, 7] [0, 1] [(1, [1, 2], [0, 1])] rel_Rel_Closure_b2)))
  rel_Rel_Closure_p1)) }

/- (jacquard/rel.Rel).N: 14 -/
def rel_Rel_N : Fn := { np := 1, nt := 5, ns := 1, res := [.t 2 (.i .i64)], gc := false, code :=
  (.seq (.reg 0 false (.box 1 0 (.t 0)
    (.op (some 2) .mov [(.k (.c (.int .i64 0)))]
    .nil)))
  (.seq (.reg 1 false (.op (some 3) (.addr 0) [(.t 1)]
    (.op (some 4) (.ld (.slot 0) (.i .i64)) [(.t 3)]
    (.op (some 2) .mov [(.t 4)]
    .nil))))
  .ret)) }

/- (jacquard/rel.Rel).in: 16 -/
def rel_Rel_in : Fn := { np := 2, nt := 13, ns := 1, res := [.t 4 .b], gc := false, code :=
  (.seq (.reg 0 false (.box 2 0 (.t 0)
    (.op (some 4) .mov [(.k (.c (.bool false)))]
    .nil)))
  (.seq (.reg 1 false (.op (some 5) .mov [(.t 1)]
    (.op (some 6) (.bin .geq) [(.t 5), (.k (.c (.int .i64 0)))]
    (.op (some 7) .mov [(.t 6)]
    (.sc 7 true (.op (some 8) .mov [(.t 1)]
    (.op (some 9) (.addr 0) [(.t 2)]
    (.op (some 10) (.ld (.slot 0) (.i .i64)) [(.t 9)]
    (.op (some 11) (.bin .lss) [(.t 8), (.t 10)]
    .nil)))) 11 12 false
    (.op (some 4) .mov [(.t 12)]
    .nil))))))
  .ret)) }

/- (jacquard/rel.Rel).Acyclic: 26 -/
def rel_Rel_Acyclic_b1 : IC :=
  (.seq (.reg 3 false (.op (some 10) (.bin .lss) [(.t 9), (.t 8)]
    .nil))
  (.seq (.cond (.t 10)
  .skip
  (.exit 0))
  (.seq (.blk 1 (.seq (.reg 4 false (.op (some 11) .mov [(.t 9)]
    (.op (some 4) .mov [(.t 11)]
    .nil)))
  (.seq (.reg 5 false (.op (some 12) .mov [(.t 4)]
    (.op (some 13) (.addr 1) [(.t 3)]
    (.op (some 14) (.idxA 64 1) [(.t 13), (.t 12)]
    (.op (some 15) (.ld (.slot 1) (.i .u64)) [(.t 14)]
    (.op (some 16) .mov [(.t 4)]
    (.op (some 17) (.call 17 [.b]) [(.t 15), (.t 16)]
    .nil)))))))
  (.cond (.t 17)
  (.seq (.reg 6 false (.op (some 2) .mov [(.k (.c (.bool false)))]
    .nil))
  .ret)
  .skip))))
  (.reg 7 false (.op (some 18) (.bin .add) [(.t 9), (.k (.c (.int .i64 1)))]
    (.op (some 9) .mov [(.t 18)]
    .nil))))))
def rel_Rel_Acyclic_p1 : IC :=
  (.seq (.reg 8 false (.op (some 2) .mov [(.k (.c (.bool true)))]
    .nil))
  .ret)
def rel_Rel_Acyclic : Fn := { np := 1, nt := 19, ns := 2, res := [.t 2 .b], gc := false, code :=
  (.seq (.reg 0 false (.box 1 0 (.t 0)
    (.op (some 2) .mov [(.k (.c (.bool false)))]
    .nil)))
  (.seq (.reg 1 false (.op (some 5) (.ldAll (.slot 0) 65) [(.t 1)]
    (.op (some 6) (.call 12 [.agg]) [(.t 5)]
    (.al 3 1 ([Cell.int .i64 0] ++ List.replicate 64 (Cell.int .u64 0))
    (.op none (.stAll (.slot 1) 65) [(.t 3), (.t 6)]
    .nil)))))
  (.seq (.seq (.reg 2 false (.op (some 7) (.addr 0) [(.t 3)]
    (.op (some 8) (.ld (.slot 1) (.i .i64)) [(.t 7)]
    (.op (some 9) .mov [(.k (.c (.int .i64 0)))]
    .nil))))
  (.blk 0 (.loop [3, 8, 9] [1] [(0, [2], []), (1, [], [])] rel_Rel_Acyclic_b1)))
  rel_Rel_Acyclic_p1))) }

/- (jacquard/rel.Rel).Row: 41 -/
def rel_Rel_Row : Fn := { np := 2, nt := 13, ns := 1, res := [.t 4 (.i .u64)], gc := false, code :=
  (.seq (.reg 0 false (.box 2 0 (.t 0)
    (.op (some 4) .mov [(.k (.c (.int .u64 0)))]
    .nil)))
  (.seq (.seq (.reg 1 false (.op (some 5) (.ldAll (.slot 0) 65) [(.t 2)]
    (.op (some 6) .mov [(.t 1)]
    (.op (some 7) (.call 16 [.b]) [(.t 5), (.t 6)]
    (.op (some 8) (.un .not) [(.t 7)]
    .nil)))))
  (.cond (.t 8)
  (.seq (.reg 2 false (.op (some 4) .mov [(.k (.c (.int .u64 0)))]
    .nil))
  .ret)
  .skip))
  (.seq (.reg 3 false (.op (some 9) .mov [(.t 1)]
    (.op (some 10) (.addr 1) [(.t 2)]
    (.op (some 11) (.idxA 64 1) [(.t 10), (.t 9)]
    (.op (some 12) (.ld (.slot 0) (.i .u64)) [(.t 11)]
    (.op (some 4) .mov [(.t 12)]
    .nil))))))
  .ret))) }


end Jq

namespace Jq
open Go

/- (jacquard/set.Set).Has: 17 -/
def set_Set_Has : Fn := { np := 2, nt := 10, ns := 0, res := [.t 4 .b], gc := false, code :=
  (.seq (.reg 0 false (.op (some 4) .mov [(.k (.c (.bool false)))]
    .nil))
  (.seq (.reg 1 false (.op (some 5) .mov [(.t 0)]
    (.op (some 6) .mov [(.t 1)]
    (.op (some 7) (.call 19 [(.i .u64)]) [(.t 6)]
    (.op (some 8) (.bin .and) [(.t 5), (.t 7)]
    (.op (some 9) (.bin .neq) [(.t 8), (.k (.c (.int .u64 0)))]
    (.op (some 4) .mov [(.t 9)]
    .nil)))))))
  .ret)) }

/- (jacquard/set.Set).With: 18 -/
def set_Set_With : Fn := { np := 2, nt := 9, ns := 0, res := [.t 4 (.i .u64)], gc := false, code :=
  (.seq (.reg 0 false (.op (some 4) .mov [(.k (.c (.int .u64 0)))]
    .nil))
  (.seq (.reg 1 false (.op (some 5) .mov [(.t 0)]
    (.op (some 6) .mov [(.t 1)]
    (.op (some 7) (.call 19 [(.i .u64)]) [(.t 6)]
    (.op (some 8) (.bin .or) [(.t 5), (.t 7)]
    (.op (some 4) .mov [(.t 8)]
    .nil))))))
  .ret)) }

/- jacquard/set.bit: 19 -/
def set_bit : Fn := { np := 1, nt := 12, ns := 0, res := [.t 2 (.i .u64)], gc := false, code :=
  (.seq (.reg 0 false (.op (some 2) .mov [(.k (.c (.int .u64 0)))]
    .nil))
  (.seq (.seq (.reg 1 false (.op (some 3) .mov [(.t 0)]
    (.op (some 4) (.bin .lss) [(.t 3), (.k (.c (.int .i64 0)))]
    (.op (some 5) .mov [(.t 4)]
    (.sc 5 false (.op (some 6) .mov [(.t 0)]
    (.op (some 7) (.bin .geq) [(.t 6), (.k (.c (.int .i64 64)))]
    .nil)) 7 8 true
    .nil)))))
  (.cond (.t 8)
  (.seq (.reg 2 false (.op (some 2) .mov [(.k (.c (.int .u64 0)))]
    .nil))
  .ret)
  .skip))
  (.seq (.reg 3 false (.op (some 9) .mov [(.t 0)]
    (.op (some 10) (.conv .u64) [(.t 9)]
    (.op (some 11) (.bin .shl) [(.k (.c (.int .u64 1))), (.t 10)]
    (.op (some 2) .mov [(.t 11)]
    .nil)))))
  .ret))) }

/- (jacquard/set.Set).Without: 63 -/
def set_Set_Without : Fn := { np := 2, nt := 9, ns := 0, res := [.t 4 (.i .u64)], gc := false, code :=
  (.seq (.reg 0 false (.op (some 4) .mov [(.k (.c (.int .u64 0)))]
    .nil))
  (.seq (.reg 1 false (.op (some 5) .mov [(.t 0)]
    (.op (some 6) .mov [(.t 1)]
    (.op (some 7) (.call 19 [(.i .u64)]) [(.t 6)]
    (.op (some 8) (.bin .andNot) [(.t 5), (.t 7)]
    (.op (some 4) .mov [(.t 8)]
    .nil))))))
  .ret)) }


end Jq

namespace Jq
open Go


end Jq

/- What a function needs of an environment. -/
namespace Jq
open Go


end Jq

/- What a function needs of an environment. -/
namespace Jq
open Go

structure set_bit_In (E : Env) : Prop where
  fn : E.fn 19 = some set_bit

structure set_Set_With_In (E : Env) : Prop where
  fn : E.fn 18 = some set_Set_With
  c19 : set_bit_In E

structure set_Set_Has_In (E : Env) : Prop where
  fn : E.fn 17 = some set_Set_Has
  c19 : set_bit_In E

structure set_Set_Without_In (E : Env) : Prop where
  fn : E.fn 63 = some set_Set_Without
  c19 : set_bit_In E

end Jq

/- What a function needs of an environment. -/
namespace Jq
open Go

structure rel_New_In (E : Env) : Prop where
  fn : E.fn 9 = some rel_New

structure rel_Rel_in_In (E : Env) : Prop where
  fn : E.fn 16 = some rel_Rel_in

structure rel_Rel_Add_In (E : Env) : Prop where
  fn : E.fn 10 = some rel_Rel_Add
  c16 : rel_Rel_in_In E
  c18 : set_Set_With_In E

structure rel_Rel_Has_In (E : Env) : Prop where
  fn : E.fn 3 = some rel_Rel_Has
  c16 : rel_Rel_in_In E
  c17 : set_Set_Has_In E

structure rel_Rel_Closure_In (E : Env) : Prop where
  fn : E.fn 12 = some rel_Rel_Closure
  c17 : set_Set_Has_In E

structure rel_Rel_N_In (E : Env) : Prop where
  fn : E.fn 14 = some rel_Rel_N

structure rel_Rel_Acyclic_In (E : Env) : Prop where
  fn : E.fn 26 = some rel_Rel_Acyclic
  c12 : rel_Rel_Closure_In E
  c17 : set_Set_Has_In E

structure rel_Rel_Row_In (E : Env) : Prop where
  fn : E.fn 41 = some rel_Rel_Row
  c16 : rel_Rel_in_In E

end Jq

/- What a function needs of an environment. -/
namespace Jq
open Go

structure jacquardlaw8_Of_In (E : Env) : Prop where
  fn : E.fn 1 = some jacquardlaw8_Of
  c9 : rel_New_In E
  c10 : rel_Rel_Add_In E
  c13 : jacquardref6_Rel_Add_In E

structure jacquardlaw8_awake_In (E : Env) : Prop where
  fn : E.fn 55 = some jacquardlaw8_awake
  c3 : rel_Rel_Has_In E
  c9 : rel_New_In E
  c10 : rel_Rel_Add_In E
  c12 : rel_Rel_Closure_In E
  c14 : rel_Rel_N_In E
  c26 : rel_Rel_Acyclic_In E

structure jacquardlaw8_RelAcyclic_In (E : Env) : Prop where
  fn : E.fn 238 = some jacquardlaw8_RelAcyclic
  c1 : jacquardlaw8_Of_In E
  c3 : rel_Rel_Has_In E
  c10 : rel_Rel_Add_In E
  c12 : rel_Rel_Closure_In E
  c26 : rel_Rel_Acyclic_In E
  c55 : jacquardlaw8_awake_In E

end Jq

/- The seat: where the functions that are reached lie in the given program, and that each is the given one. -/
namespace Go.Proofs.Ytkdicbhkkancoaa.LRelAcyclic
open Go Jq

def seatFn : Nat → Nat
  | 1 => 5
  | 3 => 10
  | 9 => 14
  | 10 => 8
  | 12 => 9
  | 13 => 15
  | 14 => 16
  | 16 => 17
  | 17 => 12
  | 18 => 18
  | 19 => 19
  | 26 => 6
  | 55 => 7
  | 238 => 3
  | _ => 0

def envFn : Nat → Option Jq.Fn
  | 1 => some jacquardlaw8_Of
  | 3 => some rel_Rel_Has
  | 9 => some rel_New
  | 10 => some rel_Rel_Add
  | 12 => some rel_Rel_Closure
  | 13 => some jacquardref6_Rel_Add
  | 14 => some rel_Rel_N
  | 16 => some rel_Rel_in
  | 17 => some set_Set_Has
  | 18 => some set_Set_With
  | 19 => some set_bit
  | 26 => some rel_Rel_Acyclic
  | 55 => some jacquardlaw8_awake
  | 238 => some jacquardlaw8_RelAcyclic
  | _ => none

def seatTab : Nat → List Cell := fun _ => []
noncomputable def seat : Seat := { P := Try.prog, fn := seatFn, gl := fun _ => 0, tab := seatTab }
def env : Env := { fn := envFn, tab := seatTab }

theorem mixed : true = true → seat.P.follows .mixedOrders = true := fun _ => by kernel_rfl

theorem ok_1 : FnOk seat 1 jacquardlaw8_Of := ⟨⟨Try.f5, _, drK seat true, Try.func5, rfl, by kernel_rfl, by kernel_rfl, by kernel_rfl, by kernel_rfl, fun _ _ h => draw_sound mixed h⟩⟩
theorem ok_3 : FnOk seat 3 rel_Rel_Has := ⟨⟨Try.f10, _, drK seat true, Try.func10, rfl, by kernel_rfl, by kernel_rfl, by kernel_rfl, by kernel_rfl, fun _ _ h => draw_sound mixed h⟩⟩
theorem ok_9 : FnOk seat 9 rel_New := ⟨⟨Try.f14, _, drK seat true, Try.func14, rfl, by kernel_rfl, by kernel_rfl, by kernel_rfl, by kernel_rfl, fun _ _ h => draw_sound mixed h⟩⟩
theorem ok_10 : FnOk seat 10 rel_Rel_Add := ⟨⟨Try.f8, _, drK seat true, Try.func8, rfl, by kernel_rfl, by kernel_rfl, by kernel_rfl, by kernel_rfl, fun _ _ h => draw_sound mixed h⟩⟩
theorem ok_12 : FnOk seat 12 rel_Rel_Closure := ⟨⟨Try.f9, _, drK seat true, Try.func9, rfl, by kernel_rfl, by kernel_rfl, by kernel_rfl, by kernel_rfl, fun _ _ h => draw_sound mixed h⟩⟩
theorem ok_13 : FnOk seat 13 jacquardref6_Rel_Add := ⟨⟨Try.f15, _, drK seat true, Try.func15, rfl, by kernel_rfl, by kernel_rfl, by kernel_rfl, by kernel_rfl, fun _ _ h => draw_sound mixed h⟩⟩
theorem ok_14 : FnOk seat 14 rel_Rel_N := ⟨⟨Try.f16, _, drK seat true, Try.func16, rfl, by kernel_rfl, by kernel_rfl, by kernel_rfl, by kernel_rfl, fun _ _ h => draw_sound mixed h⟩⟩
theorem ok_16 : FnOk seat 16 rel_Rel_in := ⟨⟨Try.f17, _, drK seat true, Try.func17, rfl, by kernel_rfl, by kernel_rfl, by kernel_rfl, by kernel_rfl, fun _ _ h => draw_sound mixed h⟩⟩
theorem ok_17 : FnOk seat 17 set_Set_Has := ⟨⟨Try.f12, _, drK seat true, Try.func12, rfl, by kernel_rfl, by kernel_rfl, by kernel_rfl, by kernel_rfl, fun _ _ h => draw_sound mixed h⟩⟩
theorem ok_18 : FnOk seat 18 set_Set_With := ⟨⟨Try.f18, _, drK seat true, Try.func18, rfl, by kernel_rfl, by kernel_rfl, by kernel_rfl, by kernel_rfl, fun _ _ h => draw_sound mixed h⟩⟩
theorem ok_19 : FnOk seat 19 set_bit := ⟨⟨Try.f19, _, drK seat true, Try.func19, rfl, by kernel_rfl, by kernel_rfl, by kernel_rfl, by kernel_rfl, fun _ _ h => draw_sound mixed h⟩⟩
theorem ok_26 : FnOk seat 26 rel_Rel_Acyclic := ⟨⟨Try.f6, _, drK seat true, Try.func6, rfl, by kernel_rfl, by kernel_rfl, by kernel_rfl, by kernel_rfl, fun _ _ h => draw_sound mixed h⟩⟩
theorem ok_55 : FnOk seat 55 jacquardlaw8_awake := ⟨⟨Try.f7, _, drK seat true, Try.func7, rfl, by kernel_rfl, by kernel_rfl, by kernel_rfl, by kernel_rfl, fun _ _ h => draw_sound mixed h⟩⟩
theorem ok_238 : FnOk seat 238 jacquardlaw8_RelAcyclic := ⟨⟨Try.f3, _, drK seat true, Try.func3, rfl, by kernel_rfl, by kernel_rfl, by kernel_rfl, by kernel_rfl, fun _ _ h => draw_sound mixed h⟩⟩

theorem allOk : ∀ g fn, env.fn g = some fn → FnOk seat g fn := by
  intro g fn h
  unfold env envFn at h
  dsimp only at h
  split at h
  · cases h; exact ok_1
  · cases h; exact ok_3
  · cases h; exact ok_9
  · cases h; exact ok_10
  · cases h; exact ok_12
  · cases h; exact ok_13
  · cases h; exact ok_14
  · cases h; exact ok_16
  · cases h; exact ok_17
  · cases h; exact ok_18
  · cases h; exact ok_19
  · cases h; exact ok_26
  · cases h; exact ok_55
  · cases h; exact ok_238
  · cases h

theorem in_9 : rel_New_In env := { fn := rfl }
theorem in_16 : rel_Rel_in_In env := { fn := rfl }
theorem in_19 : set_bit_In env := { fn := rfl }
theorem in_18 : set_Set_With_In env := { fn := rfl, c19 := in_19 }
theorem in_10 : rel_Rel_Add_In env := { fn := rfl, c16 := in_16, c18 := in_18 }
theorem in_13 : jacquardref6_Rel_Add_In env := { fn := rfl }
theorem in_1 : jacquardlaw8_Of_In env := { fn := rfl, c9 := in_9, c10 := in_10, c13 := in_13 }
theorem in_17 : set_Set_Has_In env := { fn := rfl, c19 := in_19 }
theorem in_3 : rel_Rel_Has_In env := { fn := rfl, c16 := in_16, c17 := in_17 }
theorem in_12 : rel_Rel_Closure_In env := { fn := rfl, c17 := in_17 }
theorem in_26 : rel_Rel_Acyclic_In env := { fn := rfl, c12 := in_12, c17 := in_17 }
theorem in_14 : rel_Rel_N_In env := { fn := rfl }
theorem in_55 : jacquardlaw8_awake_In env := { fn := rfl, c3 := in_3, c9 := in_9, c10 := in_10, c12 := in_12, c14 := in_14, c26 := in_26 }
theorem in_238 : jacquardlaw8_RelAcyclic_In env := { fn := rfl, c1 := in_1, c3 := in_3, c10 := in_10, c12 := in_12, c26 := in_26, c55 := in_55 }

end Go.Proofs.Ytkdicbhkkancoaa.LRelAcyclic

namespace Jq
open Go

/- (jacquard/set.Set).Has: 17 -/
set_option maxRecDepth 100000 in
theorem set_Set_Has_eq (C : CallF) (L : LoopF) (G : Glo) (a0 : Int) (a1 : Int) (h0 : AHeap) :
    set_Set_Has.body C L G [(.c (.int .u64 a0)), (.c (.int .i64 a1))] h0 =
    c1 (C 19 [(.c (.int .i64 a1))] h0) fun y_2 h_1 => asI .u64 y_2 fun n_3 => some ([(.c (.bool ((G.band .u64 a0 n_3) != 0)))], h_1) := by kernel_rfl

/- (jacquard/set.Set).With: 18 -/
set_option maxRecDepth 100000 in
theorem set_Set_With_eq (C : CallF) (L : LoopF) (G : Glo) (a0 : Int) (a1 : Int) (h0 : AHeap) :
    set_Set_With.body C L G [(.c (.int .u64 a0)), (.c (.int .i64 a1))] h0 =
    c1 (C 19 [(.c (.int .i64 a1))] h0) fun y_2 h_1 => asI .u64 y_2 fun n_3 => some ([(.c (.int .u64 (G.bor .u64 a0 n_3)))], h_1) := by kernel_rfl

/- jacquard/set.bit: 19 -/
set_option maxRecDepth 100000 in
theorem set_bit_eq (C : CallF) (L : LoopF) (G : Glo) (a0 : Int) (h0 : AHeap) :
    set_bit.body C L G [(.c (.int .i64 a0))] h0 =
    scK (decide (a0 < 0)) false (some ((decide (a0 ≥ 64)), h0)) true h0 fun b_1 h_2 => if b_1 = true then some ([(.c (.int .u64 0))], h_2) else if (G.wrap .u64 a0) < 0 then none else some ([(.c (.int .u64 (G.shl .u64 1 (G.wrap .u64 a0))))], h_2) := by kernel_rfl

/- (jacquard/set.Set).Without: 63 -/
set_option maxRecDepth 100000 in
theorem set_Set_Without_eq (C : CallF) (L : LoopF) (G : Glo) (a0 : Int) (a1 : Int) (h0 : AHeap) :
    set_Set_Without.body C L G [(.c (.int .u64 a0)), (.c (.int .i64 a1))] h0 =
    c1 (C 19 [(.c (.int .i64 a1))] h0) fun y_2 h_1 => asI .u64 y_2 fun n_3 => some ([(.c (.int .u64 (G.bandNot .u64 a0 n_3)))], h_1) := by kernel_rfl


end Jq

/- Few numbers in one word: what the package's functions come to. -/
namespace Jq
open Go

/-- A number's bit. -/
def bitI (i : Int) : Nat := if 0 ≤ i ∧ i < 64 then 2 ^ i.toNat else 0

theorem bitI_lt (i : Int) : bitI i < 2 ^ 64 := by
  unfold bitI; split
  · exact Nat.pow_lt_pow_right (by omega) (by omega)
  · omega

theorem testBit_bitI (i : Int) (j : Nat) : (bitI i).testBit j = (decide (i = j) && decide (j < 64)) := by
  unfold bitI; split
  · rename_i h
    rw [Nat.testBit_two_pow]
    rw [Bool.eq_iff_iff]; simp; omega
  · rename_i h
    rw [Nat.zero_testBit, eq_comm, Bool.eq_false_iff]; simp; omega

/-- Whether a number is in it. -/
def hasI (s : Nat) (i : Int) : Bool := decide (0 ≤ i) && s.testBit i.toNat && decide (i < 64)

theorem and_bitI {s : Nat} (i : Int) : ((s &&& bitI i) != 0) = hasI s i := by
  unfold hasI bitI
  by_cases h : 0 ≤ i ∧ i < 64
  · rw [if_pos h]
    simp only [h.1, h.2, decide_true, Bool.true_and, Bool.and_true]
    cases hb : s.testBit i.toNat with
    | true =>
      simp only [bne_iff_ne, ne_eq]
      intro h0
      have := congrArg (fun x => x.testBit i.toNat) h0
      simp [Nat.testBit_and, hb, Nat.testBit_two_pow] at this
    | false =>
      have : s &&& 2 ^ i.toNat = 0 := by
        refine Nat.eq_of_testBit_eq fun j => ?_
        rw [Nat.testBit_and, Nat.testBit_two_pow, Nat.zero_testBit]
        by_cases hj : i.toNat = j
        · subst hj; simp [hb]
        · simp [hj]
      simp [this]
  · rw [if_neg h]
    have : ¬ (0 ≤ i) ∨ ¬ (i < 64) := by omega
    rcases this with h | h <;> simp [h]

theorem hasI_nat {s i : Nat} (hi : i < 64) : hasI s (i : Int) = s.testBit i := by
  unfold hasI; simp; omega

variable {E : Env}

theorem bit_R (hE : set_bit_In E) (i : Int) (h : AHeap) : R E 19 [.c (.int .i64 i)] h = some ([.c (.int .u64 (bitI i))], h) := by
  refine R_intro hE.fn ?_
  rw [set_bit_eq, scK_or]
  unfold bitI
  by_cases hi : 0 ≤ i ∧ i < 64
  · have h1 : (decide (i < 0) || decide (i ≥ 64)) = false := by simp; omega
    rw [h1, if_pos hi]
    obtain ⟨n, rfl⟩ := Int.eq_ofNat_of_zero_le hi.1
    have hw : E.glob.wrap .u64 (n : Int) = n := wrap_u64n (by omega)
    rw [hw]
    simp only [Bool.false_eq_true, if_false]
    rw [if_neg (by omega), show E.glob.shl .u64 1 (n : Int) = _ from std_shl_one (by omega)]
    simp
  · have h1 : (decide (i < 0) || decide (i ≥ 64)) = true := by simp; omega
    rw [h1, if_neg hi]; simp

theorem Has_R (hE : set_Set_Has_In E) {s : Nat} (hs : s < 2 ^ 64) (i : Int) (h : AHeap) : R E 17 [.c (.int .u64 s), .c (.int .i64 i)] h = some ([.c (.bool (hasI s i))], h) := by
  refine R_intro hE.fn ?_
  rw [set_Set_Has_eq, bit_R hE.c19, c1_ok, asI_ok, show E.glob.band .u64 (s : Int) _ = _ from std_band hs (bitI_lt i), ← and_bitI]
  have : (((s &&& bitI i : Nat) : Int) != 0) = (s &&& bitI i != 0) := by rw [Bool.eq_iff_iff]; simp
  rw [this]

theorem With_R (hE : set_Set_With_In E) {s : Nat} (hs : s < 2 ^ 64) (i : Int) (h : AHeap) : R E 18 [.c (.int .u64 s), .c (.int .i64 i)] h = some ([.c (.int .u64 ((s ||| bitI i : Nat) : Int))], h) := by
  refine R_intro hE.fn ?_
  rw [set_Set_With_eq, bit_R hE.c19, c1_ok, asI_ok, show E.glob.bor .u64 (s : Int) _ = _ from std_bor hs (bitI_lt i)]

theorem Without_R (hE : set_Set_Without_In E) {s : Nat} (hs : s < 2 ^ 64) (i : Int) (h : AHeap) : R E 63 [.c (.int .u64 s), .c (.int .i64 i)] h = some ([.c (.int .u64 ((ndiff s (bitI i) : Nat) : Int))], h) := by
  refine R_intro hE.fn ?_
  rw [set_Set_Without_eq, bit_R hE.c19, c1_ok, asI_ok, show E.glob.bandNot .u64 (s : Int) _ = _ from std_bandNot hs (bitI_lt i)]

end Jq

namespace Jq
open Go

/- (jacquard/rel.Rel).Has: 3 -/
set_option maxRecDepth 100000 in
theorem rel_Rel_Has_eq (C : CallF) (L : LoopF) (G : Glo) (l0 : List Cell) (a1 : Int) (a2 : Int) (h0 : AHeap) :
    rel_Rel_Has.body C L G [(.agg l0), (.c (.int .i64 a1)), (.c (.int .i64 a2))] h0 =
    if 0 = 0 ∧ l0.length = 65 then c1 (C 16 [(.agg l0), (.c (.int .i64 a1))] h0) fun y_2 h_1 => asB y_2 fun b_3 => scK b_3 true (if 0 ≤ a1 ∧ a1 < ((64 : Nat) : Int) then atK l0 (1 + ((Int.toNat a1) * 1)) fun q_4 => asI .u64 (.c q_4) fun n_5 => c1 (C 17 [(.c (.int .u64 n_5)), (.c (.int .i64 a2))] h_1) fun y_7 h_6 => asB y_7 fun b_8 => some (b_8, h_6) else none) false h_1 fun b_9 h_10 => some ([(.c (.bool b_9))], h_10) else none := by kernel_rfl

/- jacquard/rel.New: 9 -/
set_option maxRecDepth 100000 in
theorem rel_New_eq (C : CallF) (L : LoopF) (G : Glo) (a0 : Int) (h0 : AHeap) :
    rel_New.body C L G [(.c (.int .i64 a0))] h0 =
    let v_1 : Int := (if 64 < (if 0 > a0 then 0 else a0) then 64 else (if 0 > a0 then 0 else a0)); if 0 = 0 ∧ ([Cell.int .i64 0] ++ List.replicate 64 (Cell.int .u64 0)).length = 65 ∧ (splice ([Cell.int .i64 0] ++ List.replicate 64 (Cell.int .u64 0)) 0 ([(.int .i64 v_1)] : List Cell)).length = 65 then if 0 = 0 ∧ (splice ([Cell.int .i64 0] ++ List.replicate 64 (Cell.int .u64 0)) 0 ([(.int .i64 v_1)] : List Cell)).length = 65 then some ([(.agg (splice ([Cell.int .i64 0] ++ List.replicate 64 (Cell.int .u64 0)) 0 ([(.int .i64 v_1)] : List Cell)))], h0) else none else none := by kernel_rfl

/- (jacquard/rel.Rel).Add: 10 -/
set_option maxRecDepth 100000 in
theorem rel_Rel_Add_eq (C : CallF) (L : LoopF) (G : Glo) (l0 : List Cell) (a1 : Int) (a2 : Int) (h0 : AHeap) :
    rel_Rel_Add.body C L G [(.agg l0), (.c (.int .i64 a1)), (.c (.int .i64 a2))] h0 =
    if 0 = 0 ∧ l0.length = 65 then c1 (C 16 [(.agg l0), (.c (.int .i64 a1))] h0) fun y_2 h_1 => asB y_2 fun b_3 => scK b_3 true (if 0 = 0 ∧ l0.length = 65 then c1 (C 16 [(.agg l0), (.c (.int .i64 a2))] h_1) fun y_5 h_4 => asB y_5 fun b_6 => some (b_6, h_4) else none) false h_1 fun b_7 h_8 => if b_7 = true then if 0 ≤ a1 ∧ a1 < ((64 : Nat) : Int) then atK l0 (1 + ((Int.toNat a1) * 1)) fun q_9 => asI .u64 (.c q_9) fun n_10 => c1 (C 18 [(.c (.int .u64 n_10)), (.c (.int .i64 a2))] h_8) fun y_12 h_11 => asI .u64 y_12 fun n_13 => if 0 ≤ a1 ∧ a1 < ((64 : Nat) : Int) then if (1 + ((Int.toNat a1) * 1)) < l0.length then if 0 = 0 ∧ (l0.set (1 + ((Int.toNat a1) * 1)) (.int .u64 n_13)).length = 65 then if 0 = 0 ∧ ([Cell.int .i64 0] ++ List.replicate 64 (Cell.int .u64 0)).length = 65 ∧ (l0.set (1 + ((Int.toNat a1) * 1)) (.int .u64 n_13)).length = 65 then if 0 = 0 ∧ (l0.set (1 + ((Int.toNat a1) * 1)) (.int .u64 n_13)).length = 65 then some ([(.agg (l0.set (1 + ((Int.toNat a1) * 1)) (.int .u64 n_13)))], h_11) else none else none else none else none else none else none else if 0 = 0 ∧ l0.length = 65 then if 0 = 0 ∧ ([Cell.int .i64 0] ++ List.replicate 64 (Cell.int .u64 0)).length = 65 ∧ l0.length = 65 then if 0 = 0 ∧ l0.length = 65 then some ([(.agg l0)], h_8) else none else none else none else none := by kernel_rfl

/- (jacquard/rel.Rel).Closure: 12 -/
def rel_Rel_Closure_k2 (C : CallF) (L : LoopF) (G : Glo) (h0 : AHeap) : Ex → St → Option (List AV × AHeap) :=
  kSeq (fun st => rel_Rel_Closure_p1.exec C L G st (rel_Rel_Closure.fin G h0)) (rel_Rel_Closure.fin G h0)
def rel_Rel_Closure_k3 (C : CallF) (L : LoopF) (G : Glo) (h0 : AHeap) : Ex → St → Option (List AV × AHeap) :=
  kBlk 0 (rel_Rel_Closure_k2 C L G h0)
def rel_Rel_Closure_s2 (a6 : Int) (a7 : Int) (s0 : List Cell) (s1 : List Cell) (h : AHeap) : St := ⟨[.top, .loc 0 0, .loc 1 0, .top, .top, .top, .v (.c (.int .i64 a6)), .v (.c (.int .i64 a7)), .top, .top, .top, .top, .top, .top, .top, .top, .top, .top, .top, .top, .top, .top, .top, .top, .top, .top, .top, .top, .top, .top, .top, .top, .top, .top, .top], [some s0, some s1], h⟩
def rel_Rel_Closure_F2 (C : CallF) (L : LoopF) (G : Glo) : St → Option (Ex × St) :=
  roundF (fun st f => rel_Rel_Closure_b2.exec C L G st f) [1, 2, 6, 7] [0, 1] [(1, [1, 2], [0, 1])]
def rel_Rel_Closure_k4 (C : CallF) (L : LoopF) (G : Glo) : Ex → St → Option (Ex × St) :=
  kSeq (fun st => rel_Rel_Closure_p2.exec C L G st (kLoop [1, 2, 6, 7] [0, 1] [(1, [1, 2], [0, 1])])) (kLoop [1, 2, 6, 7] [0, 1] [(1, [1, 2], [0, 1])])
def rel_Rel_Closure_k5 (C : CallF) (L : LoopF) (G : Glo) : Ex → St → Option (Ex × St) :=
  kBlk 1 (rel_Rel_Closure_k4 C L G)
def rel_Rel_Closure_k6 (C : CallF) (L : LoopF) (G : Glo) : Ex → St → Option (Ex × St) :=
  kBlk 2 (rel_Rel_Closure_k5 C L G)
def rel_Rel_Closure_s1 (a3 : Int) (a6 : Int) (a7 : Int) (a11 : Int) (a12 : Int) (s0 : List Cell) (s1 : List Cell) (h : AHeap) : St := ⟨[.top, .loc 0 0, .loc 1 0, .v (.c (.int .i64 a3)), .top, .top, .v (.c (.int .i64 a6)), .v (.c (.int .i64 a7)), .top, .top, .top, .v (.c (.int .i64 a11)), .v (.c (.int .i64 a12)), .top, .top, .top, .top, .top, .top, .top, .top, .top, .top, .top, .top, .top, .top, .top, .top, .top, .top, .top, .top, .top, .top], [some s0, some s1], h⟩
def rel_Rel_Closure_F1 (C : CallF) (L : LoopF) (G : Glo) : St → Option (Ex × St) :=
  roundF (fun st f => rel_Rel_Closure_b1.exec C L G st f) [1, 2, 3, 6, 7, 11, 12] [0, 1] [(3, [1, 2, 6, 7], [0, 1])]
def rel_Rel_Closure_x1_3 (a6 : Int) (a7 : Int) (s0 : List Cell) (s1 : List Cell) (h : AHeap) : St := ⟨[.top, .loc 0 0, .loc 1 0, .top, .top, .top, .v (.c (.int .i64 a6)), .v (.c (.int .i64 a7)), .top, .top, .top, .top, .top, .top, .top, .top, .top, .top, .top, .top, .top, .top, .top, .top, .top, .top, .top, .top, .top, .top, .top, .top, .top, .top, .top], [some s0, some s1], h⟩
def rel_Rel_Closure_x2_1 (s0 : List Cell) (s1 : List Cell) (h : AHeap) : St := ⟨[.top, .loc 0 0, .loc 1 0, .top, .top, .top, .top, .top, .top, .top, .top, .top, .top, .top, .top, .top, .top, .top, .top, .top, .top, .top, .top, .top, .top, .top, .top, .top, .top, .top, .top, .top, .top, .top, .top], [some s0, some s1], h⟩
theorem rel_Rel_Closure_r1 (C : CallF) (L : LoopF) (G : Glo) (a3 : Int) (a6 : Int) (a7 : Int) (a11 : Int) (a12 : Int) (s0 : List Cell) (s1 : List Cell) (h : AHeap) :
    rel_Rel_Closure_F1 C L G (rel_Rel_Closure_s1 a3 a6 a7 a11 a12 s0 s1 h) =
    if (decide (a12 < a11)) = true then if 0 ≤ a12 ∧ a12 < ((64 : Nat) : Int) then atK s0 (1 + ((Int.toNat a12) * 1)) fun q_5 => asI .u64 (.c q_5) fun n_6 => c1 (C 17 [(.c (.int .u64 n_6)), (.c (.int .i64 a3))] h) fun y_8 h_7 => asB y_8 fun b_9 => if b_9 = true then if 0 ≤ a12 ∧ a12 < ((64 : Nat) : Int) then atK s0 (1 + ((Int.toNat a12) * 1)) fun q_10 => asI .u64 (.c q_10) fun n_11 => if 0 ≤ a3 ∧ a3 < ((64 : Nat) : Int) then atK s0 (1 + ((Int.toNat a3) * 1)) fun q_12 => asI .u64 (.c q_12) fun n_13 => if 0 ≤ a12 ∧ a12 < ((64 : Nat) : Int) then if (1 + ((Int.toNat a12) * 1)) < s0.length then some (.normal, (rel_Rel_Closure_s1 a3 a6 a7 a11 (G.wrap .i64 (a12 + 1)) (s0.set (1 + ((Int.toNat a12) * 1)) (.int .u64 (G.bor .u64 n_11 n_13))) s1 h_7)) else none else none else none else none else some (.normal, (rel_Rel_Closure_s1 a3 a6 a7 a11 (G.wrap .i64 (a12 + 1)) s0 s1 h_7)) else none else some ((.exit 2), (rel_Rel_Closure_x1_3 a6 a7 s0 s1 h)) := by kernel_rfl
theorem rel_Rel_Closure_e1_3 (C : CallF) (L : LoopF) (G : Glo) (a6 : Int) (a7 : Int) (s0 : List Cell) (s1 : List Cell) (h : AHeap) :
    (rel_Rel_Closure_k6 C L G) (.exit 2) (rel_Rel_Closure_x1_3 a6 a7 s0 s1 h) =
    some (.normal, (rel_Rel_Closure_s2 a6 (G.wrap .i64 (a7 + 1)) s0 s1 h)) := by kernel_rfl
theorem rel_Rel_Closure_r2 (C : CallF) (L : LoopF) (G : Glo) (a6 : Int) (a7 : Int) (s0 : List Cell) (s1 : List Cell) (h : AHeap) :
    rel_Rel_Closure_F2 C L G (rel_Rel_Closure_s2 a6 a7 s0 s1 h) =
    if (decide (a7 < a6)) = true then atK s0 0 fun q_3 => asI .i64 (.c q_3) fun n_4 => (L (rel_Rel_Closure_F1 C L G) (rel_Rel_Closure_s1 a7 a6 a7 n_4 0 s0 s1 h)).bind fun p_14 => (rel_Rel_Closure_k6 C L G) p_14.1 p_14.2 else some ((.exit 0), (rel_Rel_Closure_x2_1 s0 s1 h)) := by kernel_rfl
theorem rel_Rel_Closure_e2_1 (C : CallF) (L : LoopF) (G : Glo) (h0 : AHeap) (s0 : List Cell) (s1 : List Cell) (h : AHeap) :
    (rel_Rel_Closure_k3 C L G h0) (.exit 0) (rel_Rel_Closure_x2_1 s0 s1 h) =
    if 0 = 0 ∧ s0.length = 65 then if 0 = 0 ∧ s1.length = 65 ∧ s0.length = 65 then if 0 = 0 ∧ s0.length = 65 then some ([(.agg s0)], h) else none else none else none := by kernel_rfl
set_option maxRecDepth 100000 in
theorem rel_Rel_Closure_eq (C : CallF) (L : LoopF) (G : Glo) (l0 : List Cell) (h0 : AHeap) :
    rel_Rel_Closure.body C L G [(.agg l0)] h0 =
    atK l0 0 fun q_1 => asI .i64 (.c q_1) fun n_2 => (L (rel_Rel_Closure_F2 C L G) (rel_Rel_Closure_s2 n_2 0 l0 ([Cell.int .i64 0] ++ List.replicate 64 (Cell.int .u64 0)) h0)).bind fun p_15 => (rel_Rel_Closure_k3 C L G h0) p_15.1 p_15.2 := by kernel_rfl

/- (jacquard/rel.Rel).N: 14 -/
set_option maxRecDepth 100000 in
theorem rel_Rel_N_eq (C : CallF) (L : LoopF) (G : Glo) (l0 : List Cell) (h0 : AHeap) :
    rel_Rel_N.body C L G [(.agg l0)] h0 =
    atK l0 0 fun q_1 => asI .i64 (.c q_1) fun n_2 => some ([(.c (.int .i64 n_2))], h0) := by kernel_rfl

/- (jacquard/rel.Rel).in: 16 -/
set_option maxRecDepth 100000 in
theorem rel_Rel_in_eq (C : CallF) (L : LoopF) (G : Glo) (l0 : List Cell) (a1 : Int) (h0 : AHeap) :
    rel_Rel_in.body C L G [(.agg l0), (.c (.int .i64 a1))] h0 =
    scK (decide (a1 ≥ 0)) true (atK l0 0 fun q_1 => asI .i64 (.c q_1) fun n_2 => some ((decide (a1 < n_2)), h0)) false h0 fun b_3 h_4 => some ([(.c (.bool b_3))], h_4) := by kernel_rfl

/- (jacquard/rel.Rel).Acyclic: 26 -/
def rel_Rel_Acyclic_k2 (C : CallF) (L : LoopF) (G : Glo) (h0 : AHeap) : Ex → St → Option (List AV × AHeap) :=
  kSeq (fun st => rel_Rel_Acyclic_p1.exec C L G st (rel_Rel_Acyclic.fin G h0)) (rel_Rel_Acyclic.fin G h0)
def rel_Rel_Acyclic_k3 (C : CallF) (L : LoopF) (G : Glo) (h0 : AHeap) : Ex → St → Option (List AV × AHeap) :=
  kBlk 0 (rel_Rel_Acyclic_k2 C L G h0)
def rel_Rel_Acyclic_s1 (a8 : Int) (a9 : Int) (s1 : List Cell) (h : AHeap) : St := ⟨[.top, .top, .top, .loc 1 0, .top, .top, .top, .top, .v (.c (.int .i64 a8)), .v (.c (.int .i64 a9)), .top, .top, .top, .top, .top, .top, .top, .top, .top], [none, some s1], h⟩
def rel_Rel_Acyclic_F1 (C : CallF) (L : LoopF) (G : Glo) : St → Option (Ex × St) :=
  roundF (fun st f => rel_Rel_Acyclic_b1.exec C L G st f) [3, 8, 9] [1] [(0, [2], []), (1, [], [])]
def rel_Rel_Acyclic_x1_0 (b2 : Bool) (h : AHeap) : St := ⟨[.top, .top, .v (.c (.bool b2)), .top, .top, .top, .top, .top, .top, .top, .top, .top, .top, .top, .top, .top, .top, .top, .top], [none, none], h⟩
def rel_Rel_Acyclic_x1_1 (h : AHeap) : St := ⟨[.top, .top, .top, .top, .top, .top, .top, .top, .top, .top, .top, .top, .top, .top, .top, .top, .top, .top, .top], [none, none], h⟩
theorem rel_Rel_Acyclic_r1 (C : CallF) (L : LoopF) (G : Glo) (a8 : Int) (a9 : Int) (s1 : List Cell) (h : AHeap) :
    rel_Rel_Acyclic_F1 C L G (rel_Rel_Acyclic_s1 a8 a9 s1 h) =
    if (decide (a9 < a8)) = true then if 0 ≤ a9 ∧ a9 < ((64 : Nat) : Int) then atK s1 (1 + ((Int.toNat a9) * 1)) fun q_6 => asI .u64 (.c q_6) fun n_7 => c1 (C 17 [(.c (.int .u64 n_7)), (.c (.int .i64 a9))] h) fun y_9 h_8 => asB y_9 fun b_10 => if b_10 = true then some (.ret, (rel_Rel_Acyclic_x1_0 false h_8)) else some (.normal, (rel_Rel_Acyclic_s1 a8 (G.wrap .i64 (a9 + 1)) s1 h_8)) else none else some ((.exit 0), (rel_Rel_Acyclic_x1_1 h)) := by kernel_rfl
theorem rel_Rel_Acyclic_e1_0 (C : CallF) (L : LoopF) (G : Glo) (h0 : AHeap) (b2 : Bool) (h : AHeap) :
    (rel_Rel_Acyclic_k3 C L G h0) .ret (rel_Rel_Acyclic_x1_0 b2 h) =
    some ([(.c (.bool b2))], h) := by kernel_rfl
theorem rel_Rel_Acyclic_e1_1 (C : CallF) (L : LoopF) (G : Glo) (h0 : AHeap) (h : AHeap) :
    (rel_Rel_Acyclic_k3 C L G h0) (.exit 0) (rel_Rel_Acyclic_x1_1 h) =
    some ([(.c (.bool true))], h) := by kernel_rfl
set_option maxRecDepth 100000 in
theorem rel_Rel_Acyclic_eq (C : CallF) (L : LoopF) (G : Glo) (l0 : List Cell) (h0 : AHeap) :
    rel_Rel_Acyclic.body C L G [(.agg l0)] h0 =
    if 0 = 0 ∧ l0.length = 65 then c1 (C 12 [(.agg l0)] h0) fun y_2 h_1 => asA y_2 fun l_3 => if 0 = 0 ∧ ([Cell.int .i64 0] ++ List.replicate 64 (Cell.int .u64 0)).length = 65 ∧ l_3.length = 65 then atK l_3 0 fun q_4 => asI .i64 (.c q_4) fun n_5 => (L (rel_Rel_Acyclic_F1 C L G) (rel_Rel_Acyclic_s1 n_5 0 l_3 h_1)).bind fun p_11 => (rel_Rel_Acyclic_k3 C L G h0) p_11.1 p_11.2 else none else none := by kernel_rfl

/- (jacquard/rel.Rel).Row: 41 -/
set_option maxRecDepth 100000 in
theorem rel_Rel_Row_eq (C : CallF) (L : LoopF) (G : Glo) (l0 : List Cell) (a1 : Int) (h0 : AHeap) :
    rel_Rel_Row.body C L G [(.agg l0), (.c (.int .i64 a1))] h0 =
    if 0 = 0 ∧ l0.length = 65 then c1 (C 16 [(.agg l0), (.c (.int .i64 a1))] h0) fun y_2 h_1 => asB y_2 fun b_3 => if (!b_3) = true then some ([(.c (.int .u64 0))], h_1) else if 0 ≤ a1 ∧ a1 < ((64 : Nat) : Int) then atK l0 (1 + ((Int.toNat a1) * 1)) fun q_4 => asI .u64 (.c q_4) fun n_5 => some ([(.c (.int .u64 n_5))], h_1) else none else none := by kernel_rfl


end Jq

/- Relations: what the package's functions come to. -/
namespace Jq
open Go

/-- A relation's cells: over how many, the rows. -/
def relL (n : Nat) (f : Nat → Nat) : List Cell := .int .i64 n :: (List.range 64).map fun i => .int .u64 (f i)

theorem relL_len (n : Nat) (f : Nat → Nat) : (relL n f).length = 65 := by simp [relL]
theorem relL_zero (n : Nat) (f : Nat → Nat) : (relL n f)[0]? = some (.int .i64 n) := rfl
theorem relL_row {n : Nat} {f : Nat → Nat} {i : Nat} (hi : i < 64) : (relL n f)[1 + i]? = some (.int .u64 (f i)) := by
  rw [relL, Nat.add_comm, List.getElem?_cons_succ, List.getElem?_map, List.getElem?_range hi]; rfl

def updF (f : Nat → Nat) (i v : Nat) : Nat → Nat := fun j => if j = i then v else f j

theorem relL_set {n : Nat} {f : Nat → Nat} {i v : Nat} : (relL n f).set (1 + i) (.int .u64 v) = relL n (updF f i v) := by
  rw [relL, Nat.add_comm, List.set_cons_succ, relL]
  congr 1
  refine List.ext_getElem? fun j => ?_
  rw [List.getElem?_set]
  simp only [List.length_map, List.length_range, List.getElem?_map, updF]
  by_cases hj : j < 64
  · rw [List.getElem?_range hj]
    by_cases hij : i = j
    · subst hij; simp [hj]
    · have : ¬ j = i := fun h => hij h.symm
      simp [hij, this]
  · rw [List.getElem?_eq_none (by simp; omega)]
    simp; intro h1; omega

theorem relL_congr {n : Nat} {f g : Nat → Nat} (h : ∀ i, i < 64 → f i = g i) : relL n f = relL n g := by
  unfold relL
  congr 1
  refine List.map_congr_left fun i hi => ?_
  rw [h i (by simpa using hi)]

theorem relL_inj {n m : Nat} {f g : Nat → Nat} (h : relL n f = relL m g) : n = m ∧ ∀ i, i < 64 → f i = g i := by
  have h0 : (relL n f)[0]? = (relL m g)[0]? := by rw [h]
  rw [relL_zero, relL_zero] at h0
  refine ⟨by simp at h0; omega, fun i hi => ?_⟩
  have h1 : (relL n f)[1 + i]? = (relL m g)[1 + i]? := by rw [h]
  rw [relL_row hi, relL_row hi] at h1
  simp at h1; omega

def zeroL : List Cell := [Cell.int .i64 0] ++ List.replicate 64 (Cell.int .u64 0)
theorem zero_len : ([Cell.int .i64 0] ++ List.replicate 64 (Cell.int .u64 0)).length = 65 := by simp
theorem zero_rel : ([Cell.int .i64 0] ++ List.replicate 64 (Cell.int .u64 0)) = relL 0 fun _ => 0 := by
  rw [relL, List.singleton_append]; congr 1
theorem splice_zero {n m : Nat} {f : Nat → Nat} : splice (relL m f) 0 [.int .i64 n] = relL n f := by
  simp [splice, relL]

/-- All rows are words. -/
def Words (f : Nat → Nat) : Prop := ∀ i, f i < 2 ^ 64

theorem words_zero : Words fun _ => 0 := fun _ => by simp
theorem words_upd {f : Nat → Nat} (h : Words f) {i v : Nat} (hv : v < 2 ^ 64) : Words (updF f i v) := fun j => by unfold updF; split; exact hv; exact h j

/-- Numbers, brought between nought and 64. -/
def clamp (a : Int) : Nat := min a.toNat 64

variable {E : Env}

theorem New_R (hE : rel_New_In E) (a : Int) (h : AHeap) : R E 9 [.c (.int .i64 a)] h = some ([.agg (relL (clamp a) fun _ => 0)], h) := by
  refine R_intro hE.fn ?_
  rw [rel_New_eq]
  have hv : (if 64 < (if 0 > a then 0 else a) then 64 else (if 0 > a then 0 else a)) = ((clamp a : Nat) : Int) := by
    unfold clamp; split <;> split <;> omega
  simp only [hv, zero_rel, splice_zero, relL_len, and_self, if_true]

def inR (n : Nat) (a : Int) : Bool := decide (0 ≤ a) && decide (a < n)

theorem in_R (hE : rel_Rel_in_In E) (n : Nat) (f : Nat → Nat) (a : Int) (h : AHeap) : R E 16 [.agg (relL n f), .c (.int .i64 a)] h = some ([.c (.bool (inR n a))], h) := by
  refine R_intro hE.fn ?_
  rw [rel_Rel_in_eq, atK_ok (relL_zero n f), asI_ok, scK_and]
  rfl

theorem N_R (hE : rel_Rel_N_In E) (n : Nat) (f : Nat → Nat) (h : AHeap) : R E 14 [.agg (relL n f)] h = some ([.c (.int .i64 n)], h) := by
  refine R_intro hE.fn ?_
  rw [rel_Rel_N_eq, atK_ok (relL_zero n f), asI_ok]

/-- Whether a leads to b. -/
def hasR (n : Nat) (f : Nat → Nat) (a b : Int) : Bool := inR n a && hasI (f a.toNat) b

theorem HasR_R (hE : rel_Rel_Has_In E) {n : Nat} (hn : n ≤ 64) {f : Nat → Nat} (hf : Words f) (a b : Int) (h : AHeap) : R E 3 [.agg (relL n f), .c (.int .i64 a), .c (.int .i64 b)] h = some ([.c (.bool (hasR n f a b))], h) := by
  refine R_intro hE.fn ?_
  rw [rel_Rel_Has_eq, if_pos ⟨rfl, relL_len n f⟩, in_R hE.c16, c1_ok, asB_ok]
  unfold hasR
  by_cases hi : inR n a = true
  · have h2 : 0 ≤ a ∧ a < n := by simpa [inR] using hi
    have h3 : a.toNat < 64 := by omega
    rw [hi, scK_ok, if_pos ⟨h2.1, by omega⟩, Nat.mul_one, atK_ok (relL_row h3), asI_ok, Has_R hE.c17 (hf _), c1_ok, asB_ok, bind_ok, Bool.true_and]
  · have hi' : inR n a = false := by simpa using hi
    rw [hi', scK_ft, Bool.false_and]

/-- A relation with a pair. -/
def addR (n : Nat) (f : Nat → Nat) (a b : Int) : Nat → Nat := if inR n a && inR n b then updF f a.toNat (f a.toNat ||| bitI b) else f

theorem words_add {n : Nat} {f : Nat → Nat} (hf : Words f) (a b : Int) : Words (addR n f a b) := by
  unfold addR; split
  · exact words_upd hf (or_lt (hf _) (bitI_lt b))
  · exact hf

theorem Add_R (hE : rel_Rel_Add_In E) {n : Nat} (hn : n ≤ 64) {f : Nat → Nat} (hf : Words f) (a b : Int) (h : AHeap) : R E 10 [.agg (relL n f), .c (.int .i64 a), .c (.int .i64 b)] h = some ([.agg (relL n (addR n f a b))], h) := by
  refine R_intro hE.fn ?_
  rw [rel_Rel_Add_eq, if_pos ⟨rfl, relL_len n f⟩, in_R hE.c16, c1_ok, asB_ok, if_pos ⟨rfl, relL_len n f⟩, in_R hE.c16, c1_ok, asB_ok, scK_and]
  unfold addR
  by_cases hi : (inR n a && inR n b) = true
  · rw [hi]
    simp only [Bool.and_eq_true] at hi
    have h2 : 0 ≤ a ∧ a < n := by simpa [inR] using hi.1
    have h3 : a.toNat < 64 := by omega
    simp only [if_true]
    rw [if_pos ⟨h2.1, by omega⟩, Nat.mul_one, atK_ok (relL_row h3), asI_ok, With_R hE.c18 (hf _), c1_ok, asI_ok, if_pos ⟨h2.1, by omega⟩, relL_set]
    simp only [relL_len, zero_len, and_self, if_true]
    rw [if_pos (by omega)]
  · rw [show (inR n a && inR n b) = false by simpa using hi]
    simp only [Bool.false_eq_true, if_false, relL_len, zero_len, and_self, if_true]

theorem Row_R (hE : rel_Rel_Row_In E) {n : Nat} (hn : n ≤ 64) (f : Nat → Nat) (a : Int) (h : AHeap) : R E 41 [.agg (relL n f), .c (.int .i64 a)] h = some ([.c (.int .u64 ((if inR n a then f a.toNat else 0 : Nat) : Int))], h) := by
  refine R_intro hE.fn ?_
  rw [rel_Rel_Row_eq, if_pos ⟨rfl, relL_len n f⟩, in_R hE.c16, c1_ok, asB_ok]
  by_cases hi : inR n a = true
  · have h2 : 0 ≤ a ∧ a < n := by simpa [inR] using hi
    have h3 : a.toNat < 64 := by omega
    rw [hi]
    simp only [Bool.not_true, Bool.false_eq_true, if_false, if_true]
    rw [if_pos ⟨h2.1, by omega⟩, Nat.mul_one, atK_ok (relL_row h3), asI_ok]
  · rw [show inR n a = false by simpa using hi]
    simp

/- Closing. -/

/-- One of a round: from i by k. -/
def clS (f : Nat → Nat) (k i : Nat) : Nat → Nat := if (f i).testBit k then updF f i (f i ||| f k) else f

def cl1 (k : Nat) : Nat → (Nat → Nat) → Nat → Nat
  | 0, f => f
  | i + 1, f => clS (cl1 k i f) k i

/-- The first k rounds. -/
def clK (n : Nat) (f : Nat → Nat) : Nat → Nat → Nat
  | 0 => f
  | k + 1 => cl1 k n (clK n f k)

theorem words_cl1 {f : Nat → Nat} (hf : Words f) (k : Nat) : ∀ n, Words (cl1 k n f)
  | 0 => hf
  | i + 1 => by
    have ih := words_cl1 hf k i
    unfold cl1 clS; split
    · exact words_upd ih (or_lt (ih _) (ih _))
    · exact ih

theorem words_clK {f : Nat → Nat} (hf : Words f) (n : Nat) : ∀ k, Words (clK n f k)
  | 0 => hf
  | k + 1 => words_cl1 (words_clK hf n k) k n

theorem wrap_succ {E : Env} {i : Nat} (hi : i < 9223372036854775807) : E.glob.wrap .i64 ((i : Int) + 1) = ((i + 1 : Nat) : Int) := by
  show IntKind.wrap .i64 _ = _
  rw [wrap_i64 (by omega) (by omega)]; omega

theorem Closure_R (hE : rel_Rel_Closure_In E) {n : Nat} (hn : n ≤ 64) {f : Nat → Nat} (hf : Words f) (h : AHeap) : R E 12 [.agg (relL n f)] h = some ([.agg (relL n (clK n f n))], h) := by
  refine R_intro hE.fn ?_
  rw [rel_Rel_Closure_eq, atK_ok (relL_zero n f), asI_ok]
  have outer : Lim (rel_Rel_Closure_F2 (R E) Lim E.glob) (rel_Rel_Closure_s2 n ((0 : Nat) : Int) (relL n (clK n f 0)) zeroL h) = some (.exit 0, rel_Rel_Closure_x2_1 (relL n (clK n f n)) zeroL h) := by
    refine Lim_count (fun k => rel_Rel_Closure_s2 n (k : Int) (relL n (clK n f k)) zeroL h) 0 n (by omega) (fun k _ hk => ?_) (Lim_exit ?_)
    · try dsimp only
      rw [rel_Rel_Closure_r2, if_pos (by simp; omega), atK_ok (relL_zero _ _), asI_ok]
      have inner : Lim (rel_Rel_Closure_F1 (R E) Lim E.glob) (rel_Rel_Closure_s1 k n k n ((0 : Nat) : Int) (relL n (cl1 k 0 (clK n f k))) zeroL h) = some (.exit 2, rel_Rel_Closure_x1_3 n k (relL n (cl1 k n (clK n f k))) zeroL h) := by
        refine Lim_count (fun i => rel_Rel_Closure_s1 k n k n (i : Int) (relL n (cl1 k i (clK n f k))) zeroL h) 0 n (by omega) (fun i _ hi => ?_) (Lim_exit ?_)
        · try dsimp only
          have hw := words_cl1 (words_clK hf n k) k i
          have e1 : (i : Int).toNat = i := by omega
          have e2 : (k : Int).toNat = k := by omega
          have q1 : 0 ≤ (i : Int) ∧ (i : Int) < ((64 : Nat) : Int) := by omega
          have q2 : 0 ≤ (k : Int) ∧ (k : Int) < ((64 : Nat) : Int) := by omega
          rw [rel_Rel_Closure_r1, if_pos (by simp; omega), if_pos q1, e1, e2, Nat.mul_one, Nat.mul_one, atK_ok (relL_row (by omega)), asI_ok, Has_R hE.c17 (hw _), c1_ok, asB_ok, wrap_succ (by omega), hasI_nat (by omega)]
          rw [cl1, clS]
          cases hb : (cl1 k i (clK n f k) i).testBit k with
          | true =>
            simp only [if_true]
            rw [if_pos q1, atK_ok (relL_row (by omega)), asI_ok, if_pos q2, atK_ok (relL_row (by omega)), asI_ok, if_pos q1, g_bor (hw _) (hw _), relL_set, if_pos (by rw [relL_len]; omega)]
          | false => simp only [Bool.false_eq_true, if_false]
        · try dsimp only
          rw [rel_Rel_Closure_r1, if_neg (by simp)]
      have inner' := inner
      simp only [Int.ofNat_zero, Int.natCast_zero] at inner'
      rw [show rel_Rel_Closure_s1 k n k n 0 (relL n (clK n f k)) zeroL h = rel_Rel_Closure_s1 k n k n ((0 : Nat) : Int) (relL n (cl1 k 0 (clK n f k))) zeroL h from rfl, inner, bind_ok, rel_Rel_Closure_e1_3, wrap_succ (by omega)]
      rfl
    · try dsimp only
      rw [rel_Rel_Closure_r2, if_neg (by simp)]
  rw [show rel_Rel_Closure_s2 n 0 (relL n f) ([Cell.int .i64 0] ++ List.replicate 64 (Cell.int .u64 0)) h = rel_Rel_Closure_s2 n ((0 : Nat) : Int) (relL n (clK n f 0)) zeroL h from rfl, outer, bind_ok, rel_Rel_Closure_e2_1]
  simp only [relL_len, zeroL, zero_len, and_self, if_true]

/-- Whether none leads to itself. -/
def acycR (n : Nat) (f : Nat → Nat) : Bool := !(List.range n).any fun i => (clK n f n i).testBit i

theorem Acyclic_R (hE : rel_Rel_Acyclic_In E) {n : Nat} (hn : n ≤ 64) {f : Nat → Nat} (hf : Words f) (h : AHeap) : R E 26 [.agg (relL n f)] h = some ([.c (.bool (acycR n f))], h) := by
  refine R_intro hE.fn ?_
  rw [rel_Rel_Acyclic_eq, if_pos ⟨rfl, relL_len n f⟩, Closure_R hE.c12 hn hf, c1_ok, asA_ok, if_pos ⟨rfl, zero_len, relL_len _ _⟩, atK_ok (relL_zero _ _), asI_ok]
  have hw := words_clK hf n n
  have loop := Lim_any (F := rel_Rel_Acyclic_F1 (R E) Lim E.glob) (fun i => rel_Rel_Acyclic_s1 n (i : Int) (relL n (clK n f n)) h) (fun i => (clK n f n i).testBit i) (.ret, rel_Rel_Acyclic_x1_0 false h) (.exit 0, rel_Rel_Acyclic_x1_1 h) n (fun i hi => by
      try dsimp only
      have q1 : 0 ≤ (i : Int) ∧ (i : Int) < ((64 : Nat) : Int) := by omega
      rw [rel_Rel_Acyclic_r1, if_pos (by simp; omega), if_pos q1, Int.toNat_natCast, Nat.mul_one, atK_ok (relL_row (by omega)), asI_ok, Has_R hE.c17 (hw _), c1_ok, asB_ok, wrap_succ (by omega), hasI_nat (by omega)]) (by simp) (by
      try dsimp only
      rw [rel_Rel_Acyclic_r1, if_neg (by simp)]) (by simp)
  simp only [Int.ofNat_zero, Int.natCast_zero] at loop
  rw [loop, bind_ok]
  unfold acycR
  cases (List.range n).any fun i => (clK n f n i).testBit i with
  | true => simp only [if_true]; rw [rel_Rel_Acyclic_e1_0]; rfl
  | false => simp only [Bool.false_eq_true, if_false]; rw [rel_Rel_Acyclic_e1_1]; rfl

end Jq

/- Relations: what closing is. -/
namespace Jq

/-- A way from one to another whose stops in between are below k. -/
inductive Way (f : Nat → Nat) (k : Nat) : Nat → Nat → Prop
  | one {a b : Nat} : (f a).testBit b = true → Way f k a b
  | step {a c b : Nat} : (f a).testBit c = true → c < k → Way f k c b → Way f k a b

theorem Way.mono {f : Nat → Nat} {k m : Nat} (hkm : k ≤ m) {a b : Nat} (w : Way f k a b) : Way f m a b := by
  induction w with
  | one h => exact .one h
  | step h hc _ ih => exact .step h (by omega) ih

theorem Way.trans {f : Nat → Nat} {k a c b : Nat} (w : Way f k a c) (hc : c < k) (v : Way f k c b) : Way f k a b := by
  induction w with
  | one h => exact .step h hc v
  | step h hc' _ ih => exact .step h hc' (ih hc v)

theorem Way.succ {f : Nat → Nat} {k a b : Nat} : Way f (k + 1) a b ↔ Way f k a b ∨ (Way f k a k ∧ Way f k k b) := by
  constructor
  · intro w
    induction w with
    | one h => exact .inl (.one h)
    | step h hc _ ih =>
      rcases Nat.lt_or_ge _ k with hk | hk
      · rcases ih with ih | ⟨i1, i2⟩
        · exact .inl (.step h hk ih)
        · exact .inr ⟨.step h hk i1, i2⟩
      · have : _ = k := Nat.le_antisymm (Nat.lt_succ_iff.1 hc) hk
        subst this
        rcases ih with ih | ⟨_, i2⟩
        · exact .inr ⟨.one h, ih⟩
        · exact .inr ⟨.one h, i2⟩
  · rintro (w | ⟨w1, w2⟩)
    · exact w.mono (by omega)
    · exact (w1.mono (by omega)).trans (Nat.lt_succ_self k) (w2.mono (by omega))

theorem cl1_eq (f : Nat → Nat) (k : Nat) : ∀ n i, cl1 k n f i = if i < n ∧ (f i).testBit k = true then f i ||| f k else f i := by
  intro n
  induction n with
  | zero => intro i; rw [if_neg (by omega)]; rfl
  | succ n ih =>
    intro i
    have hk : cl1 k n f k = f k := by
      rw [ih]; split
      · exact Nat.or_self _
      · rfl
    rw [cl1, clS]
    by_cases hb : (f n).testBit k = true
    · have hn : cl1 k n f n = f n := by rw [ih, if_neg (by omega)]
      rw [hn, if_pos hb, hk]
      unfold updF
      by_cases hi : i = n
      · subst hi; rw [if_pos rfl, if_pos ⟨by omega, hb⟩]
      · rw [if_neg hi, ih]
        congr 1
        rw [eq_iff_iff]
        exact and_congr_left fun _ => by omega
    · have hn : cl1 k n f n = f n := by rw [ih, if_neg (by omega)]
      rw [hn, if_neg hb, ih]
      by_cases hi : i = n
      · subst hi; rw [if_neg (by omega), if_neg (fun h => hb h.2)]
      · congr 1
        rw [eq_iff_iff]
        exact and_congr_left fun _ => by omega

/-- CLOSED, one leads to another just if there is a way. -/
theorem clK_way (n : Nat) (f : Nat → Nat) : ∀ k, k ≤ n → ∀ a b, a < n → ((clK n f k a).testBit b = true ↔ Way f k a b) := by
  intro k
  induction k with
  | zero =>
    intro _ a b _
    constructor
    · exact fun h => .one h
    · intro w
      cases w with
      | one h => exact h
      | step _ hc _ => omega
  | succ k ih =>
    intro hk a b ha
    have ih' := ih (by omega)
    rw [clK, cl1_eq, Way.succ, ← ih' a b ha, ← ih' a k ha, ← ih' k b (by omega)]
    by_cases hb : (clK n f k a).testBit k = true
    · rw [if_pos ⟨ha, hb⟩, Nat.testBit_or, Bool.or_eq_true]; simp [hb]
    · rw [if_neg (fun h => hb h.2)]; simp [hb]

theorem acycR_iff (n : Nat) (f : Nat → Nat) : acycR n f = true ↔ ∀ a, a < n → ¬ Way f n a a := by
  unfold acycR
  rw [Bool.not_eq_true', ← Bool.not_eq_true, List.any_eq_true]
  simp only [List.mem_range, not_exists, not_and]
  exact forall_congr' fun a => imp_congr_right fun ha => by rw [clK_way n f n (Nat.le_refl _) a a ha]

end Jq

namespace Jq
open Go

/- jacquard/jacquardlaw8.Of: 1 -/
def jacquardlaw8_Of_k2 (C : CallF) (L : LoopF) (G : Glo) (h0 : AHeap) : Ex → St → Option (List AV × AHeap) :=
  kSeq (fun st => jacquardlaw8_Of_p1.exec C L G st (jacquardlaw8_Of.fin G h0)) (jacquardlaw8_Of.fin G h0)
def jacquardlaw8_Of_k3 (C : CallF) (L : LoopF) (G : Glo) (h0 : AHeap) : Ex → St → Option (List AV × AHeap) :=
  kBlk 0 (jacquardlaw8_Of_k2 C L G h0)
def jacquardlaw8_Of_s1 (x1 : Cell) (k7 : Nat) (N7 : Nat) (o7 : Nat) (a8 : Int) (s0 : List Cell) (s1 : List Cell) (s2 : List Cell) (h : AHeap) : St := ⟨[.top, .v (.c x1), .top, .top, .loc 0 0, .loc 1 0, .loc 2 0, .v (.c (.ptr k7 N7 o7)), .v (.c (.int .i64 a8)), .top, .top, .top, .top, .top, .top, .top, .top, .top, .top, .top, .top, .top, .top, .top, .top, .top, .top, .top, .top, .top, .top, .top, .top, .top, .top, .top, .top, .top, .top, .top, .top, .top, .top, .top, .top, .top, .top, .top, .top, .top, .top, .top, .top, .top, .top, .top, .top, .top, .top, .top, .top, .top, .top, .top], [some s0, some s1, some s2], h⟩
def jacquardlaw8_Of_F1 (C : CallF) (L : LoopF) (G : Glo) : St → Option (Ex × St) :=
  roundF (fun st f => jacquardlaw8_Of_b1.exec C L G st f) [1, 4, 5, 6, 7, 8] [0, 1, 2] [(1, [4, 5, 6, 7], [0, 1, 2])]
def jacquardlaw8_Of_x1_1 (k7 : Nat) (N7 : Nat) (o7 : Nat) (s0 : List Cell) (s1 : List Cell) (s2 : List Cell) (h : AHeap) : St := ⟨[.top, .top, .top, .top, .loc 0 0, .loc 1 0, .loc 2 0, .v (.c (.ptr k7 N7 o7)), .top, .top, .top, .top, .top, .top, .top, .top, .top, .top, .top, .top, .top, .top, .top, .top, .top, .top, .top, .top, .top, .top, .top, .top, .top, .top, .top, .top, .top, .top, .top, .top, .top, .top, .top, .top, .top, .top, .top, .top, .top, .top, .top, .top, .top, .top, .top, .top, .top, .top, .top, .top, .top, .top, .top, .top], [some s0, some s1, some s2], h⟩
theorem jacquardlaw8_Of_r1 (C : CallF) (L : LoopF) (G : Glo) (x1 : Cell) (k7 : Nat) (N7 : Nat) (o7 : Nat) (a8 : Int) (s0 : List Cell) (s1 : List Cell) (s2 : List Cell) (h : AHeap) :
    jacquardlaw8_Of_F1 C L G (jacquardlaw8_Of_s1 x1 k7 N7 o7 a8 s0 s1 s2 h) =
    lenK x1 fun n_7 => scK (decide (a8 < n_7)) true (some ((decide (a8 < 200)), h)) false h fun b_8 h_9 => if b_8 = true then idxSK 2 x1 a8 fun k_10 N_11 o_12 => rdH h_9 k_10 N_11 fun l_13 => atK l_13 (o_12 + 0) fun q_14 => asI .i64 (.c q_14) fun n_15 => idxSK 2 x1 a8 fun k_16 N_17 o_18 => rdH h_9 k_16 N_17 fun l_19 => atK l_19 (o_18 + 1) fun q_20 => asI .i64 (.c q_20) fun n_21 => if 0 = 0 ∧ s2.length = 65 then c1 (C 10 [(.agg s2), (.c (.int .i64 n_15)), (.c (.int .i64 n_21))] h_9) fun y_23 h_22 => asA y_23 fun l_24 => if 0 = 0 ∧ s2.length = 65 ∧ l_24.length = 65 then scK (decide (n_15 ≥ 0)) true (rdH h_22 k7 N7 fun l_25 => atK l_25 (o7 + 0) fun q_26 => asI .i64 (.c q_26) fun n_27 => some ((decide (n_15 < n_27)), h_22)) false h_22 fun b_28 h_29 => scK b_28 true (some ((decide (n_21 ≥ 0)), h_29)) false h_29 fun b_30 h_31 => scK b_30 true (rdH h_31 k7 N7 fun l_32 => atK l_32 (o7 + 0) fun q_33 => asI .i64 (.c q_33) fun n_34 => some ((decide (n_21 < n_34)), h_31)) false h_31 fun b_35 h_36 => if b_35 = true then c0 (C 13 [(.c (.ptr k7 N7 o7)), (.c (.int .i64 n_15)), (.c (.int .i64 n_21))] h_36) fun h_37 => some (.normal, (jacquardlaw8_Of_s1 x1 k7 N7 o7 (G.wrap .i64 (a8 + 1)) s0 s1 l_24 h_37)) else some (.normal, (jacquardlaw8_Of_s1 x1 k7 N7 o7 (G.wrap .i64 (a8 + 1)) s0 s1 l_24 h_36)) else none else none else some ((.exit 0), (jacquardlaw8_Of_x1_1 k7 N7 o7 s0 s1 s2 h_9)) := by kernel_rfl
theorem jacquardlaw8_Of_e1_1 (C : CallF) (L : LoopF) (G : Glo) (h0 : AHeap) (k7 : Nat) (N7 : Nat) (o7 : Nat) (s0 : List Cell) (s1 : List Cell) (s2 : List Cell) (h : AHeap) :
    (jacquardlaw8_Of_k3 C L G h0) (.exit 0) (jacquardlaw8_Of_x1_1 k7 N7 o7 s0 s1 s2 h) =
    if 0 = 0 ∧ s2.length = 65 then rdH h k7 N7 fun l_38 => if o7 = 0 ∧ l_38.length = 65 then if 0 = 0 ∧ s0.length = 65 ∧ s2.length = 65 then if 0 = 0 ∧ s1.length = 65 ∧ l_38.length = 65 then if 0 = 0 ∧ s2.length = 65 then if 0 = 0 ∧ l_38.length = 65 then finish true h0 [(.agg s2), (.agg l_38)] h else none else none else none else none else none else none := by kernel_rfl
set_option maxRecDepth 100000 in
theorem jacquardlaw8_Of_eq (C : CallF) (L : LoopF) (G : Glo) (a0 : Int) (x1 : Cell) (h0 : AHeap) :
    jacquardlaw8_Of.body C L G [(.c (.int .i64 a0)), (.c x1)] h0 =
    c1 (C 9 [(.c (.int .i64 a0))] h0) fun y_2 h_1 => asA y_2 fun l_3 => if 0 = 0 ∧ ([Cell.int .i64 0] ++ List.replicate 64 (Cell.int .u64 0)).length = 65 ∧ l_3.length = 65 then let v_4 : Int := (if 64 < (if 0 > a0 then 0 else a0) then 64 else (if 0 > a0 then 0 else a0)); rdH (h_1 ++ [some (Blk.mk true 0 ([Cell.int .i64 0] ++ List.replicate 64 (Cell.int .u64 0)))]) h_1.length (([Cell.int .i64 0] ++ List.replicate 64 (Cell.int .u64 0)).length) fun l_5 => if 0 = 0 ∧ l_5.length = 65 ∧ (splice ([Cell.int .i64 0] ++ List.replicate 64 (Cell.int .u64 0)) 0 ([(.int .i64 v_4)] : List Cell)).length = 65 then putH (h_1 ++ [some (Blk.mk true 0 ([Cell.int .i64 0] ++ List.replicate 64 (Cell.int .u64 0)))]) h_1.length (splice ([Cell.int .i64 0] ++ List.replicate 64 (Cell.int .u64 0)) 0 ([(.int .i64 v_4)] : List Cell)) fun h_6 => (L (jacquardlaw8_Of_F1 C L G) (jacquardlaw8_Of_s1 x1 h_1.length (([Cell.int .i64 0] ++ List.replicate 64 (Cell.int .u64 0)).length) 0 0 ([Cell.int .i64 0] ++ List.replicate 64 (Cell.int .u64 0)) ([Cell.int .i64 0] ++ List.replicate 64 (Cell.int .u64 0)) l_3 h_6)).bind fun p_39 => (jacquardlaw8_Of_k3 C L G h0) p_39.1 p_39.2 else none else none := by kernel_rfl

/- jacquard/jacquardlaw8.awake: 55 -/
set_option maxRecDepth 100000 in
theorem jacquardlaw8_awake_eq (C : CallF) (L : LoopF) (G : Glo)  (h0 : AHeap) :
    jacquardlaw8_awake.body C L G [] h0 =
    c1 (C 9 [(.c (.int .i64 3))] h0) fun y_2 h_1 => asA y_2 fun l_3 => c1 (C 10 [(.agg l_3), (.c (.int .i64 0)), (.c (.int .i64 1))] h_1) fun y_5 h_4 => asA y_5 fun l_6 => c1 (C 10 [(.agg l_6), (.c (.int .i64 1)), (.c (.int .i64 2))] h_4) fun y_8 h_7 => asA y_8 fun l_9 => if 0 = 0 ∧ ([Cell.int .i64 0] ++ List.replicate 64 (Cell.int .u64 0)).length = 65 ∧ l_9.length = 65 then if 0 = 0 ∧ l_9.length = 65 then c1 (C 12 [(.agg l_9)] h_7) fun y_11 h_10 => asA y_11 fun l_12 => c1 (C 3 [(.agg l_12), (.c (.int .i64 0)), (.c (.int .i64 2))] h_10) fun y_14 h_13 => asB y_14 fun b_15 => scK b_15 true (if 0 = 0 ∧ l_9.length = 65 then c1 (C 3 [(.agg l_9), (.c (.int .i64 0)), (.c (.int .i64 2))] h_13) fun y_17 h_16 => asB y_17 fun b_18 => some ((!b_18), h_16) else none) false h_13 fun b_19 h_20 => scK b_19 true (if 0 = 0 ∧ l_9.length = 65 then c1 (C 26 [(.agg l_9)] h_20) fun y_22 h_21 => asB y_22 fun b_23 => some (b_23, h_21) else none) false h_20 fun b_24 h_25 => scK b_24 true (if 0 = 0 ∧ l_9.length = 65 then c1 (C 10 [(.agg l_9), (.c (.int .i64 2)), (.c (.int .i64 0))] h_25) fun y_27 h_26 => asA y_27 fun l_28 => c1 (C 26 [(.agg l_28)] h_26) fun y_30 h_29 => asB y_30 fun b_31 => some ((!b_31), h_29) else none) false h_25 fun b_32 h_33 => scK b_32 true (if 0 = 0 ∧ l_9.length = 65 then c1 (C 14 [(.agg l_9)] h_33) fun y_35 h_34 => asI .i64 y_35 fun n_36 => some ((n_36 == 3), h_34) else none) false h_33 fun b_37 h_38 => some ([(.c (.bool b_37))], h_38) else none else none := by kernel_rfl

/- jacquard/jacquardlaw8.RelAcyclic: 238 -/
def jacquardlaw8_RelAcyclic_k2 (C : CallF) (L : LoopF) (G : Glo) (h0 : AHeap) : Ex → St → Option (List AV × AHeap) :=
  kSeq (fun st => jacquardlaw8_RelAcyclic_p1.exec C L G st (jacquardlaw8_RelAcyclic.fin G h0)) (jacquardlaw8_RelAcyclic.fin G h0)
def jacquardlaw8_RelAcyclic_k3 (C : CallF) (L : LoopF) (G : Glo) (h0 : AHeap) : Ex → St → Option (List AV × AHeap) :=
  kBlk 0 (jacquardlaw8_RelAcyclic_k2 C L G h0)
def jacquardlaw8_RelAcyclic_s1 (a0 : Int) (x1 : Cell) (a2 : Int) (x7 : Cell) (a8 : Int) (h : AHeap) : St := ⟨[.v (.c (.int .i64 a0)), .v (.c x1), .v (.c (.int .i64 a2)), .top, .top, .top, .top, .v (.c x7), .v (.c (.int .i64 a8)), .top, .top, .top, .top, .top, .top, .top, .top, .top, .top, .top, .top, .top, .top, .top, .top, .top, .top, .top, .top, .top, .top, .top, .top, .top, .top, .top, .top, .top, .top, .top, .top, .top, .top, .top, .top, .top, .top, .top, .top, .top, .top, .top, .top, .top, .top, .top, .top, .top, .top, .top, .top, .top, .top, .top, .top, .top, .top, .top, .top, .top, .top, .top, .top, .top, .top, .top, .top, .top, .top, .top, .top, .top, .top, .top, .top, .top, .top, .top, .top, .top, .top, .top, .top, .top, .top, .top, .top, .top, .top, .top, .top, .top], [none, none, none, none], h⟩
def jacquardlaw8_RelAcyclic_F1 (C : CallF) (L : LoopF) (G : Glo) : St → Option (Ex × St) :=
  roundF (fun st f => jacquardlaw8_RelAcyclic_b1.exec C L G st f) [0, 1, 2, 7, 8] [] [(1, [0, 2, 7], [])]
def jacquardlaw8_RelAcyclic_x1_1 (a0 : Int) (a2 : Int) (x7 : Cell) (h : AHeap) : St := ⟨[.v (.c (.int .i64 a0)), .top, .v (.c (.int .i64 a2)), .top, .top, .top, .top, .v (.c x7), .top, .top, .top, .top, .top, .top, .top, .top, .top, .top, .top, .top, .top, .top, .top, .top, .top, .top, .top, .top, .top, .top, .top, .top, .top, .top, .top, .top, .top, .top, .top, .top, .top, .top, .top, .top, .top, .top, .top, .top, .top, .top, .top, .top, .top, .top, .top, .top, .top, .top, .top, .top, .top, .top, .top, .top, .top, .top, .top, .top, .top, .top, .top, .top, .top, .top, .top, .top, .top, .top, .top, .top, .top, .top, .top, .top, .top, .top, .top, .top, .top, .top, .top, .top, .top, .top, .top, .top, .top, .top, .top, .top, .top, .top], [none, none, none, none], h⟩
theorem jacquardlaw8_RelAcyclic_r1 (C : CallF) (L : LoopF) (G : Glo) (a0 : Int) (x1 : Cell) (a2 : Int) (x7 : Cell) (a8 : Int) (h : AHeap) :
    jacquardlaw8_RelAcyclic_F1 C L G (jacquardlaw8_RelAcyclic_s1 a0 x1 a2 x7 a8 h) =
    lenK x1 fun n_2 => scK (decide (a8 < n_2)) true (some ((decide (a8 < 60)), h)) false h fun b_3 h_4 => if b_3 = true then idxSK 2 x1 a8 fun k_5 N_6 o_7 => rdH h_4 k_5 N_6 fun l_8 => atK l_8 (o_7 + 0) fun q_9 => asI .i64 (.c q_9) fun n_10 => if a0 = 0 then none else idxSK 2 x1 a8 fun k_11 N_12 o_13 => rdH h_4 k_11 N_12 fun l_14 => atK l_14 (o_13 + 1) fun q_15 => asI .i64 (.c q_15) fun n_16 => if a0 = 0 then none else if (decide ((G.rem .i64 (G.band .i64 n_10 255) a0) < (G.rem .i64 (G.band .i64 n_16 255) a0))) = true then if (splice (splice [Cell.int .i64 0, Cell.int .i64 0] 0 ([(.int .i64 (G.rem .i64 (G.band .i64 n_10 255) a0))] : List Cell)) 1 ([(.int .i64 (G.rem .i64 (G.band .i64 n_16 255) a0))] : List Cell)).length = 2 ∧ 0 + 2 ≤ [Cell.int .i64 0, Cell.int .i64 0].length then if (splice [Cell.int .i64 0, Cell.int .i64 0] 0 (splice (splice [Cell.int .i64 0, Cell.int .i64 0] 0 ([(.int .i64 (G.rem .i64 (G.band .i64 n_10 255) a0))] : List Cell)) 1 ([(.int .i64 (G.rem .i64 (G.band .i64 n_16 255) a0))] : List Cell))).length = 1 * 2 then appK 2 16 x7 (splice [Cell.int .i64 0, Cell.int .i64 0] 0 (splice (splice [Cell.int .i64 0, Cell.int .i64 0] 0 ([(.int .i64 (G.rem .i64 (G.band .i64 n_10 255) a0))] : List Cell)) 1 ([(.int .i64 (G.rem .i64 (G.band .i64 n_16 255) a0))] : List Cell))) h_4 fun x_17 h_18 => some (.normal, (jacquardlaw8_RelAcyclic_s1 a0 x1 a2 x_17 (G.wrap .i64 (a8 + 1)) h_18)) else none else none else some (.normal, (jacquardlaw8_RelAcyclic_s1 a0 x1 a2 x7 (G.wrap .i64 (a8 + 1)) h_4)) else some ((.exit 0), (jacquardlaw8_RelAcyclic_x1_1 a0 a2 x7 h_4)) := by kernel_rfl
theorem jacquardlaw8_RelAcyclic_e1_1 (C : CallF) (L : LoopF) (G : Glo) (h0 : AHeap) (a0 : Int) (a2 : Int) (x7 : Cell) (h : AHeap) :
    (jacquardlaw8_RelAcyclic_k3 C L G h0) (.exit 0) (jacquardlaw8_RelAcyclic_x1_1 a0 a2 x7 h) =
    c2 (C 1 [(.c (.int .i64 a0)), (.c x7)] h) fun y_20 y_21 h_19 => asA y_20 fun l_22 => asA y_21 fun l_23 => if 0 = 0 ∧ ([Cell.int .i64 0] ++ List.replicate 64 (Cell.int .u64 0)).length = 65 ∧ l_22.length = 65 then if 0 = 0 ∧ ([Cell.int .i64 0] ++ List.replicate 64 (Cell.int .u64 0)).length = 65 ∧ l_23.length = 65 then if 0 = 0 ∧ l_22.length = 65 then c1 (C 26 [(.agg l_22)] h_19) fun y_25 h_24 => asB y_25 fun b_26 => if (!b_26) = true then some ([(.c (.bool false))], h_24) else lenK x7 fun n_27 => if (n_27 == 0) = true then c1 (C 55 [] h_24) fun y_29 h_28 => asB y_29 fun b_30 => some ([(.c (.bool b_30))], h_28) else lenK x7 fun n_31 => if n_31 = 0 then none else idxSK 2 x7 (G.rem .i64 (G.band .i64 a2 255) n_31) fun k_32 N_33 o_34 => rdH h_24 k_32 N_33 fun l_35 => if o_34 + 2 ≤ l_35.length then if 0 = 0 ∧ [Cell.int .i64 0, Cell.int .i64 0].length = 2 ∧ ((l_35.drop o_34).take 2).length = 2 then if 0 = 0 ∧ l_22.length = 65 then atK ((l_35.drop o_34).take 2) 1 fun q_36 => asI .i64 (.c q_36) fun n_37 => atK ((l_35.drop o_34).take 2) 0 fun q_38 => asI .i64 (.c q_38) fun n_39 => c1 (C 10 [(.agg l_22), (.c (.int .i64 n_37)), (.c (.int .i64 n_39))] h_24) fun y_41 h_40 => asA y_41 fun l_42 => if 0 = 0 ∧ ([Cell.int .i64 0] ++ List.replicate 64 (Cell.int .u64 0)).length = 65 ∧ l_42.length = 65 then if 0 = 0 ∧ l_42.length = 65 then c1 (qh h_40 (C 26 [(.agg l_42)] h_40)) fun y_44 h_43 => asB y_44 fun b_45 => scK (!b_45) true (if 0 = 0 ∧ l_42.length = 65 then c1 (qh h_40 (C 12 [(.agg l_42)] h_40)) fun y_47 h_46 => asA y_47 fun l_48 => atK ((l_35.drop o_34).take 2) 0 fun q_49 => asI .i64 (.c q_49) fun n_50 => atK ((l_35.drop o_34).take 2) 0 fun q_51 => asI .i64 (.c q_51) fun n_52 => c1 (qh h_40 (C 3 [(.agg l_48), (.c (.int .i64 n_50)), (.c (.int .i64 n_52))] h_40)) fun y_54 h_53 => asB y_54 fun b_55 => some (b_55, h_40) else none) false h_40 fun b_56 h_57 => scK b_56 true (if 0 = 0 ∧ l_22.length = 65 then c1 (qh h_57 (C 10 [(.agg l_22), (.c (.int .i64 0)), (.c (.int .i64 0))] h_57)) fun y_59 h_58 => asA y_59 fun l_60 => c1 (qh h_57 (C 26 [(.agg l_60)] h_57)) fun y_62 h_61 => asB y_62 fun b_63 => some ((!b_63), h_57) else none) false h_57 fun b_64 h_65 => scK b_64 true (c1 (qh h_65 (C 55 [] h_65)) fun y_67 h_66 => asB y_67 fun b_68 => some (b_68, h_65)) false h_65 fun b_69 h_70 => some ([(.c (.bool b_69))], h_70) else none else none else none else none else none else none else none else none := by kernel_rfl
set_option maxRecDepth 100000 in
theorem jacquardlaw8_RelAcyclic_eq (C : CallF) (L : LoopF) (G : Glo) (a0 : Int) (x1 : Cell) (a2 : Int) (h0 : AHeap) :
    jacquardlaw8_RelAcyclic.body C L G [(.c (.int .i64 a0)), (.c x1), (.c (.int .i64 a2))] h0 =
    let v_1 : Int := (G.wrap .i64 ((G.rem .i64 (G.band .i64 a0 255) 62) + 2)); (L (jacquardlaw8_RelAcyclic_F1 C L G) (jacquardlaw8_RelAcyclic_s1 v_1 x1 a2 .nils 0 h0)).bind fun p_71 => (jacquardlaw8_RelAcyclic_k3 C L G h0) p_71.1 p_71.2 := by kernel_rfl


end Jq

namespace Jq
open Go

/- (*jacquard/jacquardref6.Rel).Add: 13 -/
set_option maxRecDepth 100000 in
theorem jacquardref6_Rel_Add_eq (C : CallF) (L : LoopF) (G : Glo) (k0 : Nat) (N0 : Nat) (o0 : Nat) (a1 : Int) (a2 : Int) (h0 : AHeap) :
    jacquardref6_Rel_Add.body C L G [(.c (.ptr k0 N0 o0)), (.c (.int .i64 a1)), (.c (.int .i64 a2))] h0 =
    if 0 ≤ a1 ∧ a1 < ((64 : Nat) : Int) then rdH h0 k0 N0 fun l_1 => atK l_1 ((o0 + 1) + ((Int.toNat a1) * 1)) fun q_2 => asI .u64 (.c q_2) fun n_3 => if a2 < 0 then none else if 0 ≤ a1 ∧ a1 < ((64 : Nat) : Int) then rdH h0 k0 N0 fun l_4 => if ((o0 + 1) + ((Int.toNat a1) * 1)) < l_4.length then putH h0 k0 (l_4.set ((o0 + 1) + ((Int.toNat a1) * 1)) (.int .u64 (G.bor .u64 n_3 (G.shl .u64 1 a2)))) fun h_5 => some ([], h_5) else none else none else none := by kernel_rfl


end Jq

/- The statements of relations: what their helpers come to. -/
namespace Jq
open Go

/-- A relation of pairs. -/
def ofR (n : Nat) (l : List (Int × Int)) : Nat → Nat := l.foldl (fun f p => addR n f p.1 p.2) fun _ => 0

theorem words_of (n : Nat) (l : List (Int × Int)) : Words (ofR n l) := by
  unfold ofR
  have : ∀ (l : List (Int × Int)) (f : Nat → Nat), Words f → Words (l.foldl (fun f p => addR n f p.1 p.2) f) := by
    intro l
    induction l with
    | nil => exact fun f h => h
    | cons p l ih => exact fun f h => ih _ (words_add h _ _)
  exact this l _ words_zero

theorem of_snoc (n : Nat) (l : List (Int × Int)) (p : Int × Int) : ofR n (l ++ [p]) = addR n (ofR n l) p.1 p.2 := by
  unfold ofR; rw [List.foldl_append]; rfl

theorem take_succ {α : Type} {l : List α} {i : Nat} {p : α} (h : l[i]? = some p) : l.take (i + 1) = l.take i ++ [p] := by
  rw [List.take_add_one, h]; rfl

variable {E : Env}

theorem refAdd_R (hE : jacquardref6_Rel_Add_In E) {n : Nat} (hn : n ≤ 64) {f : Nat → Nat} (hf : Words f) {a b : Int} (ha : inR n a = true) (hb : inR n b = true) {k : Nat} {h : AHeap} (hk : blk? h k = some ⟨true, 0, relL n f⟩) :
    R E 13 [.c (.ptr k 65 0), .c (.int .i64 a), .c (.int .i64 b)] h = some ([], setBlk h k (some ⟨true, 0, relL n (addR n f a b)⟩)) := by
  refine R_intro hE.fn ?_
  have h2 : 0 ≤ a ∧ a < n := by simpa [inR] using ha
  have h3 : 0 ≤ b ∧ b < n := by simpa [inR] using hb
  have q1 : 0 ≤ a ∧ a < ((64 : Nat) : Int) := by omega
  obtain ⟨m, rfl⟩ := Int.eq_ofNat_of_zero_le h3.1
  have hbit : bitI (m : Int) = 2 ^ m := by unfold bitI; rw [if_pos (by omega)]; simp
  rw [jacquardref6_Rel_Add_eq, if_pos q1, rdH_ok hk (relL_len n f)]
  dsimp only
  rw [show 0 + 1 + a.toNat * 1 = 1 + a.toNat by omega, atK_ok (relL_row (by omega)), asI_ok, if_neg (by omega), if_pos q1, rdH_ok hk (relL_len n f)]
  dsimp only
  rw [if_pos (by rw [relL_len]; omega), g_shl_one (by omega), ← hbit, g_bor (hf _) (bitI_lt _), relL_set, putH_ok hk rfl]
  unfold addR
  rw [ha, hb]; rfl

theorem inR_le {n : Nat} {a : Int} : inR n a = (decide (a ≥ 0) && decide (a < n)) := rfl

theorem Of_R (hE : jacquardlaw8_Of_In E) (a : Int) {x : Cell} {l : List (Int × Int)} {h : AHeap} (hx : SlAt h x 2 (pairC l) l.length) (hlow : Low h.length x) :
    R E 1 [.c (.int .i64 a), .c x] h = some ([.agg (relL (clamp a) (ofR (clamp a) (l.take 200))), .agg (relL (clamp a) (ofR (clamp a) (l.take 200)))], h) := by
  refine R_intro hE.fn ?_
  have hn : clamp a ≤ 64 := by unfold clamp; omega
  generalize hN : clamp a = n at hn ⊢
  have hv : (if 64 < (if 0 > a then 0 else a) then 64 else (if 0 > a then 0 else a)) = (n : Int) := by
    rw [← hN]; unfold clamp; split <;> split <;> omega
  rw [jacquardlaw8_Of_eq, New_R hE.c9, c1_ok, asA_ok, if_pos ⟨rfl, zero_len, relL_len _ _⟩, hN]
  simp only [hv, zero_rel, relL_len]
  rw [rdH_ok (blk_new h _) (relL_len _ _)]
  dsimp only
  rw [if_pos ⟨by trivial, relL_len _ _, by rw [splice_zero]; exact relL_len _ _⟩, splice_zero, putH_ok (blk_new h _) rfl, setBlk_last]
  dsimp only
  let g : Nat → St := fun i => jacquardlaw8_Of_s1 x h.length 65 0 (i : Int) (relL 0 fun _ => 0) (relL 0 fun _ => 0) (relL n (ofR n (l.take i))) (h ++ [some ⟨true, 0, relL n (ofR n (l.take i))⟩])
  have hk : ∀ t : AHeap, SlAt (h ++ t) x 2 (pairC l) l.length := fun t => hx.keep hlow (Kp.app t (Nat.le_refl _))
  have loop : Lim (jacquardlaw8_Of_F1 (R E) Lim E.glob) (g 0) = some (.exit 0, jacquardlaw8_Of_x1_1 h.length 65 0 (relL 0 fun _ => 0) (relL 0 fun _ => 0) (relL n (ofR n (l.take 200))) (h ++ [some ⟨true, 0, relL n (ofR n (l.take 200))⟩])) := by
    refine Lim_count g 0 (min l.length 200) (by omega) (fun i _ hi => ?_) ?_
    · obtain ⟨p, hp⟩ : ∃ p, l[i]? = some p := ⟨l[i], by simp⟩
      obtain ⟨g1, g2⟩ := pairC_get l i p hp
      have hil : i < l.length := by omega
      have hw := words_of n (l.take i)
      have hki := hk [some ⟨true, 0, relL n (ofR n (l.take i))⟩]
      show jacquardlaw8_Of_F1 (R E) Lim E.glob (jacquardlaw8_Of_s1 x h.length 65 0 (i : Int) _ _ _ _) = _
      rw [jacquardlaw8_Of_r1, hx.len, scK_and, show (decide ((i : Int) < (l.length : Int)) && decide ((i : Int) < 200)) = true by simp; omega]
      simp only [if_true]
      rw [hki.get hil (by omega) g1, asI_ok, hki.get hil (by omega) g2, asI_ok, if_pos ⟨by trivial, relL_len _ _⟩, Add_R hE.c10 hn hw, c1_ok, asA_ok, if_pos ⟨by trivial, relL_len _ _, relL_len _ _⟩]
      rw [rdH_ok (blk_new h _) (relL_len _ _), atK_ok (i := 0 + 0) (relL_zero _ _), asI_ok, scK_and, ← inR_le, scK_and, rdH_ok (blk_new h _) (relL_len _ _), atK_ok (i := 0 + 0) (relL_zero _ _), asI_ok, scK_and, Bool.and_assoc, ← inR_le]
      have hnext : g (i + 1) = jacquardlaw8_Of_s1 x h.length 65 0 ((i + 1 : Nat) : Int) (relL 0 fun _ => 0) (relL 0 fun _ => 0) (relL n (addR n (ofR n (l.take i)) p.1 p.2)) (h ++ [some ⟨true, 0, relL n (addR n (ofR n (l.take i)) p.1 p.2)⟩]) := by
        show jacquardlaw8_Of_s1 x h.length 65 0 ((i + 1 : Nat) : Int) _ _ _ _ = _
        rw [take_succ hp, of_snoc]
      rw [hnext]
      by_cases hin : (inR n p.1 && inR n p.2) = true
      · rw [hin]
        simp only [Bool.and_eq_true] at hin
        simp only [if_true]
        rw [refAdd_R hE.c13 hn hw hin.1 hin.2 (blk_new h _), c0_ok, setBlk_last, g_succ (by omega)]
      · have hadd : addR n (ofR n (l.take i)) p.1 p.2 = ofR n (l.take i) := by unfold addR; rw [if_neg hin]
        rw [show (inR n p.1 && inR n p.2) = false by simpa using hin, hadd]
        simp only [Bool.false_eq_true, if_false]
        rw [g_succ (by omega)]
    · refine Lim_exit ?_
      show jacquardlaw8_Of_F1 (R E) Lim E.glob (jacquardlaw8_Of_s1 x h.length 65 0 ((min l.length 200 : Nat) : Int) _ _ _ _) = _
      rw [jacquardlaw8_Of_r1, hx.len, scK_and, show (decide (((min l.length 200 : Nat) : Int) < (l.length : Int)) && decide (((min l.length 200 : Nat) : Int) < 200)) = false by simp; omega]
      simp only [Bool.false_eq_true, if_false]
      have : l.take (min l.length 200) = l.take 200 := by rw [Nat.min_comm, ← List.take_take, List.take_length]
      rw [this]
  have start : g 0 = jacquardlaw8_Of_s1 x h.length 65 0 0 (relL 0 fun _ => 0) (relL 0 fun _ => 0) (relL n fun _ => 0) (h ++ [some ⟨true, 0, relL n fun _ => 0⟩]) := rfl
  rw [start] at loop
  rw [loop, bind_ok, jacquardlaw8_Of_e1_1, if_pos ⟨rfl, relL_len _ _⟩, rdH_ok (blk_new h _) (relL_len _ _)]
  simp only [relL_len, and_self, if_true]
  unfold finish
  have hgc : gcOk h (h ++ [some ⟨true, 0, relL n (ofR n (l.take 200))⟩]) [.agg (relL n (ofR n (l.take 200))), .agg (relL n (ofR n (l.take 200)))] = true := by
    have hav : ∀ (m k : Nat) (f : Nat → Nat), avOk m (.agg (relL k f)) = true := by
      intro m k f
      simp [avOk, AV.cells, relL, idOk]
    simp only [gcOk, Bool.and_eq_true, List.all_cons, List.all_nil, hav, decide_eq_true_eq, List.length_append, List.all_eq_true, List.mem_range, Bool.or_eq_true]
    exact ⟨⟨by omega, by trivial⟩, fun k hk => .inl (List.getElem?_append_left hk)⟩
  simp only [hgc, if_true, List.take_left]

theorem awake8_R (hE : jacquardlaw8_awake_In E) (h : AHeap) : R E 55 [] h = some ([.c (.bool true)], h) := by
  refine R_intro hE.fn ?_
  have w0 : Words fun _ => 0 := words_zero
  have w1 : Words (addR 3 (fun _ => 0) 0 1) := words_add w0 0 1
  have w2 : Words (addR 3 (addR 3 (fun _ => 0) 0 1) 1 2) := words_add w1 1 2
  have w3 := words_add (n := 3) w2 2 0
  have w4 := words_clK w2 3 3
  have c3 : clamp 3 = 3 := rfl
  have b1 : hasR 3 (clK 3 (addR 3 (addR 3 (fun _ => 0) 0 1) 1 2) 3) 0 2 = true := by decide +kernel
  have b2 : hasR 3 (addR 3 (addR 3 (fun _ => 0) 0 1) 1 2) 0 2 = false := by decide +kernel
  have b3 : acycR 3 (addR 3 (addR 3 (fun _ => 0) 0 1) 1 2) = true := by decide +kernel
  have b4 : acycR 3 (addR 3 (addR 3 (addR 3 (fun _ => 0) 0 1) 1 2) 2 0) = false := by decide +kernel
  rw [jacquardlaw8_awake_eq, New_R hE.c9, c1_ok, asA_ok, c3, Add_R hE.c10 (by omega) w0, c1_ok, asA_ok, Add_R hE.c10 (by omega) w1, c1_ok, asA_ok, if_pos ⟨rfl, zero_len, relL_len _ _⟩, if_pos ⟨rfl, relL_len _ _⟩,
    Closure_R hE.c12 (by omega) w2, c1_ok, asA_ok, HasR_R hE.c3 (by omega) w4, c1_ok, asB_ok, b1, scK_ok, if_pos ⟨rfl, relL_len _ _⟩, HasR_R hE.c3 (by omega) w2, c1_ok, asB_ok, b2, bind_ok]
  dsimp only
  rw [show (!false) = true from rfl, scK_ok, if_pos ⟨rfl, relL_len _ _⟩, Acyclic_R hE.c26 (by omega) w2, c1_ok, asB_ok, b3, bind_ok]
  dsimp only
  rw [scK_ok, if_pos ⟨rfl, relL_len _ _⟩, Add_R hE.c10 (by omega) w2, c1_ok, asA_ok, Acyclic_R hE.c26 (by omega) w3, c1_ok, asB_ok, b4, bind_ok]
  dsimp only
  rw [show (!false) = true from rfl, scK_ok, if_pos ⟨rfl, relL_len _ _⟩, N_R hE.c14, c1_ok, asI_ok, bind_ok]
  rfl

/- What pairs make. -/
theorem addR_bit {n : Nat} (hn : n ≤ 64) (f : Nat → Nat) (x y : Int) (a b : Nat) : (addR n f x y a).testBit b = ((f a).testBit b || (inR n x && inR n y && decide (x = a) && decide (y = b))) := by
  unfold addR
  by_cases hin : (inR n x && inR n y) = true
  · rw [if_pos hin, hin, Bool.true_and]
    simp only [Bool.and_eq_true] at hin
    have hx : 0 ≤ x ∧ x < n := by simpa [inR] using hin.1
    have hy : 0 ≤ y ∧ y < n := by simpa [inR] using hin.2
    unfold updF
    by_cases ha : a = x.toNat
    · rw [if_pos ha, Nat.testBit_or, testBit_bitI, ← ha]
      have h1 : decide (x = (a : Int)) = true := by simp; omega
      rw [h1, Bool.true_and]
      by_cases hb : y = (b : Int)
      · have : b < 64 := by omega
        simp [hb, this]
      · simp [hb]
    · rw [if_neg ha]
      have h1 : decide (x = (a : Int)) = false := by simp; omega
      rw [h1, Bool.false_and, Bool.or_false]
  · rw [if_neg hin, show (inR n x && inR n y) = false by simpa using hin]; simp

theorem of_bit {n : Nat} (hn : n ≤ 64) (l : List (Int × Int)) (a b : Nat) : (ofR n l a).testBit b = true ↔ ∃ p ∈ l, inR n p.1 = true ∧ inR n p.2 = true ∧ p.1 = a ∧ p.2 = b := by
  have key : ∀ (l : List (Int × Int)) (f : Nat → Nat), ((l.foldl (fun f p => addR n f p.1 p.2) f) a).testBit b = true ↔ ((f a).testBit b = true ∨ ∃ p ∈ l, inR n p.1 = true ∧ inR n p.2 = true ∧ p.1 = a ∧ p.2 = b) := by
    intro l
    induction l with
    | nil => intro f; simp
    | cons p l ih =>
      intro f
      rw [List.foldl_cons, ih, addR_bit hn, Bool.or_eq_true]
      simp only [List.mem_cons, Bool.and_eq_true, decide_eq_true_eq]
      constructor
      · rintro ((h | ⟨⟨⟨h1, h2⟩, h3⟩, h4⟩) | ⟨q, hq, h⟩)
        · exact .inl h
        · exact .inr ⟨p, .inl rfl, h1, h2, h3, h4⟩
        · exact .inr ⟨q, .inr hq, h⟩
      · rintro (h | ⟨q, rfl | hq, h⟩)
        · exact .inl (.inl h)
        · exact .inl (.inr ⟨⟨⟨h.1, h.2.1⟩, h.2.2.1⟩, h.2.2.2⟩)
        · exact .inr ⟨q, hq, h⟩
  unfold ofR
  rw [key]; simp

theorem inR_nat {n a : Nat} : inR n (a : Int) = decide (a < n) := by
  unfold inR
  rw [Bool.eq_iff_iff]; simp

end Jq

/- RelAcyclic: pairs that all rise lead nobody back; one pair back along a way does. -/
namespace Jq
open Go

variable {E : Env}

/-- The pairs that rise. -/
def upR (n : Nat) (l : List (Int × Int)) : List (Int × Int) := (l.map fun p => (p.1 % 256 % (n : Int), p.2 % 256 % (n : Int))).filter fun p => decide (p.1 < p.2)

theorem upR_snoc (n : Nat) (l : List (Int × Int)) (p : Int × Int) : upR n (l ++ [p]) = upR n l ++ if p.1 % 256 % n < p.2 % 256 % n then [(p.1 % 256 % n, p.2 % 256 % n)] else [] := by
  unfold upR
  rw [List.map_append, List.filter_append]
  congr 1
  simp only [List.map_cons, List.map_nil, List.filter_cons, List.filter_nil]
  split <;> rename_i h
  · rw [if_pos (by simpa using h)]
  · rw [if_neg (by simpa using h)]

theorem upR_len (n : Nat) (l : List (Int × Int)) : (upR n l).length ≤ l.length := by
  unfold upR; refine Nat.le_trans (List.length_filter_le _ _) (by simp)

theorem two_cells (a b : Int) : splice [Cell.int .i64 0, Cell.int .i64 0] 0 (splice (splice [Cell.int .i64 0, Cell.int .i64 0] 0 [.int .i64 a]) 1 [.int .i64 b]) = [.int .i64 a, .int .i64 b] := rfl

/-- A way that rises. -/
theorem way_rises {f : Nat → Nat} {k a b : Nat} (hr : ∀ a b, (f a).testBit b = true → a < b) (w : Way f k a b) : a < b := by
  induction w with
  | one h => exact hr _ _ h
  | step h _ _ ih => exact Nat.lt_trans (hr _ _ h) ih

theorem RelAcyclic_R (hE : jacquardlaw8_RelAcyclic_In E) (a0 : Int) (a2 : Int) {x : Cell} {l : List (Int × Int)} {h : AHeap} (hx : SlAt h x 2 (pairC l) l.length) (hlow : Low h.length x) :
    ∃ h', R E 238 [.c (.int .i64 a0), .c x, .c (.int .i64 a2)] h = some ([.c (.bool true)], h') := by
  suffices hs : ∃ h', jacquardlaw8_RelAcyclic.body (R E) Lim E.glob [.c (.int .i64 a0), .c x, .c (.int .i64 a2)] h = some ([.c (.bool true)], h') by
    obtain ⟨h', hh⟩ := hs; exact ⟨h', R_intro hE.fn hh⟩
  rw [jacquardlaw8_RelAcyclic_eq]
  obtain ⟨n, hn, hn2, hv⟩ : ∃ n : Nat, 2 ≤ n ∧ n ≤ 63 ∧ E.glob.wrap .i64 (E.glob.rem .i64 (E.glob.band .i64 a0 255) 62 + 2) = (n : Int) := by
    rw [g_band255, g_rem, Int.tmod_eq_emod_of_nonneg (by omega), g_wrap_i64 (by omega) (by omega)]
    exact ⟨(a0 % 256 % 62 + 2).toNat, by omega, by omega, by omega⟩
  simp only [hv]
  have hrem : ∀ y : Int, E.glob.rem .i64 (E.glob.band .i64 y 255) (n : Int) = y % 256 % n := by
    intro y; rw [g_band255, g_rem, Int.tmod_eq_emod_of_nonneg (by omega)]
  -- the loop
  obtain ⟨st, ⟨x7, h', rfl, ho, hk⟩, hlim⟩ := Lim_inv (F := jacquardlaw8_RelAcyclic_F1 (R E) Lim E.glob)
    (fun i st => ∃ x7 h', st = jacquardlaw8_RelAcyclic_s1 n x a2 x7 (i : Int) h' ∧ Own h.length h' x7 2 (pairC (upR n (l.take i))) (upR n (l.take i)).length ∧ Kp h.length h h') 0 (min l.length 60) (by omega)
    (fun i st _ hi hI => by
      obtain ⟨x7, h', rfl, ho, hk⟩ := hI
      obtain ⟨p, hp⟩ : ∃ p, l[i]? = some p := ⟨l[i], by simp⟩
      obtain ⟨g1, g2⟩ := pairC_get l i p hp
      have hil : i < l.length := by omega
      have hx' := hx.keep hlow hk
      rw [jacquardlaw8_RelAcyclic_r1, hx.len, scK_and, show (decide ((i : Int) < (l.length : Int)) && decide ((i : Int) < 60)) = true by simp; omega]
      simp only [if_true]
      rw [hx'.get hil (by omega) g1, asI_ok, if_neg (by omega), hx'.get hil (by omega) g2, asI_ok, if_neg (by omega)]
      simp only [hrem]
      rw [take_succ hp, upR_snoc]
      by_cases hlt : p.1 % 256 % n < p.2 % 256 % n
      · rw [if_pos (by simpa using hlt), if_pos hlt, if_pos ⟨rfl, by simp⟩, two_cells, if_pos (show (List.length [_, _] : Nat) = 1 * 2 from rfl)]
        have hul := upR_len n (l.take i)
        have hlt2 : (l.take i).length ≤ 60 := by simp; omega
        obtain ⟨x', h2, ha, ho', hk', _⟩ := ho.app (xs := [.int .i64 (p.1 % 256 % n), .int .i64 (p.2 % 256 % n)]) (bytes := 16) hk.1 rfl (by omega) (by unfold maxBytes; omega) (by unfold maxBytes; omega)
        rw [ha, g_succ (by omega)]
        refine ⟨_, rfl, x', h2, rfl, ?_, hk.trans hk'⟩
        rw [pairC_snoc, List.length_append]; exact ho'
      · rw [if_neg (by simpa using hlt), if_neg hlt, List.append_nil, g_succ (by omega)]
        exact ⟨_, rfl, x7, h', rfl, ho, hk⟩) (st := jacquardlaw8_RelAcyclic_s1 n x a2 .nils 0 h) ⟨.nils, h, rfl, by rw [List.take_zero]; exact Own.nil _ _ _, Kp.refl _ _⟩
  have hend : jacquardlaw8_RelAcyclic_F1 (R E) Lim E.glob (jacquardlaw8_RelAcyclic_s1 n x a2 x7 ((min l.length 60 : Nat) : Int) h') = some (.exit 0, jacquardlaw8_RelAcyclic_x1_1 n a2 x7 h') := by
    rw [jacquardlaw8_RelAcyclic_r1, hx.len, scK_and, show (decide (((min l.length 60 : Nat) : Int) < (l.length : Int)) && decide (((min l.length 60 : Nat) : Int) < 60)) = false by simp; omega]
    simp
  rw [hlim _ (Lim_exit hend), bind_ok, jacquardlaw8_RelAcyclic_e1_1]
  generalize hup : upR n (l.take (min l.length 60)) = up at ho
  have hul : up.length ≤ 60 := by rw [← hup]; exact Nat.le_trans (upR_len _ _) (by simp; omega)
  have hin : ∀ p ∈ up, (0 ≤ p.1 ∧ p.1 < n) ∧ (0 ≤ p.2 ∧ p.2 < n) ∧ p.1 < p.2 := by
    intro p hp
    rw [← hup] at hp
    unfold upR at hp
    obtain ⟨h1, h2⟩ := List.mem_filter.1 hp
    obtain ⟨q, _, rfl⟩ := List.mem_map.1 h1
    simp at h2
    have hm : ∀ y : Int, 0 ≤ y % (n : Int) ∧ y % (n : Int) < n := fun y => ⟨Int.emod_nonneg _ (by omega), Int.emod_lt_of_pos _ (by omega)⟩
    exact ⟨hm _, hm _, h2⟩
  have hcl : clamp (n : Int) = n := by unfold clamp; omega
  have ht : up.take 200 = up := List.take_of_length_le (by omega)
  have hw := words_of n up
  rw [Of_R hE.c1 (n : Int) ho.at ho.low, c2_ok, asA_ok, asA_ok, hcl, ht]
  simp only [relL_len, zero_len, and_self, if_true]
  -- nobody is led back
  have hac : acycR n (ofR n up) = true := by
    rw [acycR_iff]
    intro a _ w
    have := way_rises (fun a b hb => by
      obtain ⟨p, hp, _, _, e1, e2⟩ := (of_bit (by omega) up a b).1 hb
      have := (hin p hp).2.2; omega) w
    omega
  rw [Acyclic_R hE.c26 (by omega) hw, c1_ok, asB_ok, hac]
  simp only [Bool.not_true, Bool.false_eq_true, if_false, ho.at.len]
  by_cases h0 : up.length = 0
  · rw [h0]
    simp only [Int.natCast_zero, Int.ofNat_zero, beq_self_eq_true, if_true]
    rw [awake8_R hE.c55, c1_ok, asB_ok]
    exact ⟨_, rfl⟩
  · have hpos : (0 : Int) < up.length := by omega
    have hb0 : (((up.length : Nat) : Int) == 0) = false := by rw [beq_eq_false_iff_ne]; exact Int.ne_of_gt hpos
    rw [hb0]
    simp only [Bool.false_eq_true, if_false]
    rw [if_neg (by omega)]
    have hix : E.glob.rem .i64 (E.glob.band .i64 a2 255) (up.length : Int) = (((a2 % 256 % up.length).toNat : Nat) : Int) := by
      have h2 := Int.emod_nonneg (a2 % 256) (show (up.length : Int) ≠ 0 by omega)
      rw [g_band255, g_rem, Int.tmod_eq_emod_of_nonneg (show 0 ≤ a2 % 256 by omega), Int.toNat_of_nonneg h2]
    rw [hix]
    have hixl : (a2 % 256 % up.length).toNat < up.length := by
      have h1 := Int.emod_lt_of_pos (a2 % 256) (show (0 : Int) < up.length by omega)
      have h2 := Int.emod_nonneg (a2 % 256) (show (up.length : Int) ≠ 0 by omega)
      omega
    generalize (a2 % 256 % up.length).toNat = ix at hixl
    obtain ⟨p, hp⟩ : ∃ p, up[ix]? = some p := ⟨up[ix], by simp [hixl]⟩
    obtain ⟨p1, p2⟩ := p
    have hmem := List.mem_of_getElem? hp
    obtain ⟨⟨i1, i2⟩, ⟨i3, i4⟩, i5⟩ := hin _ hmem
    simp only at i1 i2 i3 i4 i5
    obtain ⟨g1, g2⟩ := pairC_get up ix _ hp
    rcases ho.2 with ⟨_, hz⟩ | ⟨k, rfl, hkn, hb⟩
    · omega
    rw [idxSK_ok hixl, rdH_ok hb rfl]
    dsimp only
    have hpl := pairC_len up
    have hsl : ((pairC up).drop (0 + ix * 2)).take 2 = [.int .i64 p1, .int .i64 p2] := by
      refine List.ext_getElem? fun j => ?_
      rw [List.getElem?_take]
      match j with
      | 0 => rw [if_pos (by omega), List.getElem?_drop, Nat.zero_add]; exact g1
      | 1 => rw [if_pos (by omega), List.getElem?_drop, Nat.zero_add]; exact g2
      | j + 2 => rw [if_neg (by omega)]; simp
    rw [if_pos (by omega), hsl, if_pos ⟨by trivial, rfl, rfl⟩, atK_ok (c := .int .i64 p2) rfl, asI_ok, atK_ok (c := .int .i64 p1) rfl, asI_ok]
    have hw2 := words_add (n := n) hw p2 p1
    have hw3 := words_clK hw2 n n
    have hw4 := words_add (n := n) hw 0 0
    have in1 : inR n p1 = true := by simp [inR]; omega
    have in2 : inR n p2 = true := by simp [inR]; omega
    have in0 : inR n 0 = true := by simp [inR]; omega
    obtain ⟨m1, rfl⟩ := Int.eq_ofNat_of_zero_le i1
    obtain ⟨m2, rfl⟩ := Int.eq_ofNat_of_zero_le i3
    -- the way there and back
    have e12 : (addR n (ofR n up) m2 m1 m1).testBit m2 = true := by
      rw [addR_bit (by omega), Bool.or_eq_true]
      exact .inl ((of_bit (by omega) up m1 m2).2 ⟨_, hmem, in1, in2, rfl, rfl⟩)
    have e21 : (addR n (ofR n up) m2 m1 m2).testBit m1 = true := by
      rw [addR_bit (by omega), Bool.or_eq_true]
      exact .inr (by rw [in1, in2]; simp)
    have way : Way (addR n (ofR n up) m2 m1) n m1 m1 := .step e12 (by omega) (.one e21)
    have hna : acycR n (addR n (ofR n up) m2 m1) = false := by
      rw [← Bool.not_eq_true, acycR_iff]
      exact fun hh => hh m1 (by omega) way
    have hhas : hasR n (clK n (addR n (ofR n up) m2 m1) n) m1 m1 = true := by
      unfold hasR
      rw [in1, Bool.true_and, Int.toNat_natCast, hasI_nat (by omega), clK_way n _ n (Nat.le_refl _) m1 m1 (by omega)]
      exact way
    have hn00 : acycR n (addR n (ofR n up) 0 0) = false := by
      rw [← Bool.not_eq_true, acycR_iff]
      intro hh
      refine hh 0 (by omega) (.one ?_)
      rw [addR_bit (by omega), Bool.or_eq_true]
      exact .inr (by rw [in0]; simp)
    rw [Add_R hE.c10 (by omega) hw, c1_ok, asA_ok]
    simp only [relL_len, and_self, if_true]
    rw [Acyclic_R hE.c26 (by omega) hw2, qh_ok, c1_ok, asB_ok, hna, show (!false) = true from rfl, scK_ok, Closure_R hE.c12 (by omega) hw2, qh_ok, c1_ok, asA_ok, atK_ok (c := .int .i64 m1) rfl, asI_ok, atK_ok (c := .int .i64 m1) rfl, asI_ok,
      HasR_R hE.c3 (by omega) hw3, qh_ok, c1_ok, asB_ok, bind_ok, hhas]
    dsimp only
    rw [scK_ok, Add_R hE.c10 (by omega) hw, qh_ok, c1_ok, asA_ok, Acyclic_R hE.c26 (by omega) hw4, qh_ok, c1_ok, asB_ok, hn00, bind_ok, show (!false) = true from rfl]
    dsimp only
    rw [scK_ok, awake8_R hE.c55, qh_ok, c1_ok, asB_ok, bind_ok]
    exact ⟨_, rfl⟩

theorem RelAcyclic_law (hE : jacquardlaw8_RelAcyclic_In E) {h : AHeap} {c0 c1 c2 : List Cell} (o0 : okC h (.i .i64) c0) (o1 : okC h (.sl shPair) c1) (o2 : okC h (.i .i64) c2) :
    ∃ h', R E 238 [av1 (.i .i64) c0, av1 (.sl shPair) c1, av1 (.i .i64) c2] h = some ([.c (.bool true)], h') := by
  obtain ⟨a0, e0, _⟩ := arg_int o0
  obtain ⟨x, l, e1, hx, hl, _⟩ := arg_pairs o1
  obtain ⟨a2, e2, _⟩ := arg_int o2
  rw [e0, e1, e2]
  exact RelAcyclic_R hE a0 a2 hx hl

end Jq

/- RelAcyclic: whatever the input the call says true, and each argument reads behind it as before. No conditions. -/
namespace Go.Proofs.Ytkdicbhkkancoaa.LRelAcyclic
open Go Jq Go.ChangeShapes Go.WideShapes Go.ChangeAt Go.RowKit
set_option linter.unusedVariables false

theorem own : ownKnob Try.prog.godebug = none := by kernel_rfl
theorem laidOut : laidOutB Try.prog = true := by kernel_rfl

set_option maxRecDepth 100000 in
theorem lifted (os : Os) (started : os.Started) (H : Type) (enc : TypeId × Value → H) :
    ReturnsInHanded {} Try.checked os 3 .any (Rows.relAcyclicSpec.pre6 enc Try.prog Try.f3 Rows.relAcyclicRow.domain false) (Rows.relAcyclicSpec.post enc Try.prog Try.f3 false true false false) := by
  refine returnsInHanded_of_change (C := Try.checked) own started (by kernel_rfl) Try.func3
    (ChangeSpec.witness6 (enc := enc) (C := Try.checked) false ⟨#[], #[.int .i64 0, .slice none 0 0, .int .i64 0], []⟩ 8 (by kernel_rfl) (by kernel_rfl) (by kernel_rfl) (by kernel_rfl)) ?_
  intro W base args ds gs before hval0 hW hcnd _
  have hval : ∀ (j : Nat) t v, Try.f3.params[j]? = some t → args[j]? = some v → Value.okWide Try.prog W .any base t v := hval0
  have hW' := hW
  obtain ⟨p, q, hA0, hV, rfl, hfz, hnd⟩ := hW
  have hA : DataW.TrodAll enc Try.prog W 0 (fun _ => true) true Try.f3.params.toList args.toList ds p := hA0
  rw [Try.params3] at hA hval
  obtain ⟨v0, vs0, d0, ds0, p0, q0, hargs, rfl, rfl, h0, r0⟩ := trodAll_cons hA
  obtain ⟨v1, vs1, d1, ds1, p1, q1, rfl, rfl, rfl, h1, r1⟩ := trodAll_cons r0
  obtain ⟨v2, vs2, d2, ds2, p2, q2, rfl, rfl, rfl, h2, r2⟩ := trodAll_cons r1
  obtain ⟨rfl, rfl, rfl⟩ := trodAll_nil r2
  obtain rfl : args = #[v0, v1, v2] := by cases args; simp_all
  obtain ⟨rfl, rfl⟩ := trodVars_none hV
  have lt0 : ∀ x ∈ p0, x.block < W.heap.size := by obtain ⟨m, hm⟩ := h0; exact DataW.trod_lt m _ _ _ hm
  have lt1 : ∀ x ∈ p1, x.block < W.heap.size := by obtain ⟨m, hm⟩ := h1; exact DataW.trod_lt m _ _ _ hm
  have lt2 : ∀ x ∈ p2, x.block < W.heap.size := by obtain ⟨m, hm⟩ := h2; exact DataW.trod_lt m _ _ _ hm
  have c := Come.nil (S := seat) (W := W) (fun _ => rfl)
  have k0 : ((.i .i64) : Sh).chk seat.P 3 = true := by kernel_rfl
  obtain ⟨b0, ρ0, cs0, c0, e0, x0, a0, o0⟩ := opens_arg (S := seat) (W := W) (sh := (.i .i64)) k0 h0 (wide_of k0 (hval 0 3 v0 rfl rfl)) ⟨nofun, nofun⟩ c
  have k1 : ((.sl shPair) : Sh).chk seat.P 22 = true := by kernel_rfl
  obtain ⟨b1, ρ1, cs1, c1, e1, x1, a1, o1⟩ := opens_arg (S := seat) (W := W) (sh := (.sl shPair)) k1 h1 (wide_of k1 (hval 1 22 v1 rfl rfl)) ⟨nofun, nofun⟩ c0
  have k2 : ((.i .i64) : Sh).chk seat.P 3 = true := by kernel_rfl
  obtain ⟨b2, ρ2, cs2, c2, e2, x2, a2, o2⟩ := opens_arg (S := seat) (W := W) (sh := (.i .i64)) k2 h2 (wide_of k2 (hval 2 3 v2 rfl rfl)) ⟨nofun, nofun⟩ c1
  obtain ⟨h', hR⟩ := RelAcyclic_law (E := env) in_238 (okC_mono x2 _ _ (okC_mono x1 _ _ o0)) (okC_mono x2 _ _ o1) o2
  refine (law_call (S := seat) (R_sound (S := seat) (E := env) rfl allOk) c2 (vals := #[v0, v1, v2]) (L2.cons (relA.mono e2 (relA.mono e1 a0)) (L2.cons (relA.mono e2 a1) (L2.cons a2 L2.nil))) hR).mono fun e W' ⟨he, bel⟩ => ?_
  subst he
  exact ⟨_, rfl, _, _, _, [], _, [], hW', trodAll_mk1 (shut_bool Try.underlying4 _), (trodAll_cons_mk (Below.trod laidOut (by kernel_rfl) (of_decide_eq_true (by kernel_rfl)) h0 bel lt0) (trodAll_cons_mk (Below.trod laidOut (by kernel_rfl) (of_decide_eq_true (by kernel_rfl)) h1 bel lt1) (trodAll_cons_mk (Below.trod laidOut (by kernel_rfl) (of_decide_eq_true (by kernel_rfl)) h2 bel lt2) trodAll_mk0))), rfl, bel.frame _, fun h => by cases h⟩

theorem over : Rows.relAcyclicRow.holds Try.pinned (OpenSpec.ofChange Rows.relAcyclicSpec) :=
  OpenClaim.holds_of_wide 3 Try.f3 rfl rfl rfl rfl rfl rfl rfl ⟨rfl, rfl, rfl, rfl, rfl⟩ rfl rfl rfl rfl rfl (by kernel_rfl) Try.func3 (by kernel_rfl)
    (of_decide_eq_true (by kernel_rfl)) (by unfold Func.isWrapper; first | (rw [if_pos (by decide +kernel)]; kernel_rfl) | (rw [if_neg (by decide +kernel)]; exact ⟨rfl, rfl⟩))
    (fun os started H enc _ => lifted os started H enc)

theorem proved : Rows.RelAcyclicSaid := over
#print axioms proved

end Go.Proofs.Ytkdicbhkkancoaa.LRelAcyclic

