/- YtkdicbhkkancoaaDoorSetTellsA: a part of the proof; no conditions of its own. -/
import Derived.KernelRfl
import Derived.Lib.TrailingZeros
import Derived.Test.YtkdicbhkkancoaaDoorRows
import Derived.WalkKit
import Derived.ProofKit
import Derived.OpenShut
import Derived.ShutString
import Derived.ChangeOld
import Derived.Below
import Derived.Carry
import Derived.Test.YtkdicbhkkancoaaDoorCards
import Derived.Test.YtkdicbhkkancoaaDoorTie
import Derived.SevenTiedAt
import Derived.LaidMore
import Derived.Stop.Joined
import Derived.Lib.LaidTab
import Derived.MakeChecks
import Derived.LaidHandle
import Derived.Test.YtkdicbhkkancoaaDoorCoreC
set_option linter.unusedVariables false
set_option linter.unusedSimpArgs false

namespace Jq
open Go

/- math/bits.TrailingZeros64: 42 -/
def bits_TrailingZeros64 : Fn := { np := 1, nt := 14, ns := 0, res := [.t 2 (.i .i64)], gc := false, code :=
  (.seq (.reg 0 false (.op (some 2) .mov [(.k (.c (.int .i64 0)))]
    .nil))
  (.seq (.seq (.reg 1 false (.op (some 3) .mov [(.t 0)]
    (.op (some 4) (.bin .eql) [(.t 3), (.k (.c (.int .u64 0)))]
    .nil)))
  (.cond (.t 4)
  (.seq (.reg 2 false (.op (some 2) .mov [(.k (.c (.int .i64 64)))]
    .nil))
  .ret)
  .skip))
  (.seq (.reg 3 false (.op (some 5) .mov [(.t 0)]
    (.op (some 6) .mov [(.t 0)]
    (.op (some 7) (.un .neg) [(.t 6)]
    (.op (some 8) (.bin .and) [(.t 5), (.t 7)]
    (.op (some 9) (.bin .mul) [(.t 8), (.k (.c (.int .u64 285870213051353865)))]
    (.op (some 10) (.bin .shr) [(.t 9), (.k (.c (.int .u64 58)))]
    (.op (some 11) (.idxA 64 1) [(.k (.c (.gptr 1 0))), (.t 10)]
    (.op (some 12) (.ld .heap (.i .u8)) [(.t 11)]
    (.op (some 13) (.conv .i64) [(.t 12)]
    (.op (some 2) .mov [(.t 13)]
    .nil)))))))))))
  .ret))) }

/- math/bits.OnesCount64: 57 -/
def bits_OnesCount64 : Fn := { np := 1, nt := 35, ns := 0, res := [.t 2 (.i .i64)], gc := false, code :=
  (.seq (.reg 0 false (.op (some 2) .mov [(.k (.c (.int .i64 0)))]
    .nil))
  (.seq (.reg 1 false (.op (some 3) .mov [(.t 0)]
    (.op (some 4) (.bin .shr) [(.t 3), (.k (.c (.int .u64 1)))]
    (.op (some 5) (.bin .and) [(.t 4), (.k (.c (.int .u64 6148914691236517205)))]
    (.op (some 6) .mov [(.t 0)]
    (.op (some 7) (.bin .and) [(.t 6), (.k (.c (.int .u64 6148914691236517205)))]
    (.op (some 8) (.bin .add) [(.t 5), (.t 7)]
    (.op (some 0) .mov [(.t 8)]
    .nil))))))))
  (.seq (.reg 2 false (.op (some 9) .mov [(.t 0)]
    (.op (some 10) (.bin .shr) [(.t 9), (.k (.c (.int .u64 2)))]
    (.op (some 11) (.bin .and) [(.t 10), (.k (.c (.int .u64 3689348814741910323)))]
    (.op (some 12) .mov [(.t 0)]
    (.op (some 13) (.bin .and) [(.t 12), (.k (.c (.int .u64 3689348814741910323)))]
    (.op (some 14) (.bin .add) [(.t 11), (.t 13)]
    (.op (some 0) .mov [(.t 14)]
    .nil))))))))
  (.seq (.reg 3 false (.op (some 15) .mov [(.t 0)]
    (.op (some 16) (.bin .shr) [(.t 15), (.k (.c (.int .u64 4)))]
    (.op (some 17) .mov [(.t 0)]
    (.op (some 18) (.bin .add) [(.t 16), (.t 17)]
    (.op (some 19) (.bin .and) [(.t 18), (.k (.c (.int .u64 1085102592571150095)))]
    (.op (some 0) .mov [(.t 19)]
    .nil)))))))
  (.seq (.reg 4 false (.op (some 20) .mov [(.t 0)]
    (.op (some 21) .mov [(.t 0)]
    (.op (some 22) (.bin .shr) [(.t 21), (.k (.c (.int .u64 8)))]
    (.op (some 23) (.bin .add) [(.t 20), (.t 22)]
    (.op (some 0) .mov [(.t 23)]
    .nil))))))
  (.seq (.reg 5 false (.op (some 24) .mov [(.t 0)]
    (.op (some 25) .mov [(.t 0)]
    (.op (some 26) (.bin .shr) [(.t 25), (.k (.c (.int .u64 16)))]
    (.op (some 27) (.bin .add) [(.t 24), (.t 26)]
    (.op (some 0) .mov [(.t 27)]
    .nil))))))
  (.seq (.reg 6 false (.op (some 28) .mov [(.t 0)]
    (.op (some 29) .mov [(.t 0)]
    (.op (some 30) (.bin .shr) [(.t 29), (.k (.c (.int .u64 32)))]
    (.op (some 31) (.bin .add) [(.t 28), (.t 30)]
    (.op (some 0) .mov [(.t 31)]
    .nil))))))
  (.seq (.reg 7 false (.op (some 32) .mov [(.t 0)]
    (.op (some 33) (.conv .i64) [(.t 32)]
    (.op (some 34) (.bin .and) [(.t 33), (.k (.c (.int .i64 127)))]
    (.op (some 2) .mov [(.t 34)]
    .nil)))))
  .ret)))))))) }


end Jq

/- What a function needs of an environment. -/
namespace Jq
open Go

structure bits_TrailingZeros64_In (E : Env) : Prop where
  fn : E.fn 42 = some bits_TrailingZeros64

structure bits_OnesCount64_In (E : Env) : Prop where
  fn : E.fn 57 = some bits_OnesCount64

end Jq

namespace Jq
open Go

/- jacquard/jacquardlaw7.awake: 62 -/
def jacquardlaw7_awake : Fn := { np := 0, nt := 34, ns := 0, res := [.t 0 .b], gc := true, code :=
  (.seq (.reg 0 false (.op (some 0) .mov [(.k (.c (.bool false)))]
    .nil))
  (.seq (.reg 1 false (.op (some 3) (.bslice 1 2 ([Cell.int .i64 0, Cell.int .i64 0]) [(0, 1), (1, 1)]) [(.k (.c (.int .i64 0))), (.k (.c (.int .i64 1)))]
    (.op (some 4) (.call 65 [(.i .u64)]) [(.t 3)]
    (.op (some 1) .mov [(.t 4)]
    .nil))))
  (.seq (.reg 2 false (.op (some 5) .mov [(.t 1)]
    (.op (some 6) (.call 60 [(.i .u64)]) [(.t 5)]
    (.op (some 7) (.call 32 [.any]) [(.t 6)]
    (.op (some 2) .mov [(.t 7)]
    .nil)))))
  (.seq (.reg 3 false (.op (some 8) .mov [(.t 1)]
    (.op (some 9) (.bin .eql) [(.t 8), (.k (.c (.int .u64 3)))]
    (.op (some 10) .mov [(.t 9)]
    (.sc 10 true (.op (some 11) .mov [(.t 1)]
    (.op (some 12) (.call 56 [(.i .i64)]) [(.t 11)]
    (.op (some 13) (.bin .eql) [(.t 12), (.k (.c (.int .i64 2)))]
    .nil))) 13 14 false
    (.op (some 15) .mov [(.t 14)]
    (.sc 15 true (.op (some 16) .mov [(.t 2)]
    (.op (some 17) .len [(.t 16)]
    (.op (some 18) (.bin .eql) [(.t 17), (.k (.c (.int .i64 2)))]
    .nil))) 18 19 false
    (.op (some 20) .mov [(.t 19)]
    (.sc 20 true (.op (some 21) .mov [(.t 2)]
    (.op (some 22) (.idxS 1) [(.t 21), (.k (.c (.int .i64 1)))]
    (.op (some 23) (.ld .heap (.i .i64)) [(.t 22)]
    (.op (some 24) (.bin .eql) [(.t 23), (.k (.c (.int .i64 2)))]
    .nil)))) 24 25 false
    (.op (some 26) .mov [(.t 25)]
    (.sc 26 true (.op (some 27) (.call 61 [(.i .u64)]) [(.k (.c (.int .i64 3)))]
    (.op (some 28) (.bin .eql) [(.t 27), (.k (.c (.int .u64 7)))]
    .nil)) 28 29 false
    (.op (some 30) .mov [(.t 29)]
    (.sc 30 true (.op (some 31) (.call 38 [(.i .i64)]) [(.k (.c (.int .u64 0)))]
    (.op (some 32) (.bin .eql) [(.t 31), (.k (.c (.int .i64 (-1))))]
    .nil)) 32 33 false
    (.op (some 0) .mov [(.t 33)]
    .nil))))))))))))))
  .ret)))) }

/- jacquard/jacquardlaw7.in: 64 -/
def jacquardlaw7_in : Fn := { np := 1, nt := 9, ns := 0, res := [.t 2 (.i .i64)], gc := false, code :=
  (.seq (.reg 0 false (.op (some 2) .mov [(.k (.c (.int .i64 0)))]
    .nil))
  (.seq (.seq (.reg 1 false (.op (some 3) .mov [(.t 0)]
    (.op (some 4) (.bin .geq) [(.t 3), (.k (.c (.int .i64 0)))]
    (.op (some 5) .mov [(.t 4)]
    (.sc 5 true (.op (some 6) .mov [(.t 0)]
    (.op (some 7) (.bin .lss) [(.t 6), (.k (.c (.int .i64 64)))]
    .nil)) 7 8 false
    .nil)))))
  (.cond (.t 8)
  (.seq (.reg 2 false (.op (some 2) .mov [(.k (.c (.int .i64 1)))]
    .nil))
  .ret)
  .skip))
  (.seq (.reg 3 false (.op (some 2) .mov [(.k (.c (.int .i64 0)))]
    .nil))
  .ret))) }

/- jacquard/jacquardlaw7.SetAlgebra: 235 -/
def jacquardlaw7_SetAlgebra_b1 : IC :=
  (.seq (.seq (.reg 5 false (.op (some 16) .mov [(.t 11)]
    (.op (some 17) .mov [(.t 10)]
    (.op (some 18) .len [(.t 17)]
    (.op (some 19) (.bin .lss) [(.t 16), (.t 18)]
    .nil)))))
  (.cond (.t 19)
  .skip
  (.exit 0)))
  (.seq (.blk 1 (.seq (.seq (.reg 7 true (.op (some 22) .mov [(.t 11)]
    (.op (some 23) (.bin .gtr) [(.t 22), (.k (.c (.int .i64 0)))]
    (.op (some 24) .mov [(.t 23)]
    (.sc 24 true (.op (some 25) .mov [(.t 10)]
    (.op (some 26) .mov [(.t 11)]
    (.op (some 27) (.idxS 1) [(.t 25), (.t 26)]
    (.op (some 28) (.ld .heap (.i .i64)) [(.t 27)]
    (.op (some 29) .mov [(.t 10)]
    (.op (some 30) .mov [(.t 11)]
    (.op (some 31) (.bin .sub) [(.t 30), (.k (.c (.int .i64 1)))]
    (.op (some 32) (.idxS 1) [(.t 29), (.t 31)]
    (.op (some 33) (.ld .heap (.i .i64)) [(.t 32)]
    (.op (some 34) (.bin .leq) [(.t 28), (.t 33)]
    .nil)))))))))) 34 35 false
    (.op (some 36) .mov [(.t 35)]
    (.sc 36 false (.op (some 37) .mov [(.t 7)]
    (.op (some 38) .mov [(.t 10)]
    (.op (some 39) .mov [(.t 11)]
    (.op (some 40) (.idxS 1) [(.t 38), (.t 39)]
    (.op (some 41) (.ld .heap (.i .i64)) [(.t 40)]
    (.op (some 42) (.qcall 17 [.b]) [(.t 37), (.t 41)]
    (.op (some 43) (.un .not) [(.t 42)]
    .nil))))))) 43 44 true
    .nil)))))))
  (.cond (.t 44)
  (.seq (.reg 8 false (.op (some 6) .mov [(.k (.c (.bool false)))]
    .nil))
  .ret)
  .skip))
  (.seq (.reg 9 false (.op (some 45) .mov [(.t 8)]
    (.op (some 46) .mov [(.t 10)]
    (.op (some 47) .mov [(.t 11)]
    (.op (some 48) (.idxS 1) [(.t 46), (.t 47)]
    (.op (some 49) (.ld .heap (.i .i64)) [(.t 48)]
    (.op (some 50) (.call 17 [.b]) [(.t 45), (.t 49)]
    .nil)))))))
  (.cond (.t 50)
  (.reg 10 false (.op (some 51) .mov [(.t 9)]
    (.op (some 52) (.bin .add) [(.t 51), (.k (.c (.int .i64 1)))]
    (.op (some 9) .mov [(.t 52)]
    .nil))))
  .skip))))
  (.reg 6 false (.op (some 20) .mov [(.t 11)]
    (.op (some 21) (.bin .add) [(.t 20), (.k (.c (.int .i64 1)))]
    (.op (some 11) .mov [(.t 21)]
    .nil))))))
def jacquardlaw7_SetAlgebra_p1 : IC :=
  (.seq (.reg 11 false (.op (some 53) .mov [(.t 7)]
    (.op (some 54) .mov [(.t 8)]
    (.op (some 55) (.bin .or) [(.t 53), (.t 54)]
    (.op (some 56) (.call 56 [(.i .i64)]) [(.t 55)]
    (.op (some 57) .mov [(.t 7)]
    (.op (some 58) (.call 56 [(.i .i64)]) [(.t 57)]
    (.op (some 59) .mov [(.t 8)]
    (.op (some 60) (.call 56 [(.i .i64)]) [(.t 59)]
    (.op (some 61) (.bin .add) [(.t 58), (.t 60)]
    (.op (some 62) .mov [(.t 9)]
    (.op (some 63) (.bin .sub) [(.t 61), (.t 62)]
    (.op (some 64) (.bin .eql) [(.t 56), (.t 63)]
    (.op (some 65) .mov [(.t 64)]
    (.sc 65 true (.op (some 66) .mov [(.t 7)]
    (.op (some 67) .mov [(.t 8)]
    (.op (some 68) (.bin .and) [(.t 66), (.t 67)]
    (.op (some 69) (.call 56 [(.i .i64)]) [(.t 68)]
    (.op (some 70) .mov [(.t 9)]
    (.op (some 71) (.bin .eql) [(.t 69), (.t 70)]
    .nil)))))) 71 72 false
    (.op (some 73) .mov [(.t 72)]
    (.sc 73 true (.op (some 74) .mov [(.t 7)]
    (.op (some 75) .mov [(.t 8)]
    (.op (some 76) (.bin .andNot) [(.t 74), (.t 75)]
    (.op (some 77) (.call 56 [(.i .i64)]) [(.t 76)]
    (.op (some 78) .mov [(.t 7)]
    (.op (some 79) (.call 56 [(.i .i64)]) [(.t 78)]
    (.op (some 80) .mov [(.t 9)]
    (.op (some 81) (.bin .sub) [(.t 79), (.t 80)]
    (.op (some 82) (.bin .eql) [(.t 77), (.t 81)]
    .nil))))))))) 82 83 false
    (.op (some 84) .mov [(.t 83)]
    (.sc 84 true (.op (some 85) .mov [(.t 7)]
    (.op (some 86) .mov [(.t 2)]
    (.op (some 87) (.call 18 [(.i .u64)]) [(.t 85), (.t 86)]
    (.op (some 88) (.call 56 [(.i .i64)]) [(.t 87)]
    (.op (some 89) .mov [(.t 7)]
    (.op (some 90) .mov [(.t 2)]
    (.op (some 91) (.call 63 [(.i .u64)]) [(.t 89), (.t 90)]
    (.op (some 92) (.call 56 [(.i .i64)]) [(.t 91)]
    (.op (some 93) (.bin .sub) [(.t 88), (.t 92)]
    (.op (some 94) .mov [(.t 2)]
    (.op (some 95) (.call 64 [(.i .i64)]) [(.t 94)]
    (.op (some 96) (.bin .eql) [(.t 93), (.t 95)]
    .nil)))))))))))) 96 97 false
    (.op (some 98) .mov [(.t 97)]
    (.sc 98 true (.op (some 99) (.call 62 [.b]) []
    .nil) 99 100 false
    (.op (some 6) .mov [(.t 100)]
    .nil))))))))))))))))))))))
  .ret)
def jacquardlaw7_SetAlgebra : Fn := { np := 3, nt := 101, ns := 0, res := [.t 6 .b], gc := false, code :=
  (.seq (.reg 0 false (.op (some 6) .mov [(.k (.c (.bool false)))]
    .nil))
  (.seq (.reg 1 false (.op (some 12) .mov [(.t 0)]
    (.op (some 13) .mov [(.t 1)]
    (.op (some 7) .mov [(.t 12)]
    (.op (some 8) .mov [(.t 13)]
    .nil)))))
  (.seq (.reg 2 false (.op (some 9) .mov [(.k (.c (.int .i64 0)))]
    .nil))
  (.seq (.reg 3 false (.op (some 14) .mov [(.t 7)]
    (.op (some 15) (.call 32 [.any]) [(.t 14)]
    (.op (some 10) .mov [(.t 15)]
    .nil))))
  (.seq (.seq (.reg 4 false (.op (some 11) .mov [(.k (.c (.int .i64 0)))]
    .nil))
  (.blk 0 (.loop [2, 7, 8, 9, 10, 11] [] [(0, [6], []), (1, [2, 7, 8, 9], [])] jacquardlaw7_SetAlgebra_b1)))
  jacquardlaw7_SetAlgebra_p1))))) }

/- jacquard/jacquardlaw7.SetTells: 236 -/
def jacquardlaw7_SetTells_b1 : IC :=
  (.seq (.seq (.reg 5 false (.op (some 18) .mov [(.t 8)]
    (.op (some 19) .mov [(.t 0)]
    (.op (some 20) .len [(.t 19)]
    (.op (some 21) (.bin .lss) [(.t 18), (.t 20)]
    .nil)))))
  (.cond (.t 21)
  .skip
  (.exit 0)))
  (.seq (.blk 1 (.seq (.reg 7 false (.op (some 24) .mov [(.t 0)]
    (.op (some 25) .mov [(.t 8)]
    (.op (some 26) (.idxS 1) [(.t 24), (.t 25)]
    (.op (some 27) (.ld .heap (.i .i64)) [(.t 26)]
    (.op (some 28) (.bin .geq) [(.t 27), (.k (.c (.int .i64 0)))]
    (.op (some 29) .mov [(.t 28)]
    (.sc 29 true (.op (some 30) .mov [(.t 0)]
    (.op (some 31) .mov [(.t 8)]
    (.op (some 32) (.idxS 1) [(.t 30), (.t 31)]
    (.op (some 33) (.ld .heap (.i .i64)) [(.t 32)]
    (.op (some 34) (.bin .lss) [(.t 33), (.k (.c (.int .i64 64)))]
    .nil))))) 34 35 false
    .nil))))))))
  (.cond (.t 35)
  (.reg 8 false (.op (some 36) .mov [(.t 0)]
    (.op (some 37) .mov [(.t 8)]
    (.op (some 38) (.idxS 1) [(.t 36), (.t 37)]
    (.op (some 39) (.ld .heap (.i .i64)) [(.t 38)]
    (.op (some 40) (.idxA 64 1) [(.t 7), (.t 39)]
    (.op none (.st (.slot 0)) [(.t 40), (.k (.c (.bool true)))]
    .nil)))))))
  .skip)))
  (.reg 6 false (.op (some 22) .mov [(.t 8)]
    (.op (some 23) (.bin .add) [(.t 22), (.k (.c (.int .i64 1)))]
    (.op (some 8) .mov [(.t 23)]
    .nil))))))
def jacquardlaw7_SetTells_b2 : IC :=
  (.seq (.seq (.reg 17 false (.op (some 65) .mov [(.t 13)]
    (.op (some 66) (.bin .lss) [(.t 65), (.k (.c (.int .i64 64)))]
    .nil)))
  (.cond (.t 66)
  .skip
  (.exit 2)))
  (.seq (.blk 3 (.seq (.seq (.reg 19 true (.op (some 69) .mov [(.t 9)]
    (.op (some 70) .mov [(.t 13)]
    (.op (some 71) (.qcall 17 [.b]) [(.t 69), (.t 70)]
    (.op (some 72) .mov [(.t 13)]
    (.op (some 73) (.idxA 64 1) [(.t 7), (.t 72)]
    (.op (some 74) (.ld (.slot 0) .b) [(.t 73)]
    (.op (some 75) (.eqB true) [(.t 71), (.t 74)]
    .nil))))))))
  (.cond (.t 75)
  (.seq (.reg 20 false (.op (some 6) .mov [(.k (.c (.bool false)))]
    .nil))
  .ret)
  .skip))
  (.seq (.reg 21 false (.op (some 76) .mov [(.t 13)]
    (.op (some 77) (.idxA 64 1) [(.t 7), (.t 76)]
    (.op (some 78) (.ld (.slot 0) .b) [(.t 77)]
    .nil))))
  (.cond (.t 78)
  (.seq (.seq (.reg 22 false (.op (some 79) .mov [(.t 10)]
    (.op (some 80) .mov [(.t 12)]
    (.op (some 81) .len [(.t 80)]
    (.op (some 82) (.bin .geq) [(.t 79), (.t 81)]
    (.op (some 83) .mov [(.t 82)]
    (.sc 83 false (.op (some 84) .mov [(.t 12)]
    (.op (some 85) .mov [(.t 10)]
    (.op (some 86) (.idxS 1) [(.t 84), (.t 85)]
    (.op (some 87) (.ld .heap (.i .i64)) [(.t 86)]
    (.op (some 88) .mov [(.t 13)]
    (.op (some 89) (.bin .neq) [(.t 87), (.t 88)]
    .nil)))))) 89 90 true
    .nil)))))))
  (.cond (.t 90)
  (.seq (.reg 23 false (.op (some 6) .mov [(.k (.c (.bool false)))]
    .nil))
  .ret)
  .skip))
  (.seq (.seq (.reg 24 false (.op (some 91) .mov [(.t 11)]
    (.op (some 92) (.bin .lss) [(.t 91), (.k (.c (.int .i64 0)))]
    .nil)))
  (.cond (.t 92)
  (.reg 25 false (.op (some 93) .mov [(.t 13)]
    (.op (some 11) .mov [(.t 93)]
    .nil)))
  .skip))
  (.reg 26 false (.op (some 94) .mov [(.t 10)]
    (.op (some 95) (.bin .add) [(.t 94), (.k (.c (.int .i64 1)))]
    (.op (some 10) .mov [(.t 95)]
    .nil))))))
  .skip))))
  (.reg 18 false (.op (some 67) .mov [(.t 13)]
    (.op (some 68) (.bin .add) [(.t 67), (.k (.c (.int .i64 1)))]
    (.op (some 13) .mov [(.t 68)]
    .nil))))))
def jacquardlaw7_SetTells_p4 : IC :=
  (.seq (.reg 27 false (.op (some 96) .mov [(.t 9)]
    (.op (some 97) (.call 56 [(.i .i64)]) [(.t 96)]
    (.op (some 98) .mov [(.t 10)]
    (.op (some 99) (.bin .eql) [(.t 97), (.t 98)]
    (.op (some 100) .mov [(.t 99)]
    (.sc 100 true (.op (some 101) .mov [(.t 12)]
    (.op (some 102) .len [(.t 101)]
    (.op (some 103) .mov [(.t 10)]
    (.op (some 104) (.bin .eql) [(.t 102), (.t 103)]
    .nil)))) 104 105 false
    (.op (some 106) .mov [(.t 105)]
    (.sc 106 true (.op (some 107) .mov [(.t 9)]
    (.op (some 108) (.call 38 [(.i .i64)]) [(.t 107)]
    (.op (some 109) .mov [(.t 11)]
    (.op (some 110) (.bin .eql) [(.t 108), (.t 109)]
    .nil)))) 110 111 false
    (.op (some 112) .mov [(.t 111)]
    (.sc 112 true (.op (some 113) .mov [(.t 9)]
    (.op (some 114) (.call 17 [.b]) [(.t 113), (.k (.c (.int .i64 (-1))))]
    (.op (some 115) (.un .not) [(.t 114)]
    .nil))) 115 116 false
    (.op (some 117) .mov [(.t 116)]
    (.sc 117 true (.op (some 118) .mov [(.t 9)]
    (.op (some 119) (.call 17 [.b]) [(.t 118), (.k (.c (.int .i64 64)))]
    (.op (some 120) (.un .not) [(.t 119)]
    .nil))) 120 121 false
    (.op (some 122) .mov [(.t 121)]
    (.sc 122 true (.op (some 123) (.call 62 [.b]) []
    .nil) 123 124 false
    (.op (some 6) .mov [(.t 124)]
    .nil))))))))))))))))
  .ret)
def jacquardlaw7_SetTells_p3 : IC :=
  (.seq (.reg 14 false (.op (some 10) .mov [(.k (.c (.int .i64 0)))]
    (.op (some 11) .mov [(.k (.c (.int .i64 (-1))))]
    .nil)))
  (.seq (.reg 15 false (.op (some 63) .mov [(.t 9)]
    (.op (some 64) (.call 32 [.any]) [(.t 63)]
    (.op (some 12) .mov [(.t 64)]
    .nil))))
  (.seq (.seq (.reg 16 false (.op (some 13) .mov [(.k (.c (.int .i64 0)))]
    .nil))
  (.blk 2 (.loop [7, 9, 10, 11, 12, 13] [0] [(0, [6], []), (3, [9, 10, 11, 12], [])] jacquardlaw7_SetTells_b2)))
  jacquardlaw7_SetTells_p4)))
def jacquardlaw7_SetTells_p2 : IC :=
  (.cut [7, 9] [0] [] (.seq (.reg 12 false (.op (some 55) .mov [(.t 2)]
    (.op (some 56) (.bin .geq) [(.t 55), (.k (.c (.int .i64 0)))]
    (.op (some 57) .mov [(.t 56)]
    (.sc 57 true (.op (some 58) .mov [(.t 2)]
    (.op (some 59) (.bin .lss) [(.t 58), (.k (.c (.int .i64 64)))]
    .nil)) 59 60 false
    .nil)))))
  (.cond (.t 60)
  (.reg 13 false (.op (some 61) .mov [(.t 2)]
    (.op (some 62) (.idxA 64 1) [(.t 7), (.t 61)]
    (.op none (.st (.slot 0)) [(.t 62), (.k (.c (.bool false)))]
    .nil))))
  .skip))
  jacquardlaw7_SetTells_p3)
def jacquardlaw7_SetTells_p1 : IC :=
  (.seq (.reg 9 false (.op (some 41) .mov [(.t 0)]
    (.op (some 42) (.call 65 [(.i .u64)]) [(.t 41)]
    (.op (some 43) .mov [(.t 1)]
    (.op (some 44) (.call 18 [(.i .u64)]) [(.t 42), (.t 43)]
    (.op (some 45) .mov [(.t 2)]
    (.op (some 46) (.call 63 [(.i .u64)]) [(.t 44), (.t 45)]
    (.op (some 9) .mov [(.t 46)]
    .nil))))))))
  (.cut [2, 7, 9] [0] [] (.seq (.reg 10 false (.op (some 47) .mov [(.t 1)]
    (.op (some 48) (.bin .geq) [(.t 47), (.k (.c (.int .i64 0)))]
    (.op (some 49) .mov [(.t 48)]
    (.sc 49 true (.op (some 50) .mov [(.t 1)]
    (.op (some 51) (.bin .lss) [(.t 50), (.k (.c (.int .i64 64)))]
    .nil)) 51 52 false
    .nil)))))
  (.cond (.t 52)
  (.reg 11 false (.op (some 53) .mov [(.t 1)]
    (.op (some 54) (.idxA 64 1) [(.t 7), (.t 53)]
    (.op none (.st (.slot 0)) [(.t 54), (.k (.c (.bool true)))]
    .nil))))
  .skip))
  jacquardlaw7_SetTells_p2))
def jacquardlaw7_SetTells : Fn := { np := 3, nt := 125, ns := 1, res := [.t 6 .b], gc := false, code :=
  (.seq (.reg 0 false (.op (some 6) .mov [(.k (.c (.bool false)))]
    .nil))
  (.seq (.seq (.reg 1 false (.op (some 14) .mov [(.t 0)]
    (.op (some 15) .len [(.t 14)]
    (.op (some 16) (.bin .gtr) [(.t 15), (.k (.c (.int .i64 200)))]
    .nil))))
  (.cond (.t 16)
  (.seq (.reg 2 false (.op (some 17) (.call 62 [.b]) []
    (.op (some 6) .mov [(.t 17)]
    .nil)))
  .ret)
  .skip))
  (.seq (.reg 3 false (.al 7 0 (List.replicate 64 (Cell.bool false))
    .nil))
  (.seq (.seq (.reg 4 false (.op (some 8) .mov [(.k (.c (.int .i64 0)))]
    .nil))
  (.blk 0 (.loop [0, 1, 2, 7, 8] [0] [(1, [0, 1, 2, 7], [0])] jacquardlaw7_SetTells_b1)))
  jacquardlaw7_SetTells_p1)))) }

/- jacquard/jacquardlaw7.SetUptos: 237 -/
def jacquardlaw7_SetUptos : Fn := { np := 3, nt := 77, ns := 0, res := [.t 6 .b], gc := false, code :=
  (.seq (.reg 0 false (.op (some 6) .mov [(.k (.c (.bool false)))]
    .nil))
  (.seq (.reg 1 false (.op (some 10) .mov [(.t 0)]
    (.op (some 11) (.call 61 [(.i .u64)]) [(.t 10)]
    (.op (some 7) .mov [(.t 11)]
    .nil))))
  (.seq (.reg 2 false (.op (some 12) .mov [(.t 0)]
    (.op (some 13) .mx [(.t 12), (.k (.c (.int .i64 0)))]
    (.op (some 14) .mn [(.t 13), (.k (.c (.int .i64 64)))]
    (.op (some 8) .mov [(.t 14)]
    .nil)))))
  (.seq (.reg 3 false (.op (some 15) .mov [(.t 2)]
    (.op (some 16) (.bin .and) [(.t 15), (.k (.c (.int .i64 63)))]
    (.op (some 2) .mov [(.t 16)]
    .nil))))
  (.seq (.reg 4 false (.op (some 17) .mov [(.t 1)]
    (.op (some 9) .mov [(.t 17)]
    .nil)))
  (.seq (.reg 5 false (.op (some 18) .mov [(.t 7)]
    (.op (some 19) (.call 56 [(.i .i64)]) [(.t 18)]
    (.op (some 20) .mov [(.t 8)]
    (.op (some 21) (.bin .eql) [(.t 19), (.t 20)]
    (.op (some 22) .mov [(.t 21)]
    (.sc 22 true (.op (some 23) .mov [(.t 8)]
    (.op (some 24) (.bin .eql) [(.t 23), (.k (.c (.int .i64 0)))]
    (.op (some 25) .mov [(.t 24)]
    (.sc 25 false (.op (some 26) .mov [(.t 7)]
    (.op (some 27) .mov [(.t 8)]
    (.op (some 28) (.bin .sub) [(.t 27), (.k (.c (.int .i64 1)))]
    (.op (some 29) (.call 17 [.b]) [(.t 26), (.t 28)]
    .nil)))) 29 30 true
    .nil)))) 30 31 false
    (.op (some 32) .mov [(.t 31)]
    (.sc 32 true (.op (some 33) .mov [(.t 7)]
    (.op (some 34) .mov [(.t 8)]
    (.op (some 35) (.call 17 [.b]) [(.t 33), (.t 34)]
    (.op (some 36) (.un .not) [(.t 35)]
    .nil)))) 36 37 false
    (.op (some 38) .mov [(.t 37)]
    (.sc 38 true (.op (some 39) .mov [(.t 9)]
    (.op (some 40) .mov [(.t 2)]
    (.op (some 41) (.call 18 [(.i .u64)]) [(.t 39), (.t 40)]
    (.op (some 42) .mov [(.t 2)]
    (.op (some 43) (.call 63 [(.i .u64)]) [(.t 41), (.t 42)]
    (.op (some 44) .mov [(.t 9)]
    (.op (some 45) .mov [(.t 2)]
    (.op (some 46) (.call 63 [(.i .u64)]) [(.t 44), (.t 45)]
    (.op (some 47) (.bin .eql) [(.t 43), (.t 46)]
    .nil))))))))) 47 48 false
    (.op (some 49) .mov [(.t 48)]
    (.sc 49 true (.op (some 50) .mov [(.t 9)]
    (.op (some 51) .mov [(.t 2)]
    (.op (some 52) (.call 63 [(.i .u64)]) [(.t 50), (.t 51)]
    (.op (some 53) .mov [(.t 2)]
    (.op (some 54) (.call 18 [(.i .u64)]) [(.t 52), (.t 53)]
    (.op (some 55) .mov [(.t 9)]
    (.op (some 56) .mov [(.t 2)]
    (.op (some 57) (.call 18 [(.i .u64)]) [(.t 55), (.t 56)]
    (.op (some 58) (.bin .eql) [(.t 54), (.t 57)]
    .nil))))))))) 58 59 false
    (.op (some 60) .mov [(.t 59)]
    (.sc 60 true (.op (some 61) .mov [(.t 9)]
    (.op (some 62) .mov [(.t 2)]
    (.op (some 63) (.call 18 [(.i .u64)]) [(.t 61), (.t 62)]
    (.op (some 64) .mov [(.t 2)]
    (.op (some 65) (.call 17 [.b]) [(.t 63), (.t 64)]
    .nil))))) 65 66 false
    (.op (some 67) .mov [(.t 66)]
    (.sc 67 true (.op (some 68) .mov [(.t 9)]
    (.op (some 69) (.call 32 [.any]) [(.t 68)]
    (.op (some 70) (.call 65 [(.i .u64)]) [(.t 69)]
    (.op (some 71) .mov [(.t 9)]
    (.op (some 72) (.bin .eql) [(.t 70), (.t 71)]
    .nil))))) 72 73 false
    (.op (some 74) .mov [(.t 73)]
    (.sc 74 true (.op (some 75) (.call 62 [.b]) []
    .nil) 75 76 false
    (.op (some 6) .mov [(.t 76)]
    .nil))))))))))))))))))))
  .ret)))))) }


end Jq

namespace Jq
open Go

/- (jacquard/set.Set).Has: 17 -/
def set_Set_Has : Fn := { np := 2, nt := 10, ns := 0, res := [.t 4 .b], gc := false, code :=
  (.seq (.reg 0 false (.op (some 4) .mov [(.k (.c (.bool false)))]
    .nil))
  (.seq (.reg 1 false (.op (some 5) .mov [(.t 0)]
    (.op (some 6) .mov [(.t 1)]
    (.op (some 7) (.call 19 [(.i .u64)]) [(.t 6)]
    (.op (some 8) (.bin .and) [(.t 5), (.t 7)]
    (.op (some 9) (.bin .neq) [(.t 8), (.k (.c (.int .u64 0)))]
    (.op (some 4) .mov [(.t 9)]
    .nil)))))))
  .ret)) }

/- (jacquard/set.Set).With: 18 -/
def set_Set_With : Fn := { np := 2, nt := 9, ns := 0, res := [.t 4 (.i .u64)], gc := false, code :=
  (.seq (.reg 0 false (.op (some 4) .mov [(.k (.c (.int .u64 0)))]
    .nil))
  (.seq (.reg 1 false (.op (some 5) .mov [(.t 0)]
    (.op (some 6) .mov [(.t 1)]
    (.op (some 7) (.call 19 [(.i .u64)]) [(.t 6)]
    (.op (some 8) (.bin .or) [(.t 5), (.t 7)]
    (.op (some 4) .mov [(.t 8)]
    .nil))))))
  .ret)) }

/- jacquard/set.bit: 19 -/
def set_bit : Fn := { np := 1, nt := 12, ns := 0, res := [.t 2 (.i .u64)], gc := false, code :=
  (.seq (.reg 0 false (.op (some 2) .mov [(.k (.c (.int .u64 0)))]
    .nil))
  (.seq (.seq (.reg 1 false (.op (some 3) .mov [(.t 0)]
    (.op (some 4) (.bin .lss) [(.t 3), (.k (.c (.int .i64 0)))]
    (.op (some 5) .mov [(.t 4)]
    (.sc 5 false (.op (some 6) .mov [(.t 0)]
    (.op (some 7) (.bin .geq) [(.t 6), (.k (.c (.int .i64 64)))]
    .nil)) 7 8 true
    .nil)))))
  (.cond (.t 8)
  (.seq (.reg 2 false (.op (some 2) .mov [(.k (.c (.int .u64 0)))]
    .nil))
  .ret)
  .skip))
  (.seq (.reg 3 false (.op (some 9) .mov [(.t 0)]
    (.op (some 10) (.conv .u64) [(.t 9)]
    (.op (some 11) (.bin .shl) [(.k (.c (.int .u64 1))), (.t 10)]
    (.op (some 2) .mov [(.t 11)]
    .nil)))))
  .ret))) }

/- (jacquard/set.Set).List: 32 -/
def set_Set_List_b1 : IC :=
  (.seq (.seq (.reg 2 false (.op (some 4) .mov [(.t 0)]
    (.op (some 5) (.bin .neq) [(.t 4), (.k (.c (.int .u64 0)))]
    .nil)))
  (.cond (.t 5)
  .skip
  (.exit 0)))
  (.seq (.blk 1 (.reg 4 false (.op (some 10) .mov [(.t 3)]
    (.op (some 11) .mov [(.t 0)]
    (.op (some 12) (.call 38 [(.i .i64)]) [(.t 11)]
    (.op (some 13) (.lit 1 1 ([Cell.int .i64 0]) [(0, 1)]) [(.t 12)]
    (.op (some 14) (.app 1 8) [(.t 10), (.t 13)]
    (.op (some 3) .mov [(.t 14)]
    .nil))))))))
  (.reg 3 false (.op (some 6) .mov [(.t 0)]
    (.op (some 7) .mov [(.t 0)]
    (.op (some 8) (.bin .sub) [(.t 7), (.k (.c (.int .u64 1)))]
    (.op (some 9) (.bin .and) [(.t 6), (.t 8)]
    (.op (some 0) .mov [(.t 9)]
    .nil))))))))
def set_Set_List_p1 : IC :=
  (.seq (.reg 5 false (.op (some 15) .mov [(.t 3)]
    (.op (some 2) .mov [(.t 15)]
    .nil)))
  .ret)
def set_Set_List : Fn := { np := 1, nt := 16, ns := 0, res := [.t 2 .any], gc := false, code :=
  (.seq (.reg 0 false (.op (some 2) .mov [(.k (.c .nils))]
    .nil))
  (.seq (.reg 1 false (.op (some 3) .mov [(.k (.c .nils))]
    .nil))
  (.seq (.blk 0 (.loop [0, 3] [] [(1, [3], [])] set_Set_List_b1))
  set_Set_List_p1))) }

/- (jacquard/set.Set).First: 38 -/
def set_Set_First : Fn := { np := 1, nt := 7, ns := 0, res := [.t 2 (.i .i64)], gc := false, code :=
  (.seq (.reg 0 false (.op (some 2) .mov [(.k (.c (.int .i64 0)))]
    .nil))
  (.seq (.seq (.reg 1 false (.op (some 3) .mov [(.t 0)]
    (.op (some 4) (.bin .eql) [(.t 3), (.k (.c (.int .u64 0)))]
    .nil)))
  (.cond (.t 4)
  (.seq (.reg 2 false (.op (some 2) .mov [(.k (.c (.int .i64 (-1))))]
    .nil))
  .ret)
  .skip))
  (.seq (.reg 3 false (.op (some 5) .mov [(.t 0)]
    (.op (some 6) (.call 42 [(.i .i64)]) [(.t 5)]
    (.op (some 2) .mov [(.t 6)]
    .nil))))
  .ret))) }

/- (jacquard/set.Set).Len: 56 -/
def set_Set_Len : Fn := { np := 1, nt := 5, ns := 0, res := [.t 2 (.i .i64)], gc := false, code :=
  (.seq (.reg 0 false (.op (some 2) .mov [(.k (.c (.int .i64 0)))]
    .nil))
  (.seq (.reg 1 false (.op (some 3) .mov [(.t 0)]
    (.op (some 4) (.call 57 [(.i .i64)]) [(.t 3)]
    (.op (some 2) .mov [(.t 4)]
    .nil))))
  .ret)) }

/- (jacquard/set.Set).Next: 60 -/
def set_Set_Next : Fn := { np := 1, nt := 26, ns := 0, res := [.t 2 (.i .u64)], gc := false, code :=
  (.seq (.reg 0 false (.op (some 2) .mov [(.k (.c (.int .u64 0)))]
    .nil))
  (.seq (.seq (.reg 1 false (.op (some 5) .mov [(.t 0)]
    (.op (some 6) (.bin .eql) [(.t 5), (.k (.c (.int .u64 0)))]
    .nil)))
  (.cond (.t 6)
  (.seq (.reg 2 false (.op (some 2) .mov [(.k (.c (.int .u64 0)))]
    .nil))
  .ret)
  .skip))
  (.seq (.reg 3 false (.op (some 7) .mov [(.t 0)]
    (.op (some 8) .mov [(.t 0)]
    (.op (some 9) (.un .neg) [(.t 8)]
    (.op (some 10) (.bin .and) [(.t 7), (.t 9)]
    (.op (some 3) .mov [(.t 10)]
    .nil))))))
  (.seq (.reg 4 false (.op (some 11) .mov [(.t 0)]
    (.op (some 12) .mov [(.t 3)]
    (.op (some 13) (.bin .add) [(.t 11), (.t 12)]
    (.op (some 4) .mov [(.t 13)]
    .nil)))))
  (.seq (.seq (.reg 5 false (.op (some 14) .mov [(.t 4)]
    (.op (some 15) (.bin .eql) [(.t 14), (.k (.c (.int .u64 0)))]
    .nil)))
  (.cond (.t 15)
  (.seq (.reg 6 false (.op (some 2) .mov [(.k (.c (.int .u64 0)))]
    .nil))
  .ret)
  .skip))
  (.seq (.reg 7 false (.op (some 16) .mov [(.t 4)]
    (.op (some 17) .mov [(.t 0)]
    (.op (some 18) .mov [(.t 4)]
    (.op (some 19) (.bin .xor) [(.t 17), (.t 18)]
    (.op (some 20) (.bin .shr) [(.t 19), (.k (.c (.int .u64 2)))]
    (.op (some 21) .mov [(.t 3)]
    (.op (some 22) (.call 38 [(.i .i64)]) [(.t 21)]
    (.op (some 23) (.conv .u64) [(.t 22)]
    (.op (some 24) (.bin .shr) [(.t 20), (.t 23)]
    (.op (some 25) (.bin .or) [(.t 16), (.t 24)]
    (.op (some 2) .mov [(.t 25)]
    .nil))))))))))))
  .ret)))))) }

/- jacquard/set.Upto: 61 -/
def set_Upto : Fn := { np := 1, nt := 12, ns := 0, res := [.t 2 (.i .u64)], gc := false, code :=
  (.seq (.reg 0 false (.op (some 2) .mov [(.k (.c (.int .u64 0)))]
    .nil))
  (.seq (.reg 1 false (.op (some 3) .mov [(.t 0)]
    (.op (some 4) .mx [(.t 3), (.k (.c (.int .i64 0)))]
    (.op (some 5) .mn [(.t 4), (.k (.c (.int .i64 64)))]
    (.op (some 0) .mov [(.t 5)]
    .nil)))))
  (.seq (.seq (.reg 2 false (.op (some 6) .mov [(.t 0)]
    (.op (some 7) (.bin .eql) [(.t 6), (.k (.c (.int .i64 64)))]
    .nil)))
  (.cond (.t 7)
  (.seq (.reg 3 false (.op (some 2) .mov [(.k (.c (.int .u64 18446744073709551615)))]
    .nil))
  .ret)
  .skip))
  (.seq (.reg 4 false (.op (some 8) .mov [(.t 0)]
    (.op (some 9) (.conv .u64) [(.t 8)]
    (.op (some 10) (.bin .shl) [(.k (.c (.int .u64 1))), (.t 9)]
    (.op (some 11) (.bin .sub) [(.t 10), (.k (.c (.int .u64 1)))]
    (.op (some 2) .mov [(.t 11)]
    .nil))))))
  .ret)))) }

/- (jacquard/set.Set).Without: 63 -/
def set_Set_Without : Fn := { np := 2, nt := 9, ns := 0, res := [.t 4 (.i .u64)], gc := false, code :=
  (.seq (.reg 0 false (.op (some 4) .mov [(.k (.c (.int .u64 0)))]
    .nil))
  (.seq (.reg 1 false (.op (some 5) .mov [(.t 0)]
    (.op (some 6) .mov [(.t 1)]
    (.op (some 7) (.call 19 [(.i .u64)]) [(.t 6)]
    (.op (some 8) (.bin .andNot) [(.t 5), (.t 7)]
    (.op (some 4) .mov [(.t 8)]
    .nil))))))
  .ret)) }

/- jacquard/set.Of: 65 -/
def set_Of_b1 : IC :=
  (.seq (.reg 3 false (.op (some 9) (.bin .lss) [(.t 8), (.t 7)]
    .nil))
  (.seq (.cond (.t 9)
  .skip
  (.exit 0))
  (.seq (.blk 1 (.seq (.reg 4 false (.op (some 10) (.idxS 1) [(.t 6), (.t 8)]
    (.op (some 11) (.ld .heap (.i .i64)) [(.t 10)]
    (.op (some 5) .mov [(.t 11)]
    .nil))))
  (.reg 5 false (.op (some 12) .mov [(.t 3)]
    (.op (some 13) .mov [(.t 5)]
    (.op (some 14) (.call 18 [(.i .u64)]) [(.t 12), (.t 13)]
    (.op (some 3) .mov [(.t 14)]
    .nil)))))))
  (.reg 6 false (.op (some 15) (.bin .add) [(.t 8), (.k (.c (.int .i64 1)))]
    (.op (some 8) .mov [(.t 15)]
    .nil))))))
def set_Of_p1 : IC :=
  (.seq (.reg 7 false (.op (some 16) .mov [(.t 3)]
    (.op (some 2) .mov [(.t 16)]
    .nil)))
  .ret)
def set_Of : Fn := { np := 1, nt := 17, ns := 0, res := [.t 2 (.i .u64)], gc := false, code :=
  (.seq (.reg 0 false (.op (some 2) .mov [(.k (.c (.int .u64 0)))]
    .nil))
  (.seq (.reg 1 false (.op (some 3) .mov [(.k (.c (.int .u64 0)))]
    .nil))
  (.seq (.seq (.reg 2 false (.op (some 6) .mov [(.t 0)]
    (.op (some 7) .len [(.t 6)]
    (.op (some 8) .mov [(.k (.c (.int .i64 0)))]
    .nil))))
  (.blk 0 (.loop [3, 6, 7, 8] [] [(1, [3], [])] set_Of_b1)))
  set_Of_p1))) }


end Jq

/- What a function needs of an environment. -/
namespace Jq
open Go

structure set_bit_In (E : Env) : Prop where
  fn : E.fn 19 = some set_bit

structure set_Set_With_In (E : Env) : Prop where
  fn : E.fn 18 = some set_Set_With
  c19 : set_bit_In E

structure set_Set_Has_In (E : Env) : Prop where
  fn : E.fn 17 = some set_Set_Has
  c19 : set_bit_In E

structure set_Set_First_In (E : Env) : Prop where
  fn : E.fn 38 = some set_Set_First
  c42 : bits_TrailingZeros64_In E

structure set_Set_List_In (E : Env) : Prop where
  fn : E.fn 32 = some set_Set_List
  c38 : set_Set_First_In E

structure set_Set_Len_In (E : Env) : Prop where
  fn : E.fn 56 = some set_Set_Len
  c57 : bits_OnesCount64_In E

structure set_Upto_In (E : Env) : Prop where
  fn : E.fn 61 = some set_Upto

structure set_Set_Next_In (E : Env) : Prop where
  fn : E.fn 60 = some set_Set_Next
  c38 : set_Set_First_In E

structure set_Of_In (E : Env) : Prop where
  fn : E.fn 65 = some set_Of
  c18 : set_Set_With_In E

structure set_Set_Without_In (E : Env) : Prop where
  fn : E.fn 63 = some set_Set_Without
  c19 : set_bit_In E

end Jq

/- What a function needs of an environment. -/
namespace Jq
open Go

structure jacquardlaw7_awake_In (E : Env) : Prop where
  fn : E.fn 62 = some jacquardlaw7_awake
  c32 : set_Set_List_In E
  c38 : set_Set_First_In E
  c56 : set_Set_Len_In E
  c60 : set_Set_Next_In E
  c61 : set_Upto_In E
  c65 : set_Of_In E

structure jacquardlaw7_in_In (E : Env) : Prop where
  fn : E.fn 64 = some jacquardlaw7_in

structure jacquardlaw7_SetAlgebra_In (E : Env) : Prop where
  fn : E.fn 235 = some jacquardlaw7_SetAlgebra
  c17 : set_Set_Has_In E
  c18 : set_Set_With_In E
  c32 : set_Set_List_In E
  c56 : set_Set_Len_In E
  c62 : jacquardlaw7_awake_In E
  c63 : set_Set_Without_In E
  c64 : jacquardlaw7_in_In E

structure jacquardlaw7_SetTells_In (E : Env) : Prop where
  fn : E.fn 236 = some jacquardlaw7_SetTells
  c17 : set_Set_Has_In E
  c18 : set_Set_With_In E
  c32 : set_Set_List_In E
  c38 : set_Set_First_In E
  c56 : set_Set_Len_In E
  c62 : jacquardlaw7_awake_In E
  c63 : set_Set_Without_In E
  c65 : set_Of_In E

structure jacquardlaw7_SetUptos_In (E : Env) : Prop where
  fn : E.fn 237 = some jacquardlaw7_SetUptos
  c17 : set_Set_Has_In E
  c18 : set_Set_With_In E
  c32 : set_Set_List_In E
  c56 : set_Set_Len_In E
  c61 : set_Upto_In E
  c62 : jacquardlaw7_awake_In E
  c63 : set_Set_Without_In E
  c65 : set_Of_In E

end Jq

namespace Jq
open Go

/- (jacquard/set.Set).Has: 17 -/
set_option maxRecDepth 100000 in
theorem set_Set_Has_eq (C : CallF) (L : LoopF) (G : Glo) (a0 : Int) (a1 : Int) (h0 : AHeap) :
    set_Set_Has.body C L G [(.c (.int .u64 a0)), (.c (.int .i64 a1))] h0 =
    c1 (C 19 [(.c (.int .i64 a1))] h0) fun y_2 h_1 => asI .u64 y_2 fun n_3 => some ([(.c (.bool ((G.band .u64 a0 n_3) != 0)))], h_1) := by kernel_rfl

/- (jacquard/set.Set).With: 18 -/
set_option maxRecDepth 100000 in
theorem set_Set_With_eq (C : CallF) (L : LoopF) (G : Glo) (a0 : Int) (a1 : Int) (h0 : AHeap) :
    set_Set_With.body C L G [(.c (.int .u64 a0)), (.c (.int .i64 a1))] h0 =
    c1 (C 19 [(.c (.int .i64 a1))] h0) fun y_2 h_1 => asI .u64 y_2 fun n_3 => some ([(.c (.int .u64 (G.bor .u64 a0 n_3)))], h_1) := by kernel_rfl

/- jacquard/set.bit: 19 -/
set_option maxRecDepth 100000 in
theorem set_bit_eq (C : CallF) (L : LoopF) (G : Glo) (a0 : Int) (h0 : AHeap) :
    set_bit.body C L G [(.c (.int .i64 a0))] h0 =
    scK (decide (a0 < 0)) false (some ((decide (a0 ≥ 64)), h0)) true h0 fun b_1 h_2 => if b_1 = true then some ([(.c (.int .u64 0))], h_2) else if (G.wrap .u64 a0) < 0 then none else some ([(.c (.int .u64 (G.shl .u64 1 (G.wrap .u64 a0))))], h_2) := by kernel_rfl

/- (jacquard/set.Set).List: 32 -/
def set_Set_List_k2 (C : CallF) (L : LoopF) (G : Glo) (h0 : AHeap) : Ex → St → Option (List AV × AHeap) :=
  kSeq (fun st => set_Set_List_p1.exec C L G st (set_Set_List.fin G h0)) (set_Set_List.fin G h0)
def set_Set_List_k3 (C : CallF) (L : LoopF) (G : Glo) (h0 : AHeap) : Ex → St → Option (List AV × AHeap) :=
  kBlk 0 (set_Set_List_k2 C L G h0)
def set_Set_List_s1 (a0 : Int) (x3 : Cell) (h : AHeap) : St := ⟨[.v (.c (.int .u64 a0)), .top, .top, .v (.c x3), .top, .top, .top, .top, .top, .top, .top, .top, .top, .top, .top, .top], [], h⟩
def set_Set_List_F1 (C : CallF) (L : LoopF) (G : Glo) : St → Option (Ex × St) :=
  roundF (fun st f => set_Set_List_b1.exec C L G st f) [0, 3] [] [(1, [3], [])]
def set_Set_List_x1_1 (x3 : Cell) (h : AHeap) : St := ⟨[.top, .top, .top, .v (.c x3), .top, .top, .top, .top, .top, .top, .top, .top, .top, .top, .top, .top], [], h⟩
theorem set_Set_List_r1 (C : CallF) (L : LoopF) (G : Glo) (a0 : Int) (x3 : Cell) (h : AHeap) :
    set_Set_List_F1 C L G (set_Set_List_s1 a0 x3 h) =
    if (a0 != 0) = true then c1 (C 38 [(.c (.int .u64 a0))] h) fun y_2 h_1 => asI .i64 y_2 fun n_3 => if (splice [Cell.int .i64 0] 0 ([(.int .i64 n_3)] : List Cell)).length = 1 * 1 then appK 1 8 x3 (splice [Cell.int .i64 0] 0 ([(.int .i64 n_3)] : List Cell)) h_1 fun x_4 h_5 => some (.normal, (set_Set_List_s1 (G.band .u64 a0 (G.wrap .u64 (a0 - 1))) x_4 h_5)) else none else some ((.exit 0), (set_Set_List_x1_1 x3 h)) := by kernel_rfl
theorem set_Set_List_e1_1 (C : CallF) (L : LoopF) (G : Glo) (h0 : AHeap) (x3 : Cell) (h : AHeap) :
    (set_Set_List_k3 C L G h0) (.exit 0) (set_Set_List_x1_1 x3 h) =
    some ([(.c x3)], h) := by kernel_rfl
set_option maxRecDepth 100000 in
theorem set_Set_List_eq (C : CallF) (L : LoopF) (G : Glo) (a0 : Int) (h0 : AHeap) :
    set_Set_List.body C L G [(.c (.int .u64 a0))] h0 =
    (L (set_Set_List_F1 C L G) (set_Set_List_s1 a0 .nils h0)).bind fun p_6 => (set_Set_List_k3 C L G h0) p_6.1 p_6.2 := by kernel_rfl

/- (jacquard/set.Set).First: 38 -/
set_option maxRecDepth 100000 in
theorem set_Set_First_eq (C : CallF) (L : LoopF) (G : Glo) (a0 : Int) (h0 : AHeap) :
    set_Set_First.body C L G [(.c (.int .u64 a0))] h0 =
    if (a0 == 0) = true then some ([(.c (.int .i64 (-1)))], h0) else c1 (C 42 [(.c (.int .u64 a0))] h0) fun y_2 h_1 => asI .i64 y_2 fun n_3 => some ([(.c (.int .i64 n_3))], h_1) := by kernel_rfl

/- (jacquard/set.Set).Len: 56 -/
set_option maxRecDepth 100000 in
theorem set_Set_Len_eq (C : CallF) (L : LoopF) (G : Glo) (a0 : Int) (h0 : AHeap) :
    set_Set_Len.body C L G [(.c (.int .u64 a0))] h0 =
    c1 (C 57 [(.c (.int .u64 a0))] h0) fun y_2 h_1 => asI .i64 y_2 fun n_3 => some ([(.c (.int .i64 n_3))], h_1) := by kernel_rfl

/- (jacquard/set.Set).Next: 60 -/
set_option maxRecDepth 100000 in
theorem set_Set_Next_eq (C : CallF) (L : LoopF) (G : Glo) (a0 : Int) (h0 : AHeap) :
    set_Set_Next.body C L G [(.c (.int .u64 a0))] h0 =
    if (a0 == 0) = true then some ([(.c (.int .u64 0))], h0) else let v_1 : Int := (G.wrap .u64 (a0 + (G.band .u64 a0 (G.wrap .u64 (0 - a0))))); if (v_1 == 0) = true then some ([(.c (.int .u64 0))], h0) else c1 (C 38 [(.c (.int .u64 (G.band .u64 a0 (G.wrap .u64 (0 - a0)))))] h0) fun y_3 h_2 => asI .i64 y_3 fun n_4 => if (G.wrap .u64 n_4) < 0 then none else let v_5 : Int := (G.shr .u64 (G.shr .u64 (G.bxor .u64 a0 v_1) 2) (G.wrap .u64 n_4)); some ([(.c (.int .u64 (G.bor .u64 v_1 v_5)))], h_2) := by kernel_rfl

/- jacquard/set.Upto: 61 -/
set_option maxRecDepth 100000 in
theorem set_Upto_eq (C : CallF) (L : LoopF) (G : Glo) (a0 : Int) (h0 : AHeap) :
    set_Upto.body C L G [(.c (.int .i64 a0))] h0 =
    let v_1 : Int := (if 64 < (if 0 > a0 then 0 else a0) then 64 else (if 0 > a0 then 0 else a0)); if (v_1 == 64) = true then some ([(.c (.int .u64 18446744073709551615))], h0) else if (G.wrap .u64 v_1) < 0 then none else let v_2 : Int := (G.wrap .u64 ((G.shl .u64 1 (G.wrap .u64 v_1)) - 1)); some ([(.c (.int .u64 v_2))], h0) := by kernel_rfl

/- (jacquard/set.Set).Without: 63 -/
set_option maxRecDepth 100000 in
theorem set_Set_Without_eq (C : CallF) (L : LoopF) (G : Glo) (a0 : Int) (a1 : Int) (h0 : AHeap) :
    set_Set_Without.body C L G [(.c (.int .u64 a0)), (.c (.int .i64 a1))] h0 =
    c1 (C 19 [(.c (.int .i64 a1))] h0) fun y_2 h_1 => asI .u64 y_2 fun n_3 => some ([(.c (.int .u64 (G.bandNot .u64 a0 n_3)))], h_1) := by kernel_rfl

/- jacquard/set.Of: 65 -/
def set_Of_k2 (C : CallF) (L : LoopF) (G : Glo) (h0 : AHeap) : Ex → St → Option (List AV × AHeap) :=
  kSeq (fun st => set_Of_p1.exec C L G st (set_Of.fin G h0)) (set_Of.fin G h0)
def set_Of_k3 (C : CallF) (L : LoopF) (G : Glo) (h0 : AHeap) : Ex → St → Option (List AV × AHeap) :=
  kBlk 0 (set_Of_k2 C L G h0)
def set_Of_s1 (a3 : Int) (x6 : Cell) (a7 : Int) (a8 : Int) (h : AHeap) : St := ⟨[.top, .top, .top, .v (.c (.int .u64 a3)), .top, .top, .v (.c x6), .v (.c (.int .i64 a7)), .v (.c (.int .i64 a8)), .top, .top, .top, .top, .top, .top, .top, .top], [], h⟩
def set_Of_F1 (C : CallF) (L : LoopF) (G : Glo) : St → Option (Ex × St) :=
  roundF (fun st f => set_Of_b1.exec C L G st f) [3, 6, 7, 8] [] [(1, [3], [])]
def set_Of_x1_1 (a3 : Int) (h : AHeap) : St := ⟨[.top, .top, .top, .v (.c (.int .u64 a3)), .top, .top, .top, .top, .top, .top, .top, .top, .top, .top, .top, .top, .top], [], h⟩
theorem set_Of_r1 (C : CallF) (L : LoopF) (G : Glo) (a3 : Int) (x6 : Cell) (a7 : Int) (a8 : Int) (h : AHeap) :
    set_Of_F1 C L G (set_Of_s1 a3 x6 a7 a8 h) =
    if (decide (a8 < a7)) = true then idxSK 1 x6 a8 fun k_2 N_3 o_4 => rdH h k_2 N_3 fun l_5 => atK l_5 o_4 fun q_6 => asI .i64 (.c q_6) fun n_7 => c1 (C 18 [(.c (.int .u64 a3)), (.c (.int .i64 n_7))] h) fun y_9 h_8 => asI .u64 y_9 fun n_10 => some (.normal, (set_Of_s1 n_10 x6 a7 (G.wrap .i64 (a8 + 1)) h_8)) else some ((.exit 0), (set_Of_x1_1 a3 h)) := by kernel_rfl
theorem set_Of_e1_1 (C : CallF) (L : LoopF) (G : Glo) (h0 : AHeap) (a3 : Int) (h : AHeap) :
    (set_Of_k3 C L G h0) (.exit 0) (set_Of_x1_1 a3 h) =
    some ([(.c (.int .u64 a3))], h) := by kernel_rfl
set_option maxRecDepth 100000 in
theorem set_Of_eq (C : CallF) (L : LoopF) (G : Glo) (x0 : Cell) (h0 : AHeap) :
    set_Of.body C L G [(.c x0)] h0 =
    lenK x0 fun n_1 => (L (set_Of_F1 C L G) (set_Of_s1 0 x0 n_1 0 h0)).bind fun p_11 => (set_Of_k3 C L G h0) p_11.1 p_11.2 := by kernel_rfl


end Jq

/- Few numbers in one word: what the package's functions come to. -/
namespace Jq
open Go

/-- A number's bit. -/
def bitI (i : Int) : Nat := if 0 ≤ i ∧ i < 64 then 2 ^ i.toNat else 0

theorem bitI_lt (i : Int) : bitI i < 2 ^ 64 := by
  unfold bitI; split
  · exact Nat.pow_lt_pow_right (by omega) (by omega)
  · omega

theorem testBit_bitI (i : Int) (j : Nat) : (bitI i).testBit j = (decide (i = j) && decide (j < 64)) := by
  unfold bitI; split
  · rename_i h
    rw [Nat.testBit_two_pow]
    rw [Bool.eq_iff_iff]; simp; omega
  · rename_i h
    rw [Nat.zero_testBit, eq_comm, Bool.eq_false_iff]; simp; omega

/-- Whether a number is in it. -/
def hasI (s : Nat) (i : Int) : Bool := decide (0 ≤ i) && s.testBit i.toNat && decide (i < 64)

theorem and_bitI {s : Nat} (i : Int) : ((s &&& bitI i) != 0) = hasI s i := by
  unfold hasI bitI
  by_cases h : 0 ≤ i ∧ i < 64
  · rw [if_pos h]
    simp only [h.1, h.2, decide_true, Bool.true_and, Bool.and_true]
    cases hb : s.testBit i.toNat with
    | true =>
      simp only [bne_iff_ne, ne_eq]
      intro h0
      have := congrArg (fun x => x.testBit i.toNat) h0
      simp [Nat.testBit_and, hb, Nat.testBit_two_pow] at this
    | false =>
      have : s &&& 2 ^ i.toNat = 0 := by
        refine Nat.eq_of_testBit_eq fun j => ?_
        rw [Nat.testBit_and, Nat.testBit_two_pow, Nat.zero_testBit]
        by_cases hj : i.toNat = j
        · subst hj; simp [hb]
        · simp [hj]
      simp [this]
  · rw [if_neg h]
    have : ¬ (0 ≤ i) ∨ ¬ (i < 64) := by omega
    rcases this with h | h <;> simp [h]

theorem hasI_nat {s i : Nat} (hi : i < 64) : hasI s (i : Int) = s.testBit i := by
  unfold hasI; simp; omega

variable {E : Env}

theorem bit_R (hE : set_bit_In E) (i : Int) (h : AHeap) : R E 19 [.c (.int .i64 i)] h = some ([.c (.int .u64 (bitI i))], h) := by
  refine R_intro hE.fn ?_
  rw [set_bit_eq, scK_or]
  unfold bitI
  by_cases hi : 0 ≤ i ∧ i < 64
  · have h1 : (decide (i < 0) || decide (i ≥ 64)) = false := by simp; omega
    rw [h1, if_pos hi]
    obtain ⟨n, rfl⟩ := Int.eq_ofNat_of_zero_le hi.1
    have hw : E.glob.wrap .u64 (n : Int) = n := wrap_u64n (by omega)
    rw [hw]
    simp only [Bool.false_eq_true, if_false]
    rw [if_neg (by omega), show E.glob.shl .u64 1 (n : Int) = _ from std_shl_one (by omega)]
    simp
  · have h1 : (decide (i < 0) || decide (i ≥ 64)) = true := by simp; omega
    rw [h1, if_neg hi]; simp

theorem Has_R (hE : set_Set_Has_In E) {s : Nat} (hs : s < 2 ^ 64) (i : Int) (h : AHeap) : R E 17 [.c (.int .u64 s), .c (.int .i64 i)] h = some ([.c (.bool (hasI s i))], h) := by
  refine R_intro hE.fn ?_
  rw [set_Set_Has_eq, bit_R hE.c19, c1_ok, asI_ok, show E.glob.band .u64 (s : Int) _ = _ from std_band hs (bitI_lt i), ← and_bitI]
  have : (((s &&& bitI i : Nat) : Int) != 0) = (s &&& bitI i != 0) := by rw [Bool.eq_iff_iff]; simp
  rw [this]

theorem With_R (hE : set_Set_With_In E) {s : Nat} (hs : s < 2 ^ 64) (i : Int) (h : AHeap) : R E 18 [.c (.int .u64 s), .c (.int .i64 i)] h = some ([.c (.int .u64 ((s ||| bitI i : Nat) : Int))], h) := by
  refine R_intro hE.fn ?_
  rw [set_Set_With_eq, bit_R hE.c19, c1_ok, asI_ok, show E.glob.bor .u64 (s : Int) _ = _ from std_bor hs (bitI_lt i)]

theorem Without_R (hE : set_Set_Without_In E) {s : Nat} (hs : s < 2 ^ 64) (i : Int) (h : AHeap) : R E 63 [.c (.int .u64 s), .c (.int .i64 i)] h = some ([.c (.int .u64 ((ndiff s (bitI i) : Nat) : Int))], h) := by
  refine R_intro hE.fn ?_
  rw [set_Set_Without_eq, bit_R hE.c19, c1_ok, asI_ok, show E.glob.bandNot .u64 (s : Int) _ = _ from std_bandNot hs (bitI_lt i)]

end Jq

namespace Jq
open Go

/- math/bits.TrailingZeros64: 42 -/
set_option maxRecDepth 100000 in
theorem bits_TrailingZeros64_eq (C : CallF) (L : LoopF) (G : Glo) (a0 : Int) (h0 : AHeap) :
    bits_TrailingZeros64.body C L G [(.c (.int .u64 a0))] h0 =
    if (a0 == 0) = true then some ([(.c (.int .i64 64))], h0) else let v_1 : Int := (G.wrap .u64 ((G.band .u64 a0 (G.wrap .u64 (0 - a0))) * 285870213051353865)); if 0 ≤ (G.shr .u64 v_1 58) ∧ (G.shr .u64 v_1 58) < ((64 : Nat) : Int) then atK (G.tab 1) (0 + ((Int.toNat (G.shr .u64 v_1 58)) * 1)) fun q_2 => asI .u8 (.c q_2) fun n_3 => some ([(.c (.int .i64 (G.wrap .i64 n_3)))], h0) else none := by kernel_rfl

/- math/bits.OnesCount64: 57 -/
set_option maxRecDepth 100000 in
theorem bits_OnesCount64_eq (C : CallF) (L : LoopF) (G : Glo) (a0 : Int) (h0 : AHeap) :
    bits_OnesCount64.body C L G [(.c (.int .u64 a0))] h0 =
    let v_1 : Int := (G.band .u64 (G.shr .u64 a0 1) 6148914691236517205); let v_2 : Int := (G.wrap .u64 (v_1 + (G.band .u64 a0 6148914691236517205))); let v_3 : Int := (G.band .u64 (G.shr .u64 v_2 2) 3689348814741910323); let v_4 : Int := (G.wrap .u64 (v_3 + (G.band .u64 v_2 3689348814741910323))); let v_5 : Int := (G.band .u64 (G.wrap .u64 ((G.shr .u64 v_4 4) + v_4)) 1085102592571150095); let v_6 : Int := (G.shr .u64 (G.wrap .u64 (v_5 + (G.shr .u64 v_5 8))) 16); let v_7 : Int := (G.wrap .u64 ((G.wrap .u64 (v_5 + (G.shr .u64 v_5 8))) + v_6)); let v_8 : Int := (G.wrap .u64 (v_7 + (G.shr .u64 v_7 32))); some ([(.c (.int .i64 (G.band .i64 (G.wrap .i64 v_8) 127)))], h0) := by kernel_rfl


end Jq

/- Bits counted, and the lowest one: what math/bits comes to. -/
namespace Jq
open Go

/-- How many of the first k bits are set. -/
def pcN : Nat → Nat → Nat
  | 0, _ => 0
  | k + 1, x => x % 2 + pcN k (x / 2)

/-- How many numbers a word has. -/
def pc (x : Nat) : Nat := pcN 64 x

theorem pcN_add : ∀ (m n x : Nat), pcN (m + n) x = pcN m x + pcN n (x / 2 ^ m)
  | 0, n, x => by simp [pcN]
  | m + 1, n, x => by
    rw [show m + 1 + n = (m + n) + 1 by omega, pcN, pcN_add m n, pcN, Nat.div_div_eq_div_mul, Nat.pow_succ, Nat.mul_comm 2, Nat.add_assoc]

theorem pcN_mod : ∀ (m x : Nat), pcN m (x % 2 ^ m) = pcN m x
  | 0, _ => rfl
  | m + 1, x => by
    rw [pcN, pcN, ← pcN_mod m (x / 2), ← pcN_mod m (x % 2 ^ (m + 1) / 2)]
    have h1 : x % 2 ^ (m + 1) % 2 = x % 2 := Nat.mod_mod_of_dvd _ ⟨2 ^ m, by rw [Nat.pow_succ, Nat.mul_comm]⟩
    have h2 : x % 2 ^ (m + 1) / 2 = x / 2 % 2 ^ m := by
      rw [Nat.pow_succ, Nat.mul_comm, Nat.mod_mul_right_div_self]
    rw [h1, h2, Nat.mod_mod]

/-- A function of each byte. -/
def mapB (f : Nat → Nat) : Nat → Nat → Nat
  | 0, _ => 0
  | k + 1, x => f (x % 256) + 256 * mapB f k (x / 256)

def repB (c : Nat) : Nat → Nat
  | 0 => 0
  | k + 1 => c + 256 * repB c k

theorem land_bytes {a b m n : Nat} (ha : a < 256) (hm : m < 256) : (a + 256 * b) &&& (m + 256 * n) = (a &&& m) + 256 * (b &&& n) := by
  have h1 : ((a + 256 * b) &&& (m + 256 * n)) % 256 = a &&& m := by
    have := @Nat.and_mod_two_pow (a + 256 * b) (m + 256 * n) 8
    rw [show (2 : Nat) ^ 8 = 256 from rfl] at this
    rw [this, Nat.add_mul_mod_self_left, Nat.add_mul_mod_self_left, Nat.mod_eq_of_lt ha, Nat.mod_eq_of_lt hm]
  have h2 : ((a + 256 * b) &&& (m + 256 * n)) / 256 = b &&& n := by
    have := @Nat.and_div_two_pow (a + 256 * b) (m + 256 * n) 8
    rw [show (2 : Nat) ^ 8 = 256 from rfl] at this
    rw [this, Nat.add_mul_div_left _ _ (by omega), Nat.add_mul_div_left _ _ (by omega), Nat.div_eq_of_lt ha, Nat.div_eq_of_lt hm, Nat.zero_add, Nat.zero_add]
  omega

def fb1 (b : Nat) : Nat := ((b / 2) &&& 0x55) + (b &&& 0x55)
def fb2 (b : Nat) : Nat := ((b / 4) &&& 0x33) + (b &&& 0x33)
def fb3 (b : Nat) : Nat := (b + b / 16) &&& 0x0f

theorem fb1_lt : ∀ b, b < 256 → fb1 b < 256 ∧ fb1 b % 4 < 3 ∧ ((b / 2 + 128) &&& 0x55 = (b / 2) &&& 0x55) := by decide +kernel
theorem fb2_lt : ∀ b, b < 256 → fb2 b < 256 ∧ (∀ c, c < 4 → ((b / 4 + 64 * c) &&& 0x33 = (b / 4) &&& 0x33)) := by decide +kernel
theorem fb12_lt : ∀ b, b < 256 → fb2 (fb1 b) ≤ 68 ∧ fb2 (fb1 b) % 16 ≤ 4 ∧ fb2 (fb1 b) / 16 ≤ 4 := by decide +kernel
theorem fb3_c : ∀ b, b < 69 → ∀ c, c < 5 → (b + b / 16 + 16 * c) < 256 ∧ (b % 16 ≤ 4 → b / 16 ≤ 4 → (b + b / 16 + 16 * c) &&& 0x0f = fb3 b) := by decide +kernel
theorem fb_pc : ∀ b, b < 256 → fb3 (fb2 (fb1 b)) = pcN 8 b ∧ pcN 8 b ≤ 8 := by decide +kernel

theorem mapB_lt {f : Nat → Nat} (hf : ∀ b, b < 256 → f b < 256) : ∀ k x, mapB f k x < 256 ^ k
  | 0, _ => by simp [mapB]
  | k + 1, x => by
    have h1 := hf (x % 256) (Nat.mod_lt _ (by omega))
    have h2 := mapB_lt hf k (x / 256)
    rw [mapB, Nat.pow_succ]; omega

theorem mapB_le {f : Nat → Nat} {c : Nat} (hf : ∀ b, b < 256 → f b ≤ c) : ∀ k x, mapB f k x ≤ repB c k
  | 0, _ => by simp [mapB]
  | k + 1, x => by
    have h1 := hf (x % 256) (Nat.mod_lt _ (by omega))
    have h2 := mapB_le hf k (x / 256)
    rw [mapB, repB]; omega

theorem mapB_mod {f : Nat → Nat} (hf : ∀ b, b < 256 → f b < 256) (k x : Nat) : mapB f (k + 1) x % 256 = f (x % 256) ∧ mapB f (k + 1) x / 256 = mapB f k (x / 256) := by
  have h1 := hf (x % 256) (Nat.mod_lt _ (by omega))
  rw [mapB]; omega

theorem stage1 : ∀ k x, x < 256 ^ k → ((x / 2) &&& repB 0x55 k) + (x &&& repB 0x55 k) = mapB fb1 k x
  | 0, x, h => by simp [repB, mapB]
  | k + 1, x, h => by
    have hx : x = x % 256 + 256 * (x / 256) := by omega
    have hlt : x / 256 < 256 ^ k := by rw [Nat.pow_succ] at h; omega
    have ih := stage1 k (x / 256) hlt
    have hb : x % 256 < 256 := Nat.mod_lt _ (by omega)
    generalize hlo : x % 256 = lo at hx hb
    generalize hhi : x / 256 = hi at hx ih hlt
    have e1 : x / 2 = (lo / 2 + 128 * (hi % 2)) + 256 * (hi / 2) := by omega
    rw [repB, e1, land_bytes (by omega) (by omega), hx, land_bytes hb (by omega), ← hx, mapB, hlo, hhi, ← ih]
    have hc : (lo / 2 + 128 * (hi % 2)) &&& 0x55 = (lo / 2) &&& 0x55 := by
      rcases Nat.mod_two_eq_zero_or_one hi with h0 | h0
      · rw [h0]; simp
      · rw [h0]; exact (fb1_lt lo hb).2.2
    rw [hc]; unfold fb1; omega

theorem stage2 : ∀ k x, x < 256 ^ k → ((x / 4) &&& repB 0x33 k) + (x &&& repB 0x33 k) = mapB fb2 k x
  | 0, x, h => by simp [repB, mapB]
  | k + 1, x, h => by
    have hx : x = x % 256 + 256 * (x / 256) := by omega
    have hlt : x / 256 < 256 ^ k := by rw [Nat.pow_succ] at h; omega
    have ih := stage2 k (x / 256) hlt
    have hb : x % 256 < 256 := Nat.mod_lt _ (by omega)
    generalize hlo : x % 256 = lo at hx hb
    generalize hhi : x / 256 = hi at hx ih hlt
    have e1 : x / 4 = (lo / 4 + 64 * (hi % 4)) + 256 * (hi / 4) := by omega
    rw [repB, e1, land_bytes (by omega) (by omega), hx, land_bytes hb (by omega), ← hx, mapB, hlo, hhi, ← ih, (fb2_lt lo hb).2 (hi % 4) (Nat.mod_lt _ (by omega))]
    unfold fb2; omega

theorem mapB_comp {f g : Nat → Nat} (hg : ∀ b, b < 256 → g b < 256) : ∀ k x, mapB f k (mapB g k x) = mapB (fun b => f (g b)) k x
  | 0, _ => rfl
  | k + 1, x => by
    obtain ⟨h1, h2⟩ := mapB_mod hg k x
    rw [mapB, h1, h2, mapB_comp hg k, mapB]

theorem stage3 : ∀ k x, ((mapB (fun b => fb2 (fb1 b)) k x / 16 + mapB (fun b => fb2 (fb1 b)) k x) &&& repB 0x0f k) = mapB (fun b => fb3 (fb2 (fb1 b))) k x
  | 0, x => by simp [repB, mapB]
  | k + 1, x => by
    have hb : x % 256 < 256 := Nat.mod_lt _ (by omega)
    obtain ⟨q1, q2, q3⟩ := fb12_lt _ hb
    have ih := stage3 k (x / 256)
    have hc : mapB (fun b => fb2 (fb1 b)) k (x / 256) % 16 < 5 := by
      cases k with
      | zero => simp [mapB]
      | succ k =>
        have hb2 : x / 256 % 256 < 256 := Nat.mod_lt _ (by omega)
        have := (fb12_lt _ hb2).2.1
        rw [mapB]; omega
    rw [mapB, mapB, repB]
    generalize hhi : mapB (fun b => fb2 (fb1 b)) k (x / 256) = hi at ih hc
    try dsimp only at q1 q2 q3 ⊢
    generalize hlo : fb2 (fb1 (x % 256)) = lo at q1 q2 q3
    have e1 : (lo + 256 * hi) / 16 + (lo + 256 * hi) = (lo + lo / 16 + 16 * (hi % 16)) + 256 * (hi / 16 + hi) := by omega
    obtain ⟨r1, r2⟩ := fb3_c lo (by omega) (hi % 16) hc
    rw [e1, land_bytes r1 (by omega), r2 q2 q3, ih]

theorem bytes_pc (x : Nat) : pc x = pcN 8 (x % 256) + pcN 8 (x / 256 % 256) + pcN 8 (x / 256 / 256 % 256) + pcN 8 (x / 256 / 256 / 256 % 256) + pcN 8 (x / 256 / 256 / 256 / 256 % 256) +
    pcN 8 (x / 256 / 256 / 256 / 256 / 256 % 256) + pcN 8 (x / 256 / 256 / 256 / 256 / 256 / 256 % 256) + pcN 8 (x / 256 / 256 / 256 / 256 / 256 / 256 / 256 % 256) := by
  have h8 : ∀ y, pcN 8 (y % 256) = pcN 8 y := fun y => pcN_mod 8 y
  have s : ∀ n y, pcN (8 + n) y = pcN 8 y + pcN n (y / 256) := fun n y => pcN_add 8 n y
  simp only [h8]
  unfold pc
  rw [show 64 = 8 + 56 from rfl, s, show 56 = 8 + 48 from rfl, s, show 48 = 8 + 40 from rfl, s, show 40 = 8 + 32 from rfl, s, show 32 = 8 + 24 from rfl, s, show 24 = 8 + 16 from rfl, s, show 16 = 8 + 8 from rfl, s]
  omega

theorem dm {a b k : Nat} (hk : 0 < k) (h : a < k) : (a + k * b) / k = b := by
  rw [Nat.add_mul_div_left _ _ hk, Nat.div_eq_of_lt h, Nat.zero_add]
theorem s8a (p0 p1 p2 r3 : Nat) : p0 + 256 * (p1 + 256 * (p2 + 256 * r3)) + (p1 + 256 * (p2 + 256 * r3)) = (p0 + p1 + 256 * (p1 + p2)) + 65536 * (p2 + 256 * r3 + r3) := by omega
theorem s8b (p2 p3 p4 r5 : Nat) : p2 + 256 * (p3 + 256 * (p4 + 256 * r5)) + (p3 + 256 * (p4 + 256 * r5)) = (p2 + p3 + 256 * (p3 + p4)) + 65536 * (p4 + 256 * r5 + r5) := by omega
theorem s8c (a b c d Q : Nat) : a + 65536 * (b + 65536 * Q) + (b + 65536 * Q) = (a + b + 65536 * b) + 65536 * Q + 4294967296 * Q := by omega
theorem s8d (X c Q : Nat) : X + 65536 * (c + 65536 * Q) + 4294967296 * (c + 65536 * Q) = (X + 65536 * c) + 4294967296 * (Q + (c + 65536 * Q)) := by omega
theorem v_le (p0 p1 p2 p3 p4 p5 p6 p7 : Nat) (h0 : p0 ≤ 8) (h1 : p1 ≤ 8) (h2 : p2 ≤ 8) (h3 : p3 ≤ 8) (h4 : p4 ≤ 8) (h5 : p5 ≤ 8) (h6 : p6 ≤ 8) (h7 : p7 ≤ 8) :
    p0 + 256 * (p1 + 256 * (p2 + 256 * (p3 + 256 * (p4 + 256 * (p5 + 256 * (p6 + 256 * p7)))))) ≤ 578721382704613384 := by
  have a7 : p6 + 256 * p7 ≤ 2056 := by omega
  generalize p6 + 256 * p7 = r at *
  have a6 : p5 + 256 * r ≤ 526344 := by omega
  generalize p5 + 256 * r = r at *
  have a5 : p4 + 256 * r ≤ 134744072 := by omega
  generalize p4 + 256 * r = r at *
  have a4 : p3 + 256 * r ≤ 34494482440 := by omega
  generalize p3 + 256 * r = r at *
  have a3 : p2 + 256 * r ≤ 8830587504648 := by omega
  generalize p2 + 256 * r = r at *
  have a2 : p1 + 256 * r ≤ 2260630401189896 := by omega
  generalize p1 + 256 * r = r at *
  omega

theorem lowA {a b c : Nat} (h0 : a ≤ 8) (h1 : b ≤ 8) (h2 : c ≤ 8) : a + b + 256 * (b + c) < 65536 := by omega
theorem lowB {p0 p1 p2 p3 p4 p5 p6 : Nat} (h0 : p0 ≤ 8) (h1 : p1 ≤ 8) (h2 : p2 ≤ 8) (h3 : p3 ≤ 8) (h4 : p4 ≤ 8) (h5 : p5 ≤ 8) (h6 : p6 ≤ 8) :
    (p0 + p1 + 256 * (p1 + p2)) + (p2 + p3 + 256 * (p3 + p4)) + 65536 * (p2 + p3 + 256 * (p3 + p4)) + 65536 * (p4 + p5 + 256 * (p5 + p6)) < 4294967296 := by omega
theorem s8e (p0 p1 p2 p3 p4 p5 p6 p7 W : Nat) (hW : W = (p6 + 256 * p7 + p7) + ((p4 + p5 + 256 * (p5 + p6)) + 65536 * (p6 + 256 * p7 + p7))) :
    ((p0 + p1 + 256 * (p1 + p2)) + (p2 + p3 + 256 * (p3 + p4)) + 65536 * (p2 + p3 + 256 * (p3 + p4)) + 65536 * (p4 + p5 + 256 * (p5 + p6))) + 4294967296 * W + W =
    (p0 + p1 + p2 + p3 + p4 + p5 + p6 + p7) + 128 * (2 * ((p1 + p2) + (p3 + p4) + 256 * (p2 + p3 + 256 * (p3 + p4)) + 256 * (p4 + p5 + 256 * (p5 + p6)) + 16777216 * W + (p7 + (p5 + p6) + 256 * (p6 + 256 * p7 + p7)))) := by
  omega
theorem sum_le {p0 p1 p2 p3 p4 p5 p6 p7 : Nat} (h0 : p0 ≤ 8) (h1 : p1 ≤ 8) (h2 : p2 ≤ 8) (h3 : p3 ≤ 8) (h4 : p4 ≤ 8) (h5 : p5 ≤ 8) (h6 : p6 ≤ 8) (h7 : p7 ≤ 8) : p0 + p1 + p2 + p3 + p4 + p5 + p6 + p7 < 128 := by omega

theorem sum8 (p0 p1 p2 p3 p4 p5 p6 p7 : Nat) (h0 : p0 ≤ 8) (h1 : p1 ≤ 8) (h2 : p2 ≤ 8) (h3 : p3 ≤ 8) (h4 : p4 ≤ 8) (h5 : p5 ≤ 8) (h6 : p6 ≤ 8) (h7 : p7 ≤ 8) (v u t : Nat)
    (hv : v = p0 + 256 * (p1 + 256 * (p2 + 256 * (p3 + 256 * (p4 + 256 * (p5 + 256 * (p6 + 256 * p7))))))) (hu : u = v + v / 256) (ht : t = u + u / 65536) :
    v < 2 ^ 63 ∧ u < 2 ^ 63 ∧ t < 2 ^ 63 ∧ t + t / 4294967296 < 2 ^ 63 ∧ (t + t / 4294967296) % 128 = p0 + p1 + p2 + p3 + p4 + p5 + p6 + p7 := by
  have bv := v_le p0 p1 p2 p3 p4 p5 p6 p7 h0 h1 h2 h3 h4 h5 h6 h7
  rw [← hv] at bv
  have d1 : v / 256 ≤ v := Nat.div_le_self _ _
  have d2 : u / 65536 ≤ u := Nat.div_le_self _ _
  have d3 : t / 4294967296 ≤ t := Nat.div_le_self _ _
  have fin : (t + t / 4294967296) % 128 = p0 + p1 + p2 + p3 + p4 + p5 + p6 + p7 := by
    clear bv d1 d2 d3
    have e1 : v / 256 = p1 + 256 * (p2 + 256 * (p3 + 256 * (p4 + 256 * (p5 + 256 * (p6 + 256 * p7))))) := by rw [hv]; exact dm (by decide) (Nat.lt_of_le_of_lt h0 (by decide))
    have e2 : u = (p0 + p1 + 256 * (p1 + p2)) + 65536 * (p2 + 256 * (p3 + 256 * (p4 + 256 * (p5 + 256 * (p6 + 256 * p7)))) + (p3 + 256 * (p4 + 256 * (p5 + 256 * (p6 + 256 * p7))))) := by
      rw [hu, e1, hv]; exact s8a _ _ _ _
    have e3 : u / 65536 = p2 + 256 * (p3 + 256 * (p4 + 256 * (p5 + 256 * (p6 + 256 * p7)))) + (p3 + 256 * (p4 + 256 * (p5 + 256 * (p6 + 256 * p7)))) := by rw [e2]; exact dm (by decide) (lowA h0 h1 h2)
    have e4 : t = ((p0 + p1 + 256 * (p1 + p2)) + (p2 + p3 + 256 * (p3 + p4)) + 65536 * (p2 + p3 + 256 * (p3 + p4)) + 65536 * (p4 + p5 + 256 * (p5 + p6))) + 4294967296 * ((p6 + 256 * p7 + p7) + ((p4 + p5 + 256 * (p5 + p6)) + 65536 * (p6 + 256 * p7 + p7))) := by
      rw [ht, e3, e2, s8b p2 p3 p4, s8b p4 p5 p6, s8c _ _ 0 0, s8d]
    have e5 : t / 4294967296 = (p6 + 256 * p7 + p7) + ((p4 + p5 + 256 * (p5 + p6)) + 65536 * (p6 + 256 * p7 + p7)) := by
      rw [e4]
      exact dm (by decide) (lowB h0 h1 h2 h3 h4 h5 h6)
    rw [e5, e4, s8e _ _ _ _ _ _ _ _ _ rfl, Nat.add_mul_mod_self_left, Nat.mod_eq_of_lt (sum_le h0 h1 h2 h3 h4 h5 h6 h7)]
  clear hv h0 h1 h2 h3 h4 h5 h6 h7
  refine ⟨?_, ?_, ?_, ?_, fin⟩ <;> clear fin <;> omega

variable {E : Env}

theorem sh_by {k m : Nat} (hk : k ≤ 64) (hm : 2 ^ k = m) (y : Nat) : E.glob.shr .u64 (y : Int) (k : Int) = ((y / m : Nat) : Int) := by
  rw [g_shr hk, Nat.shiftRight_eq_div_pow, hm]

theorem OnesCount_R (hE : bits_OnesCount64_In E) {x : Nat} (hx : x < 2 ^ 64) (h : AHeap) : R E 57 [.c (.int .u64 x)] h = some ([.c (.int .i64 (pc x))], h) := by
  refine R_intro hE.fn ?_
  rw [bits_OnesCount64_eq]
  have m0 : (6148914691236517205 : Int) = ((repB 0x55 8 : Nat) : Int) := by decide
  have m1 : (3689348814741910323 : Int) = ((repB 0x33 8 : Nat) : Int) := by decide
  have m2 : (1085102592571150095 : Int) = ((repB 0x0f 8 : Nat) : Int) := by decide
  have l0 : repB 0x55 8 < 2 ^ 64 := by decide
  have l1 : repB 0x33 8 < 2 ^ 64 := by decide
  have l2 : repB 0x0f 8 < 2 ^ 64 := by decide
  have s1 := stage1 8 x hx
  have f1 := mapB_lt (fun b hb => (fb1_lt b hb).1) 8 x
  have s2 := stage2 8 (mapB fb1 8 x) f1
  have s3 := stage3 8 x
  have cm := mapB_comp (f := fb2) (fun b hb => (fb1_lt b hb).1) 8 x
  rw [cm] at s2
  have f2 : mapB (fun b => fb2 (fb1 b)) 8 x < 256 ^ 8 := mapB_lt (fun b hb => (fb2_lt _ (fb1_lt b hb).1).1) 8 x
  have sh1 : E.glob.shr .u64 (x : Int) 1 = ((x / 2 : Nat) : Int) := sh_by (k := 1) (by omega) (by decide) _
  simp only [m0, m1, m2]
  rw [sh1, g_band (x := x / 2) (by omega) l0, g_band hx l0, ← Int.natCast_add, s1, g_wrap_u64n f1]
  have sh2 : E.glob.shr .u64 ((mapB fb1 8 x : Nat) : Int) 2 = ((mapB fb1 8 x / 4 : Nat) : Int) := sh_by (k := 2) (by omega) (by decide) _
  rw [sh2, g_band (x := mapB fb1 8 x / 4) (by omega) l1, g_band f1 l1, ← Int.natCast_add, s2, g_wrap_u64n f2]
  have sh3 : E.glob.shr .u64 ((mapB (fun b => fb2 (fb1 b)) 8 x : Nat) : Int) 4 = ((mapB (fun b => fb2 (fb1 b)) 8 x / 16 : Nat) : Int) := sh_by (k := 4) (by omega) (by decide) _
  have top : mapB (fun b => fb2 (fb1 b)) 8 x / 16 + mapB (fun b => fb2 (fb1 b)) 8 x < 2 ^ 64 := by
    have h1 := mapB_le (f := fun b => fb2 (fb1 b)) (c := 68) (fun b hb => (fb12_lt b hb).1) 8 x
    rw [show repB 68 8 = 4919131752989213764 by decide] at h1
    omega
  rw [sh3, ← Int.natCast_add, g_wrap_u64n top, g_band top l2, s3]
  -- the eight counts
  have hp : ∀ y, fb3 (fb2 (fb1 (y % 256))) = pcN 8 (y % 256) ∧ pcN 8 (y % 256) ≤ 8 := fun y => fb_pc _ (Nat.mod_lt _ (by omega))
  have v5 : mapB (fun b => fb3 (fb2 (fb1 b))) 8 x = pcN 8 (x % 256) + 256 * (pcN 8 (x / 256 % 256) + 256 * (pcN 8 (x / 256 / 256 % 256) + 256 * (pcN 8 (x / 256 / 256 / 256 % 256) + 256 * (pcN 8 (x / 256 / 256 / 256 / 256 % 256) +
      256 * (pcN 8 (x / 256 / 256 / 256 / 256 / 256 % 256) + 256 * (pcN 8 (x / 256 / 256 / 256 / 256 / 256 / 256 % 256) + 256 * pcN 8 (x / 256 / 256 / 256 / 256 / 256 / 256 / 256 % 256))))))) := by
    simp only [mapB, (hp _).1, Nat.mul_zero, Nat.add_zero]
  rw [v5, bytes_pc]
  have h0 := (hp x).2
  have h1 := (hp (x / 256)).2
  have h2 := (hp (x / 256 / 256)).2
  have h3 := (hp (x / 256 / 256 / 256)).2
  have h4 := (hp (x / 256 / 256 / 256 / 256)).2
  have h5 := (hp (x / 256 / 256 / 256 / 256 / 256)).2
  have h6 := (hp (x / 256 / 256 / 256 / 256 / 256 / 256)).2
  have h7 := (hp (x / 256 / 256 / 256 / 256 / 256 / 256 / 256)).2
  generalize pcN 8 (x % 256) = p0 at *
  generalize pcN 8 (x / 256 % 256) = p1 at *
  generalize pcN 8 (x / 256 / 256 % 256) = p2 at *
  generalize pcN 8 (x / 256 / 256 / 256 % 256) = p3 at *
  generalize pcN 8 (x / 256 / 256 / 256 / 256 % 256) = p4 at *
  generalize pcN 8 (x / 256 / 256 / 256 / 256 / 256 % 256) = p5 at *
  generalize pcN 8 (x / 256 / 256 / 256 / 256 / 256 / 256 % 256) = p6 at *
  generalize pcN 8 (x / 256 / 256 / 256 / 256 / 256 / 256 / 256 % 256) = p7 at *
  clear s1 s2 s3 f1 f2 cm sh1 sh2 sh3 top v5 hp m0 m1 m2 l0 l1 l2 hx
  generalize hv : p0 + 256 * (p1 + 256 * (p2 + 256 * (p3 + 256 * (p4 + 256 * (p5 + 256 * (p6 + 256 * p7)))))) = v
  obtain ⟨c1, c2, c3, c4, c5⟩ := sum8 p0 p1 p2 p3 p4 p5 p6 p7 h0 h1 h2 h3 h4 h5 h6 h7 v _ _ hv.symm rfl rfl
  have sh8 : E.glob.shr .u64 (v : Int) 8 = ((v / 256 : Nat) : Int) := sh_by (k := 8) (by omega) (by decide) _
  have w1 : v + v / 256 < 2 ^ 64 := Nat.lt_trans c2 (by decide)
  rw [sh8, ← Int.natCast_add, g_wrap_u64n w1]
  generalize hu : v + v / 256 = u at *
  have sh16 : E.glob.shr .u64 (u : Int) 16 = ((u / 65536 : Nat) : Int) := sh_by (k := 16) (by omega) (by decide) _
  have w2 : u + u / 65536 < 2 ^ 64 := Nat.lt_trans c3 (by decide)
  rw [sh16, ← Int.natCast_add, g_wrap_u64n w2]
  generalize ht : u + u / 65536 = t at *
  have sh32 : E.glob.shr .u64 (t : Int) 32 = ((t / 4294967296 : Nat) : Int) := sh_by (k := 32) (by omega) (by decide) _
  have w3 : t + t / 4294967296 < 2 ^ 64 := Nat.lt_trans c4 (by decide)
  rw [sh32, ← Int.natCast_add, g_wrap_u64n w3]
  generalize hq : t + t / 4294967296 = q at *
  have w4 : E.glob.wrap .i64 (q : Int) = q := g_wrap_i64 (by omega) (by omega)
  rw [w4, g_band127, ← c5]
  rfl

end Jq

/- The lowest bit: what math/bits comes to. -/
namespace Jq
open Go

variable {E : Env}

theorem mul_wrap (y : Nat) : E.glob.wrap .u64 ((y : Int) * 285870213051353865) = ((y * 285870213051353865 % 18446744073709551616 : Nat) : Int) := by
  show IntKind.wrap .u64 _ = _
  simp only [IntKind.wrap, IntKind.signed, IntKind.bits, Bool.false_and, Bool.false_eq_true, if_false]; omega

theorem neg_wrap {x : Nat} (hx : x < 2 ^ 64) (h0 : x ≠ 0) : E.glob.wrap .u64 (0 - (x : Int)) = ((2 ^ 64 - x : Nat) : Int) := by
  show IntKind.wrap .u64 _ = _
  simp only [IntKind.wrap, IntKind.signed, IntKind.bits, Bool.false_and, Bool.false_eq_true, if_false]; omega

theorem shr58 (y : Nat) : E.glob.shr .u64 (y : Int) 58 = ((y / 288230376151711744 : Nat) : Int) := sh_by (k := 58) (by omega) (by decide) y

theorem getD_some {L : List Nat} {n i k : Nat} (hn : L.length = n) (hi : i < n) (hd : L.getD i 0 = k) : L[i]? = some k := by
  rw [List.getD_eq_getElem?_getD] at hd
  cases h : L[i]? with
  | none => rw [List.getElem?_eq_none_iff] at h; omega
  | some x => rw [h] at hd; exact congrArg some hd

theorem deB_len : Go.Lib.deBruijn64tab.length = 64 := by decide

/-- The lowest of them. -/
theorem TrailingZeros_R (hE : bits_TrailingZeros64_In E) (htab : ∀ k, k < 64 → (E.tab 1)[k]? = (Go.Lib.deBruijn64tab[k]?).map fun (n : Nat) => Cell.int .u8 (n : Int)) {x : Nat} (hx : x < 2 ^ 64) (h0 : x ≠ 0) (h : AHeap) :
    R E 42 [.c (.int .u64 x)] h = some ([.c (.int .i64 (Go.Lib.ctz 64 x))], h) := by
  refine R_intro hE.fn ?_
  have hne : ((x : Int) == 0) = false := by rw [beq_eq_false_iff_ne]; omega
  obtain ⟨q1, q2⟩ := Go.Lib.lowest_bit 64 x h0 hx
  rw [bits_TrailingZeros64_eq, hne, neg_wrap hx h0, g_band hx (by omega), q1, mul_wrap]
  dsimp only
  rw [shr58]
  simp only [Bool.false_eq_true, if_false]
  obtain ⟨d1, d2⟩ := Go.Lib.deBruijn64_at (Go.Lib.ctz 64 x) q2
  generalize Go.Lib.ctz 64 x = k at *
  generalize 2 ^ k * 285870213051353865 % 18446744073709551616 / 288230376151711744 = i at *
  have hc : (E.glob.tab 1)[0 + (i : Int).toNat * 1]? = some (.int .u8 (k : Int)) := by
    rw [Int.toNat_natCast, Nat.mul_one, Nat.zero_add]
    show (E.tab 1)[i]? = _
    rw [htab i d1, getD_some deB_len d1 d2]
    rfl
  have hi : 0 ≤ (i : Int) ∧ (i : Int) < ((64 : Nat) : Int) := ⟨Int.natCast_nonneg _, by exact_mod_cast d1⟩
  rw [if_pos hi, atK_ok hc, asI_ok, g_wrap_i64 (by omega) (by omega)]

end Jq

/- The numbers of a word, in order. -/
namespace Jq
open Go

/-- A word's numbers, rising. -/
def bitsL (s : Nat) : List Nat := (List.range 64).filter fun i => s.testBit i

theorem mem_bitsL {s i : Nat} : i ∈ bitsL s ↔ i < 64 ∧ s.testBit i = true := by simp [bitsL]

theorem pcN_filter (x : Nat) : ∀ k, pcN k x = ((List.range k).filter fun i => x.testBit i).length
  | 0 => rfl
  | k + 1 => by
    rw [pcN_add k 1, pcN_filter x k, List.range_succ, List.filter_append, List.length_append]
    congr 1
    rw [List.filter_cons, Nat.testBit_eq_decide_div_mod_eq]
    have := Nat.mod_two_eq_zero_or_one (x / 2 ^ k)
    by_cases hb : x / 2 ^ k % 2 = 1
    · simp [hb, pcN]
    · have h0 : x / 2 ^ k % 2 = 0 := by omega
      simp [h0, pcN]

theorem pc_bitsL (s : Nat) : pc s = (bitsL s).length := pcN_filter s 64

theorem low_form {s : Nat} (hs : s < 2 ^ 64) (h0 : s ≠ 0) : ∃ m, s = 2 ^ (Lib.ctz 64 s + 1) * m + 2 ^ Lib.ctz 64 s ∧ Lib.ctz 64 s < 64 := by
  have : Lib.ctz 64 s = Lib.ctzFrom 64 s := by unfold Lib.ctz; rw [if_neg h0]
  rw [this]
  obtain ⟨m, h1, h2⟩ := Lib.ctzFrom_spec 64 s (by omega) hs
  refine ⟨m, ?_, h2⟩
  conv => lhs; rw [h1]
  rw [Nat.mul_add, Nat.mul_one, ← Nat.mul_assoc, Nat.pow_succ]

theorem low_bit {s : Nat} (hs : s < 2 ^ 64) (h0 : s ≠ 0) : s.testBit (Lib.ctz 64 s) = true ∧ (∀ j, j < Lib.ctz 64 s → s.testBit j = false) ∧ ∀ j, (s &&& (s - 1)).testBit j = (s.testBit j && decide (j ≠ Lib.ctz 64 s)) := by
  obtain ⟨m, h1, h2⟩ := low_form hs h0
  generalize Lib.ctz 64 s = k at h1 h2
  have hp : 0 < 2 ^ k := Nat.two_pow_pos k
  have hlt : 2 ^ k < 2 ^ (k + 1) := by rw [Nat.pow_succ]; omega
  have t1 : ∀ j, s.testBit j = if j < k + 1 then decide (j = k) else m.testBit (j - (k + 1)) := by
    intro j
    rw [h1, Nat.testBit_two_pow_mul_add _ hlt]
    split
    · rw [Nat.testBit_two_pow, Bool.eq_iff_iff]; simp; exact eq_comm
    · rfl
  have t2 : ∀ j, (s - 1).testBit j = if j < k + 1 then decide (j < k) else m.testBit (j - (k + 1)) := by
    intro j
    have : s - 1 = 2 ^ (k + 1) * m + (2 ^ k - 1) := by omega
    rw [this, Nat.testBit_two_pow_mul_add _ (by omega)]
    split
    · rw [Nat.testBit_two_pow_sub_one]
    · rfl
  refine ⟨by rw [t1, if_pos (by omega)]; simp, fun j hj => by rw [t1, if_pos (by omega)]; simp; omega, fun j => ?_⟩
  rw [Nat.testBit_and, t1, t2]
  split
  · rw [Bool.eq_iff_iff]; simp; omega
  · rename_i hj
    have : decide (j ≠ k) = true := by simp; omega
    rw [this, Bool.and_self, Bool.and_true]

theorem bitsL_cons {s : Nat} (hs : s < 2 ^ 64) (h0 : s ≠ 0) : bitsL s = Lib.ctz 64 s :: bitsL (s &&& (s - 1)) := by
  obtain ⟨b1, b2, b3⟩ := low_bit hs h0
  obtain ⟨_, _, hk⟩ := low_form hs h0
  generalize Lib.ctz 64 s = k at b1 b2 b3 hk
  unfold bitsL
  have hr : List.range 64 = List.range k ++ k :: List.range' (k + 1) (64 - (k + 1)) := by
    rw [List.range_eq_range', List.range_eq_range']
    have : (64 : Nat) = k + (1 + (64 - (k + 1))) := by omega
    conv => lhs; rw [this]
    rw [List.range'_append_1.symm, Nat.zero_add, Nat.add_comm 1, List.range'_succ]
  rw [hr, List.filter_append, List.filter_append, List.filter_cons, List.filter_cons, if_pos b1, b3 k]
  have e1 : (List.range k).filter (fun i => s.testBit i) = [] := List.filter_eq_nil_iff.2 fun x hx => by rw [b2 x (by simpa using hx)]; simp
  have e2 : (List.range k).filter (fun i => (s &&& (s - 1)).testBit i) = [] := List.filter_eq_nil_iff.2 fun x hx => by rw [b3, b2 x (by simpa using hx)]; simp
  rw [e1, e2, List.nil_append, List.nil_append, if_neg (by simp)]
  congr 1
  refine List.filter_congr fun x hx => ?_
  rw [List.mem_range'_1] at hx
  rw [b3]
  have : decide (x ≠ k) = true := by simp; omega
  rw [this, Bool.and_true]

theorem and_pred_lt {s : Nat} (h0 : s ≠ 0) : s &&& (s - 1) < s := Nat.lt_of_le_of_lt Nat.and_le_right (by omega)

theorem bitsL_zero : bitsL 0 = [] := by decide

theorem bitsL_nil {s : Nat} (hs : s < 2 ^ 64) : bitsL s = [] ↔ s = 0 := by
  constructor
  · intro h
    by_cases h0 : s = 0
    · exact h0
    · rw [bitsL_cons hs h0] at h; cases h
  · rintro rfl; exact bitsL_zero

/-- The first number; none: less than nought. -/
def firstI (s : Nat) : Int := if s = 0 then -1 else Lib.ctz 64 s

/-- What math/bits reads. -/
def TabOk (E : Env) : Prop := ∀ k, k < 64 → (E.tab 1)[k]? = (Lib.deBruijn64tab[k]?).map fun (n : Nat) => Cell.int .u8 (n : Int)

variable {E : Env}

theorem Len_R (hE : set_Set_Len_In E) {s : Nat} (hs : s < 2 ^ 64) (h : AHeap) : R E 56 [.c (.int .u64 s)] h = some ([.c (.int .i64 (pc s))], h) := by
  refine R_intro hE.fn ?_
  rw [set_Set_Len_eq, OnesCount_R hE.c57 hs, c1_ok, asI_ok]

theorem First_R (hE : set_Set_First_In E) (ht : TabOk E) {s : Nat} (hs : s < 2 ^ 64) (h : AHeap) : R E 38 [.c (.int .u64 s)] h = some ([.c (.int .i64 (firstI s))], h) := by
  refine R_intro hE.fn ?_
  rw [set_Set_First_eq]
  unfold firstI
  by_cases h0 : s = 0
  · subst h0; simp
  · have hne : ((s : Int) == 0) = false := by rw [beq_eq_false_iff_ne]; omega
    rw [hne, if_neg h0]
    simp only [Bool.false_eq_true, if_false]
    rw [TrailingZeros_R hE.c42 ht hs h0, c1_ok, asI_ok]

/-- A row of natural numbers, as cells. -/
def natC (l : List Nat) : List Cell := intC .i64 (l.map fun (n : Nat) => (n : Int))

theorem natC_len (l : List Nat) : (natC l).length = l.length := by simp [natC, intC]
theorem natC_snoc (l : List Nat) (n : Nat) : natC (l ++ [n]) = natC l ++ [.int .i64 n] := by simp [natC, intC]
theorem natC_get {l : List Nat} {i n : Nat} (h : l[i]? = some n) : (natC l)[i]? = some (.int .i64 n) := by simp [natC, intC, h]

theorem List_R (hE : set_Set_List_In E) (ht : TabOk E) {s : Nat} (hs : s < 2 ^ 64) (h : AHeap) :
    ∃ x h', R E 32 [.c (.int .u64 s)] h = some ([.c x], h') ∧ Own h.length h' x 1 (natC (bitsL s)) (bitsL s).length ∧ Kp h.length h h' := by
  suffices hs' : ∃ x h', set_Set_List.body (R E) Lim E.glob [.c (.int .u64 s)] h = some ([.c x], h') ∧ Own h.length h' x 1 (natC (bitsL s)) (bitsL s).length ∧ Kp h.length h h' by
    obtain ⟨x, h', hh, hr⟩ := hs'; exact ⟨x, h', R_intro hE.fn hh, hr⟩
  obtain ⟨p, hp, x, h', rfl, ho, hk⟩ := Lim_fall (F := set_Set_List_F1 (R E) Lim E.glob) (fun st => match st.t with | .v (.c (.int _ n)) :: _ => n.toNat | _ => 0)
    (fun st => ∃ (a : Nat) (x : Cell) (h' : AHeap) (done : List Nat), st = set_Set_List_s1 a x h' ∧ a < 2 ^ 64 ∧ done ++ bitsL a = bitsL s ∧ Own h.length h' x 1 (natC done) done.length ∧ Kp h.length h h')
    (fun p => ∃ x h', p = (.exit 0, set_Set_List_x1_1 x h') ∧ Own h.length h' x 1 (natC (bitsL s)) (bitsL s).length ∧ Kp h.length h h')
    (fun st hI => by
      obtain ⟨a, x, h', done, rfl, ha, hd, ho, hk⟩ := hI
      by_cases h0 : a = 0
      · right
        subst h0
        refine ⟨_, by rw [set_Set_List_r1]; rfl, by simp, x, h', rfl, ?_, hk⟩
        rw [bitsL_zero, List.append_nil] at hd
        rw [← hd]; exact ho
      · left
        have hne : ((a : Int) != 0) = true := by rw [bne_iff_ne]; omega
        have hlen : done.length < 64 := by
          have h1 : (bitsL s).length ≤ 64 := by unfold bitsL; exact Nat.le_trans (List.length_filter_le _ _) (by simp)
          rw [← hd, bitsL_cons ha h0] at h1
          simp at h1; omega
        obtain ⟨x', h2, hap, ho', hk', _⟩ := ho.app (xs := [.int .i64 (Lib.ctz 64 a : Nat)]) (bytes := 8) hk.1 rfl (by omega) (by unfold maxBytes; omega) (by unfold maxBytes; omega)
        refine ⟨set_Set_List_s1 ((a &&& (a - 1) : Nat) : Int) x' h2, ?_, ⟨a &&& (a - 1), x', h2, done ++ [Lib.ctz 64 a], rfl, and_lt ha, ?_, ?_, hk.trans hk'⟩, ?_⟩
        · rw [set_Set_List_r1, if_pos hne, First_R hE.c38 ht ha, c1_ok, asI_ok]
          unfold firstI
          rw [if_neg h0, show splice [Cell.int .i64 0] 0 [Cell.int .i64 ((Lib.ctz 64 a : Nat) : Int)] = [.int .i64 ((Lib.ctz 64 a : Nat) : Int)] from rfl, if_pos (show (List.length [_] : Nat) = 1 * 1 from rfl), hap]
          rw [show E.glob.wrap .u64 ((a : Int) - 1) = ((a - 1 : Nat) : Int) by rw [g_wrap_u64 (by omega) (by omega)]; omega, g_band ha (by omega)]
        · rw [List.append_assoc, List.singleton_append, ← bitsL_cons ha h0, hd]
        · rw [natC_snoc, List.length_append]; exact ho'
        · have := and_pred_lt h0
          show ((a &&& (a - 1) : Nat) : Int).toNat < ((a : Nat) : Int).toNat
          omega)
    (st := set_Set_List_s1 s .nils h) ⟨s, .nils, h, [], rfl, hs, rfl, by exact Own.nil _ _ _, Kp.refl _ _⟩
  refine ⟨x, h', ?_, ho, hk⟩
  rw [set_Set_List_eq, hp, bind_ok, set_Set_List_e1_1]

/-- A word of numbers. -/
def ofL (l : List Int) : Nat := l.foldl (fun s i => s ||| bitI i) 0

theorem ofL_snoc (l : List Int) (i : Int) : ofL (l ++ [i]) = ofL l ||| bitI i := by unfold ofL; rw [List.foldl_append]; rfl

theorem ofL_lt (l : List Int) : ofL l < 2 ^ 64 := by
  have : ∀ (l : List Int) (s : Nat), s < 2 ^ 64 → l.foldl (fun s i => s ||| bitI i) s < 2 ^ 64 := by
    intro l
    induction l with
    | nil => exact fun s h => h
    | cons i l ih => exact fun s h => ih _ (or_lt h (bitI_lt i))
  exact this l 0 (by omega)

theorem ofL_bit (l : List Int) (j : Nat) : (ofL l).testBit j = true ↔ j < 64 ∧ (j : Int) ∈ l := by
  have : ∀ (l : List Int) (s : Nat), (l.foldl (fun s i => s ||| bitI i) s).testBit j = true ↔ s.testBit j = true ∨ (j < 64 ∧ (j : Int) ∈ l) := by
    intro l
    induction l with
    | nil => intro s; simp
    | cons i l ih =>
      intro s
      rw [List.foldl_cons, ih, Nat.testBit_or, Bool.or_eq_true, testBit_bitI]
      simp only [Bool.and_eq_true, decide_eq_true_eq, List.mem_cons]
      constructor
      · rintro ((h | ⟨h1, h2⟩) | ⟨h1, h2⟩)
        · exact .inl h
        · exact .inr ⟨h2, .inl h1.symm⟩
        · exact .inr ⟨h1, .inr h2⟩
      · rintro (h | ⟨h1, h2 | h2⟩)
        · exact .inl (.inl h)
        · exact .inl (.inr ⟨h2.symm, h1⟩)
        · exact .inr ⟨h1, h2⟩
  have h := this l 0
  simpa [ofL] using h

theorem OfS_R (hE : set_Of_In E) {x : Cell} {l : List Int} {h : AHeap} (hx : SlAt h x 1 (intC .i64 l) l.length) (hl : l.length < 9223372036854775807) : R E 65 [.c x] h = some ([.c (.int .u64 (ofL l))], h) := by
  refine R_intro hE.fn ?_
  rw [set_Of_eq, hx.len]
  have loop : Lim (set_Of_F1 (R E) Lim E.glob) (set_Of_s1 ((ofL (l.take 0) : Nat) : Int) x l.length ((0 : Nat) : Int) h) = some (.exit 0, set_Of_x1_1 ((ofL (l.take l.length) : Nat) : Int) h) := by
    refine Lim_count (fun i => set_Of_s1 ((ofL (l.take i) : Nat) : Int) x l.length (i : Int) h) 0 l.length (by omega) (fun i _ hi => ?_) (Lim_exit ?_)
    · obtain ⟨n, hn⟩ : ∃ n, l[i]? = some n := ⟨l[i], by simp⟩
      rw [set_Of_r1, if_pos (by simp; omega), hx.get1 hi (intC_get hn), asI_ok, With_R hE.c18 (ofL_lt _), c1_ok, asI_ok, g_succ (by omega), List.take_add_one, hn]
      rw [show (some n).toList = [n] from rfl, ofL_snoc]
    · rw [set_Of_r1, if_neg (by simp)]
  rw [List.take_length] at loop
  rw [show set_Of_s1 0 x l.length 0 h = set_Of_s1 ((ofL (l.take 0) : Nat) : Int) x l.length ((0 : Nat) : Int) h from rfl, loop, bind_ok, set_Of_e1_1]

theorem Upto_R (hE : set_Upto_In E) (a : Int) (h : AHeap) : R E 61 [.c (.int .i64 a)] h = some ([.c (.int .u64 ((2 ^ (min a.toNat 64) - 1 : Nat) : Int))], h) := by
  refine R_intro hE.fn ?_
  have hv : (if 64 < (if 0 > a then 0 else a) then 64 else (if 0 > a then 0 else a)) = ((min a.toNat 64 : Nat) : Int) := by
    split <;> split <;> omega
  rw [set_Upto_eq]
  simp only [hv]
  generalize hk : min a.toNat 64 = k
  have hk64 : k ≤ 64 := by omega
  by_cases h64 : k = 64
  · subst h64; simp
  · have hne : ((k : Int) == 64) = false := by rw [beq_eq_false_iff_ne]; omega
    have h2 : 2 ^ k < 2 ^ 64 := Nat.pow_lt_pow_right (by omega) (by omega)
    have h3 : 0 < 2 ^ k := Nat.two_pow_pos k
    rw [hne]
    simp only [Bool.false_eq_true, if_false]
    rw [g_wrap_u64n (by omega), if_neg (by omega), g_shl_one (by omega), show (((2 ^ k : Nat) : Int) - 1) = ((2 ^ k - 1 : Nat) : Int) by omega, g_wrap_u64n (by omega)]

/-- The next greater word of as many numbers. -/
def nextN (s : Nat) : Nat :=
  if s = 0 then 0 else
    let up := (s + 2 ^ Lib.ctz 64 s) % 2 ^ 64
    if up = 0 then 0 else up ||| (((s ^^^ up) >>> 2) >>> Lib.ctz 64 s)

theorem Next_R (hE : set_Set_Next_In E) (ht : TabOk E) {s : Nat} (hs : s < 2 ^ 64) (h : AHeap) : R E 60 [.c (.int .u64 s)] h = some ([.c (.int .u64 (nextN s))], h) := by
  refine R_intro hE.fn ?_
  rw [set_Set_Next_eq]
  unfold nextN
  by_cases h0 : s = 0
  · subst h0; simp
  · have hne : ((s : Int) == 0) = false := by rw [beq_eq_false_iff_ne]; omega
    rw [hne, if_neg h0]
    simp only [Bool.false_eq_true, if_false]
    obtain ⟨q1, q2⟩ := Lib.lowest_bit 64 s h0 hs
    have hneg : E.glob.wrap .u64 (0 - (s : Int)) = ((2 ^ 64 - s : Nat) : Int) := neg_wrap hs h0
    have hk2 : 2 ^ Lib.ctz 64 s < 2 ^ 64 := Nat.pow_lt_pow_right (by omega) q2
    have hkp : 0 < 2 ^ Lib.ctz 64 s := Nat.two_pow_pos _
    have hup : E.glob.wrap .u64 ((s : Int) + ((2 ^ Lib.ctz 64 s : Nat) : Int)) = (((s + 2 ^ Lib.ctz 64 s) % 2 ^ 64 : Nat) : Int) := by
      show IntKind.wrap .u64 _ = _
      simp only [IntKind.wrap, IntKind.signed, IntKind.bits, Bool.false_and, Bool.false_eq_true, if_false]; omega
    rw [hneg, g_band hs (by omega), q1, hup]
    generalize hu : (s + 2 ^ Lib.ctz 64 s) % 2 ^ 64 = up
    have hulT : up < 2 ^ 64 := by omega
    by_cases hz : up = 0
    · subst hz; simp
    · have hne2 : ((up : Int) == 0) = false := by rw [beq_eq_false_iff_ne]; omega
      rw [hne2, if_neg hz]
      simp only [Bool.false_eq_true, if_false]
      have hct : Lib.ctz 64 (2 ^ Lib.ctz 64 s) = Lib.ctz 64 s := by
        generalize Lib.ctz 64 s = k at q2
        have : ∀ k, k < 64 → Lib.ctz 64 (2 ^ k) = k := by decide +kernel
        exact this k q2
      have hfi : firstI (2 ^ Lib.ctz 64 s) = ((Lib.ctz 64 s : Nat) : Int) := by
        unfold firstI; rw [if_neg (Nat.ne_of_gt hkp), hct]
      rw [First_R hE.c38 ht hk2, c1_ok, asI_ok, hfi, g_wrap_u64n (Nat.lt_trans q2 (by decide)), if_neg (by omega), g_bxor hs hulT, show (2 : Int) = ((2 : Nat) : Int) from rfl, g_shr (by omega), g_shr (by omega)]
      have hx := xor_lt hs hulT
      have hx2 : ((s ^^^ up) >>> 2) >>> Lib.ctz 64 s < 2 ^ 64 := by
        rw [Nat.shiftRight_eq_div_pow, Nat.shiftRight_eq_div_pow]
        exact Nat.lt_of_le_of_lt (Nat.div_le_self _ _) (Nat.lt_of_le_of_lt (Nat.div_le_self _ _) hx)
      rw [g_bor hulT hx2]

end Jq

/- The seat: where the functions that are reached lie in the given program, and that each is the given one. -/
namespace Go.Proofs.YtkdicbhkkancoaaDoor.LSetTells
open Go Jq

def seatFn : Nat → Nat
  | 17 => 25
  | 18 => 26
  | 19 => 49
  | 32 => 24
  | 38 => 30
  | 42 => 50
  | 56 => 21
  | 57 => 48
  | 60 => 20
  | 61 => 22
  | 62 => 23
  | 63 => 27
  | 65 => 29
  | 236 => 7
  | _ => 0

def envFn : Nat → Option Jq.Fn
  | 17 => some set_Set_Has
  | 18 => some set_Set_With
  | 19 => some set_bit
  | 32 => some set_Set_List
  | 38 => some set_Set_First
  | 42 => some bits_TrailingZeros64
  | 56 => some set_Set_Len
  | 57 => some bits_OnesCount64
  | 60 => some set_Set_Next
  | 61 => some set_Upto
  | 62 => some jacquardlaw7_awake
  | 63 => some set_Set_Without
  | 65 => some set_Of
  | 236 => some jacquardlaw7_SetTells
  | _ => none

def deB : List Int := [0, 1, 56, 2, 57, 49, 28, 3, 61, 58, 42, 50, 38, 29, 17, 4, 62, 47, 59, 36, 45, 43, 51, 22, 53, 39, 33, 30, 24, 18, 12, 5, 63, 55, 48, 27, 60, 41, 37, 16, 46, 35, 44, 21, 52, 32, 23, 11, 54, 26, 40, 15, 34, 20, 31, 10, 25, 14, 19, 9, 13, 8, 7, 6]
def seatTab : Nat → List Cell := fun k => if k = 1 then deB.map (Cell.int .u8) else []
noncomputable def seat : Seat := { P := Tryd.prog, fn := seatFn, gl := fun _ => 0, tab := seatTab }
def env : Env := { fn := envFn, tab := seatTab }

theorem tabOk : TabOk env := by
  have : ∀ k, k < 64 → (seatTab 1)[k]? = (Lib.deBruijn64tab[k]?).map fun (n : Nat) => Cell.int .u8 (n : Int) := by decide +kernel
  exact this

theorem mixed : true = true → seat.P.follows .mixedOrders = true := fun _ => by kernel_rfl

theorem ok_17 : FnOk seat 17 set_Set_Has := ⟨⟨Tryd.f25, _, drK seat true, Tryd.func25, rfl, by kernel_rfl, by kernel_rfl, by kernel_rfl, by kernel_rfl, fun _ _ h => draw_sound mixed h⟩⟩
theorem ok_18 : FnOk seat 18 set_Set_With := ⟨⟨Tryd.f26, _, drK seat true, Tryd.func26, rfl, by kernel_rfl, by kernel_rfl, by kernel_rfl, by kernel_rfl, fun _ _ h => draw_sound mixed h⟩⟩
theorem ok_19 : FnOk seat 19 set_bit := ⟨⟨Tryd.f49, _, drK seat true, Tryd.func49, rfl, by kernel_rfl, by kernel_rfl, by kernel_rfl, by kernel_rfl, fun _ _ h => draw_sound mixed h⟩⟩
theorem ok_32 : FnOk seat 32 set_Set_List := ⟨⟨Tryd.f24, _, drK seat true, Tryd.func24, rfl, by kernel_rfl, by kernel_rfl, by kernel_rfl, by kernel_rfl, fun _ _ h => draw_sound mixed h⟩⟩
theorem ok_38 : FnOk seat 38 set_Set_First := ⟨⟨Tryd.f30, _, drK seat true, Tryd.func30, rfl, by kernel_rfl, by kernel_rfl, by kernel_rfl, by kernel_rfl, fun _ _ h => draw_sound mixed h⟩⟩
theorem ok_42 : FnOk seat 42 bits_TrailingZeros64 := ⟨⟨Tryd.f50, _, drK seat true, Tryd.func50, rfl, by kernel_rfl, by kernel_rfl, by kernel_rfl, by kernel_rfl, fun _ _ h => draw_sound mixed h⟩⟩
theorem ok_56 : FnOk seat 56 set_Set_Len := ⟨⟨Tryd.f21, _, drK seat true, Tryd.func21, rfl, by kernel_rfl, by kernel_rfl, by kernel_rfl, by kernel_rfl, fun _ _ h => draw_sound mixed h⟩⟩
theorem ok_57 : FnOk seat 57 bits_OnesCount64 := ⟨⟨Tryd.f48, _, drK seat true, Tryd.func48, rfl, by kernel_rfl, by kernel_rfl, by kernel_rfl, by kernel_rfl, fun _ _ h => draw_sound mixed h⟩⟩
theorem ok_60 : FnOk seat 60 set_Set_Next := ⟨⟨Tryd.f20, _, drK seat true, Tryd.func20, rfl, by kernel_rfl, by kernel_rfl, by kernel_rfl, by kernel_rfl, fun _ _ h => draw_sound mixed h⟩⟩
theorem ok_61 : FnOk seat 61 set_Upto := ⟨⟨Tryd.f22, _, drK seat true, Tryd.func22, rfl, by kernel_rfl, by kernel_rfl, by kernel_rfl, by kernel_rfl, fun _ _ h => draw_sound mixed h⟩⟩
theorem ok_62 : FnOk seat 62 jacquardlaw7_awake := ⟨⟨Tryd.f23, _, drK seat true, Tryd.func23, rfl, by kernel_rfl, by kernel_rfl, by kernel_rfl, by kernel_rfl, fun _ _ h => draw_sound mixed h⟩⟩
theorem ok_63 : FnOk seat 63 set_Set_Without := ⟨⟨Tryd.f27, _, drK seat true, Tryd.func27, rfl, by kernel_rfl, by kernel_rfl, by kernel_rfl, by kernel_rfl, fun _ _ h => draw_sound mixed h⟩⟩
theorem ok_65 : FnOk seat 65 set_Of := ⟨⟨Tryd.f29, _, drK seat true, Tryd.func29, rfl, by kernel_rfl, by kernel_rfl, by kernel_rfl, by kernel_rfl, fun _ _ h => draw_sound mixed h⟩⟩
theorem ok_236 : FnOk seat 236 jacquardlaw7_SetTells := ⟨⟨Tryd.f7, _, drK seat true, Tryd.func7, rfl, by kernel_rfl, by kernel_rfl, by kernel_rfl, by kernel_rfl, fun _ _ h => draw_sound mixed h⟩⟩

theorem allOk : ∀ g fn, env.fn g = some fn → FnOk seat g fn := by
  intro g fn h
  unfold env envFn at h
  dsimp only at h
  split at h
  · cases h; exact ok_17
  · cases h; exact ok_18
  · cases h; exact ok_19
  · cases h; exact ok_32
  · cases h; exact ok_38
  · cases h; exact ok_42
  · cases h; exact ok_56
  · cases h; exact ok_57
  · cases h; exact ok_60
  · cases h; exact ok_61
  · cases h; exact ok_62
  · cases h; exact ok_63
  · cases h; exact ok_65
  · cases h; exact ok_236
  · cases h

theorem in_19 : set_bit_In env := { fn := rfl }
theorem in_17 : set_Set_Has_In env := { fn := rfl, c19 := in_19 }
theorem in_18 : set_Set_With_In env := { fn := rfl, c19 := in_19 }
theorem in_42 : bits_TrailingZeros64_In env := { fn := rfl }
theorem in_38 : set_Set_First_In env := { fn := rfl, c42 := in_42 }
theorem in_32 : set_Set_List_In env := { fn := rfl, c38 := in_38 }
theorem in_57 : bits_OnesCount64_In env := { fn := rfl }
theorem in_56 : set_Set_Len_In env := { fn := rfl, c57 := in_57 }
theorem in_60 : set_Set_Next_In env := { fn := rfl, c38 := in_38 }
theorem in_61 : set_Upto_In env := { fn := rfl }
theorem in_65 : set_Of_In env := { fn := rfl, c18 := in_18 }
theorem in_62 : jacquardlaw7_awake_In env := { fn := rfl, c32 := in_32, c38 := in_38, c56 := in_56, c60 := in_60, c61 := in_61, c65 := in_65 }
theorem in_63 : set_Set_Without_In env := { fn := rfl, c19 := in_19 }
theorem in_236 : jacquardlaw7_SetTells_In env := { fn := rfl, c17 := in_17, c18 := in_18, c32 := in_32, c38 := in_38, c56 := in_56, c62 := in_62, c63 := in_63, c65 := in_65 }

end Go.Proofs.YtkdicbhkkancoaaDoor.LSetTells

namespace Jq
open Go

/- jacquard/jacquardlaw7.awake: 62 -/
set_option maxRecDepth 100000 in
theorem jacquardlaw7_awake_eq (C : CallF) (L : LoopF) (G : Glo)  (h0 : AHeap) :
    jacquardlaw7_awake.body C L G [] h0 =
    if (splice (splice [Cell.int .i64 0, Cell.int .i64 0] 0 ([(.int .i64 0)] : List Cell)) 1 ([(.int .i64 1)] : List Cell)).length = 2 * 1 then c1 (C 65 [(.c (.sl h0.length ((splice (splice [Cell.int .i64 0, Cell.int .i64 0] 0 ([(.int .i64 0)] : List Cell)) 1 ([(.int .i64 1)] : List Cell)).length) 0 2))] (h0 ++ [some (Blk.mk true 1 (splice (splice [Cell.int .i64 0, Cell.int .i64 0] 0 ([(.int .i64 0)] : List Cell)) 1 ([(.int .i64 1)] : List Cell)))])) fun y_2 h_1 => asI .u64 y_2 fun n_3 => c1 (C 60 [(.c (.int .u64 n_3))] h_1) fun y_5 h_4 => asI .u64 y_5 fun n_6 => c1 (C 32 [(.c (.int .u64 n_6))] h_4) fun y_8 h_7 => asC y_8 fun x_9 => scK (n_3 == 3) true (c1 (C 56 [(.c (.int .u64 n_3))] h_7) fun y_11 h_10 => asI .i64 y_11 fun n_12 => some ((n_12 == 2), h_10)) false h_7 fun b_13 h_14 => scK b_13 true (lenK x_9 fun n_15 => some ((n_15 == 2), h_14)) false h_14 fun b_16 h_17 => scK b_16 true (idxSK 1 x_9 1 fun k_18 N_19 o_20 => rdH h_17 k_18 N_19 fun l_21 => atK l_21 o_20 fun q_22 => asI .i64 (.c q_22) fun n_23 => some ((n_23 == 2), h_17)) false h_17 fun b_24 h_25 => scK b_24 true (c1 (C 61 [(.c (.int .i64 3))] h_25) fun y_27 h_26 => asI .u64 y_27 fun n_28 => some ((n_28 == 7), h_26)) false h_25 fun b_29 h_30 => scK b_29 true (c1 (C 38 [(.c (.int .u64 0))] h_30) fun y_32 h_31 => asI .i64 y_32 fun n_33 => some ((n_33 == (-1)), h_31)) false h_30 fun b_34 h_35 => finish true h0 [(.c (.bool b_34))] h_35 else none := by kernel_rfl

/- jacquard/jacquardlaw7.in: 64 -/
set_option maxRecDepth 100000 in
theorem jacquardlaw7_in_eq (C : CallF) (L : LoopF) (G : Glo) (a0 : Int) (h0 : AHeap) :
    jacquardlaw7_in.body C L G [(.c (.int .i64 a0))] h0 =
    scK (decide (a0 ≥ 0)) true (some ((decide (a0 < 64)), h0)) false h0 fun b_1 h_2 => if b_1 = true then some ([(.c (.int .i64 1))], h_2) else some ([(.c (.int .i64 0))], h_2) := by kernel_rfl

/- jacquard/jacquardlaw7.SetAlgebra: 235 -/
def jacquardlaw7_SetAlgebra_k2 (C : CallF) (L : LoopF) (G : Glo) (h0 : AHeap) : Ex → St → Option (List AV × AHeap) :=
  kSeq (fun st => jacquardlaw7_SetAlgebra_p1.exec C L G st (jacquardlaw7_SetAlgebra.fin G h0)) (jacquardlaw7_SetAlgebra.fin G h0)
def jacquardlaw7_SetAlgebra_k3 (C : CallF) (L : LoopF) (G : Glo) (h0 : AHeap) : Ex → St → Option (List AV × AHeap) :=
  kBlk 0 (jacquardlaw7_SetAlgebra_k2 C L G h0)
def jacquardlaw7_SetAlgebra_s1 (a2 : Int) (a7 : Int) (a8 : Int) (a9 : Int) (x10 : Cell) (a11 : Int) (h : AHeap) : St := ⟨[.top, .top, .v (.c (.int .i64 a2)), .top, .top, .top, .top, .v (.c (.int .u64 a7)), .v (.c (.int .u64 a8)), .v (.c (.int .i64 a9)), .v (.c x10), .v (.c (.int .i64 a11)), .top, .top, .top, .top, .top, .top, .top, .top, .top, .top, .top, .top, .top, .top, .top, .top, .top, .top, .top, .top, .top, .top, .top, .top, .top, .top, .top, .top, .top, .top, .top, .top, .top, .top, .top, .top, .top, .top, .top, .top, .top, .top, .top, .top, .top, .top, .top, .top, .top, .top, .top, .top, .top, .top, .top, .top, .top, .top, .top, .top, .top, .top, .top, .top, .top, .top, .top, .top, .top, .top, .top, .top, .top, .top, .top, .top, .top, .top, .top, .top, .top, .top, .top, .top, .top, .top, .top, .top, .top], [], h⟩
def jacquardlaw7_SetAlgebra_F1 (C : CallF) (L : LoopF) (G : Glo) : St → Option (Ex × St) :=
  roundF (fun st f => jacquardlaw7_SetAlgebra_b1.exec C L G st f) [2, 7, 8, 9, 10, 11] [] [(0, [6], []), (1, [2, 7, 8, 9], [])]
def jacquardlaw7_SetAlgebra_x1_0 (b6 : Bool) (h : AHeap) : St := ⟨[.top, .top, .top, .top, .top, .top, .v (.c (.bool b6)), .top, .top, .top, .top, .top, .top, .top, .top, .top, .top, .top, .top, .top, .top, .top, .top, .top, .top, .top, .top, .top, .top, .top, .top, .top, .top, .top, .top, .top, .top, .top, .top, .top, .top, .top, .top, .top, .top, .top, .top, .top, .top, .top, .top, .top, .top, .top, .top, .top, .top, .top, .top, .top, .top, .top, .top, .top, .top, .top, .top, .top, .top, .top, .top, .top, .top, .top, .top, .top, .top, .top, .top, .top, .top, .top, .top, .top, .top, .top, .top, .top, .top, .top, .top, .top, .top, .top, .top, .top, .top, .top, .top, .top, .top], [], h⟩
def jacquardlaw7_SetAlgebra_x1_1 (a2 : Int) (a7 : Int) (a8 : Int) (a9 : Int) (h : AHeap) : St := ⟨[.top, .top, .v (.c (.int .i64 a2)), .top, .top, .top, .top, .v (.c (.int .u64 a7)), .v (.c (.int .u64 a8)), .v (.c (.int .i64 a9)), .top, .top, .top, .top, .top, .top, .top, .top, .top, .top, .top, .top, .top, .top, .top, .top, .top, .top, .top, .top, .top, .top, .top, .top, .top, .top, .top, .top, .top, .top, .top, .top, .top, .top, .top, .top, .top, .top, .top, .top, .top, .top, .top, .top, .top, .top, .top, .top, .top, .top, .top, .top, .top, .top, .top, .top, .top, .top, .top, .top, .top, .top, .top, .top, .top, .top, .top, .top, .top, .top, .top, .top, .top, .top, .top, .top, .top, .top, .top, .top, .top, .top, .top, .top, .top, .top, .top, .top, .top, .top, .top], [], h⟩
theorem jacquardlaw7_SetAlgebra_r1 (C : CallF) (L : LoopF) (G : Glo) (a2 : Int) (a7 : Int) (a8 : Int) (a9 : Int) (x10 : Cell) (a11 : Int) (h : AHeap) :
    jacquardlaw7_SetAlgebra_F1 C L G (jacquardlaw7_SetAlgebra_s1 a2 a7 a8 a9 x10 a11 h) =
    lenK x10 fun n_4 => if (decide (a11 < n_4)) = true then scK (decide (a11 > 0)) true (idxSK 1 x10 a11 fun k_5 N_6 o_7 => rdH h k_5 N_6 fun l_8 => atK l_8 o_7 fun q_9 => asI .i64 (.c q_9) fun n_10 => idxSK 1 x10 (G.wrap .i64 (a11 - 1)) fun k_11 N_12 o_13 => rdH h k_11 N_12 fun l_14 => atK l_14 o_13 fun q_15 => asI .i64 (.c q_15) fun n_16 => some ((decide (n_10 ≤ n_16)), h)) false h fun b_17 h_18 => scK b_17 false (idxSK 1 x10 a11 fun k_19 N_20 o_21 => rdH h_18 k_19 N_20 fun l_22 => atK l_22 o_21 fun q_23 => asI .i64 (.c q_23) fun n_24 => c1 (qh h_18 (C 17 [(.c (.int .u64 a7)), (.c (.int .i64 n_24))] h_18)) fun y_26 h_25 => asB y_26 fun b_27 => some ((!b_27), h_18)) true h_18 fun b_28 h_29 => if b_28 = true then some (.ret, (jacquardlaw7_SetAlgebra_x1_0 false h_29)) else idxSK 1 x10 a11 fun k_30 N_31 o_32 => rdH h_29 k_30 N_31 fun l_33 => atK l_33 o_32 fun q_34 => asI .i64 (.c q_34) fun n_35 => c1 (C 17 [(.c (.int .u64 a8)), (.c (.int .i64 n_35))] h_29) fun y_37 h_36 => asB y_37 fun b_38 => if b_38 = true then some (.normal, (jacquardlaw7_SetAlgebra_s1 a2 a7 a8 (G.wrap .i64 (a9 + 1)) x10 (G.wrap .i64 (a11 + 1)) h_36)) else some (.normal, (jacquardlaw7_SetAlgebra_s1 a2 a7 a8 a9 x10 (G.wrap .i64 (a11 + 1)) h_36)) else some ((.exit 0), (jacquardlaw7_SetAlgebra_x1_1 a2 a7 a8 a9 h)) := by kernel_rfl
theorem jacquardlaw7_SetAlgebra_e1_0 (C : CallF) (L : LoopF) (G : Glo) (h0 : AHeap) (b6 : Bool) (h : AHeap) :
    (jacquardlaw7_SetAlgebra_k3 C L G h0) .ret (jacquardlaw7_SetAlgebra_x1_0 b6 h) =
    some ([(.c (.bool b6))], h) := by kernel_rfl
theorem jacquardlaw7_SetAlgebra_e1_1 (C : CallF) (L : LoopF) (G : Glo) (h0 : AHeap) (a2 : Int) (a7 : Int) (a8 : Int) (a9 : Int) (h : AHeap) :
    (jacquardlaw7_SetAlgebra_k3 C L G h0) (.exit 0) (jacquardlaw7_SetAlgebra_x1_1 a2 a7 a8 a9 h) =
    c1 (C 56 [(.c (.int .u64 (G.bor .u64 a7 a8)))] h) fun y_40 h_39 => asI .i64 y_40 fun n_41 => c1 (C 56 [(.c (.int .u64 a7))] h_39) fun y_43 h_42 => asI .i64 y_43 fun n_44 => c1 (C 56 [(.c (.int .u64 a8))] h_42) fun y_46 h_45 => asI .i64 y_46 fun n_47 => let v_48 : Int := (G.wrap .i64 ((G.wrap .i64 (n_44 + n_47)) - a9)); scK (n_41 == v_48) true (c1 (C 56 [(.c (.int .u64 (G.band .u64 a7 a8)))] h_45) fun y_50 h_49 => asI .i64 y_50 fun n_51 => some ((n_51 == a9), h_49)) false h_45 fun b_52 h_53 => scK b_52 true (c1 (C 56 [(.c (.int .u64 (G.bandNot .u64 a7 a8)))] h_53) fun y_55 h_54 => asI .i64 y_55 fun n_56 => c1 (C 56 [(.c (.int .u64 a7))] h_54) fun y_58 h_57 => asI .i64 y_58 fun n_59 => some ((n_56 == (G.wrap .i64 (n_59 - a9))), h_57)) false h_53 fun b_60 h_61 => scK b_60 true (c1 (C 18 [(.c (.int .u64 a7)), (.c (.int .i64 a2))] h_61) fun y_63 h_62 => asI .u64 y_63 fun n_64 => c1 (C 56 [(.c (.int .u64 n_64))] h_62) fun y_66 h_65 => asI .i64 y_66 fun n_67 => c1 (C 63 [(.c (.int .u64 a7)), (.c (.int .i64 a2))] h_65) fun y_69 h_68 => asI .u64 y_69 fun n_70 => c1 (C 56 [(.c (.int .u64 n_70))] h_68) fun y_72 h_71 => asI .i64 y_72 fun n_73 => c1 (C 64 [(.c (.int .i64 a2))] h_71) fun y_75 h_74 => asI .i64 y_75 fun n_76 => some (((G.wrap .i64 (n_67 - n_73)) == n_76), h_74)) false h_61 fun b_77 h_78 => scK b_77 true (c1 (C 62 [] h_78) fun y_80 h_79 => asB y_80 fun b_81 => some (b_81, h_79)) false h_78 fun b_82 h_83 => some ([(.c (.bool b_82))], h_83) := by kernel_rfl
set_option maxRecDepth 100000 in
theorem jacquardlaw7_SetAlgebra_eq (C : CallF) (L : LoopF) (G : Glo) (a0 : Int) (a1 : Int) (a2 : Int) (h0 : AHeap) :
    jacquardlaw7_SetAlgebra.body C L G [(.c (.int .u64 a0)), (.c (.int .u64 a1)), (.c (.int .i64 a2))] h0 =
    c1 (C 32 [(.c (.int .u64 a0))] h0) fun y_2 h_1 => asC y_2 fun x_3 => (L (jacquardlaw7_SetAlgebra_F1 C L G) (jacquardlaw7_SetAlgebra_s1 a2 a0 a1 0 x_3 0 h_1)).bind fun p_84 => (jacquardlaw7_SetAlgebra_k3 C L G h0) p_84.1 p_84.2 := by kernel_rfl

/- jacquard/jacquardlaw7.SetTells: 236 -/
def jacquardlaw7_SetTells_k2 (C : CallF) (L : LoopF) (G : Glo) (h0 : AHeap) : Ex → St → Option (List AV × AHeap) :=
  kSeq (fun st => jacquardlaw7_SetTells_p1.exec C L G st (jacquardlaw7_SetTells.fin G h0)) (jacquardlaw7_SetTells.fin G h0)
def jacquardlaw7_SetTells_k3 (C : CallF) (L : LoopF) (G : Glo) (h0 : AHeap) : Ex → St → Option (List AV × AHeap) :=
  kBlk 0 (jacquardlaw7_SetTells_k2 C L G h0)
def jacquardlaw7_SetTells_s1 (x0 : Cell) (a1 : Int) (a2 : Int) (a8 : Int) (s0 : List Cell) (h : AHeap) : St := ⟨[.v (.c x0), .v (.c (.int .i64 a1)), .v (.c (.int .i64 a2)), .top, .top, .top, .top, .loc 0 0, .v (.c (.int .i64 a8)), .top, .top, .top, .top, .top, .top, .top, .top, .top, .top, .top, .top, .top, .top, .top, .top, .top, .top, .top, .top, .top, .top, .top, .top, .top, .top, .top, .top, .top, .top, .top, .top, .top, .top, .top, .top, .top, .top, .top, .top, .top, .top, .top, .top, .top, .top, .top, .top, .top, .top, .top, .top, .top, .top, .top, .top, .top, .top, .top, .top, .top, .top, .top, .top, .top, .top, .top, .top, .top, .top, .top, .top, .top, .top, .top, .top, .top, .top, .top, .top, .top, .top, .top, .top, .top, .top, .top, .top, .top, .top, .top, .top, .top, .top, .top, .top, .top, .top, .top, .top, .top, .top, .top, .top, .top, .top, .top, .top, .top, .top, .top, .top, .top, .top, .top, .top], [some s0], h⟩
def jacquardlaw7_SetTells_F1 (C : CallF) (L : LoopF) (G : Glo) : St → Option (Ex × St) :=
  roundF (fun st f => jacquardlaw7_SetTells_b1.exec C L G st f) [0, 1, 2, 7, 8] [0] [(1, [0, 1, 2, 7], [0])]
def jacquardlaw7_SetTells_x1_1 (x0 : Cell) (a1 : Int) (a2 : Int) (s0 : List Cell) (h : AHeap) : St := ⟨[.v (.c x0), .v (.c (.int .i64 a1)), .v (.c (.int .i64 a2)), .top, .top, .top, .top, .loc 0 0, .top, .top, .top, .top, .top, .top, .top, .top, .top, .top, .top, .top, .top, .top, .top, .top, .top, .top, .top, .top, .top, .top, .top, .top, .top, .top, .top, .top, .top, .top, .top, .top, .top, .top, .top, .top, .top, .top, .top, .top, .top, .top, .top, .top, .top, .top, .top, .top, .top, .top, .top, .top, .top, .top, .top, .top, .top, .top, .top, .top, .top, .top, .top, .top, .top, .top, .top, .top, .top, .top, .top, .top, .top, .top, .top, .top, .top, .top, .top, .top, .top, .top, .top, .top, .top, .top, .top, .top, .top, .top, .top, .top, .top, .top, .top, .top, .top, .top, .top, .top, .top, .top, .top, .top, .top, .top, .top, .top, .top, .top, .top, .top, .top, .top, .top, .top, .top], [some s0], h⟩
def jacquardlaw7_SetTells_k4 (C : CallF) (L : LoopF) (G : Glo) (h0 : AHeap) : Ex → St → Option (List AV × AHeap) :=
  kSeq (fun st => jacquardlaw7_SetTells_p2.exec C L G st (jacquardlaw7_SetTells.fin G h0)) (jacquardlaw7_SetTells.fin G h0)
def jacquardlaw7_SetTells_c1 (a2 : Int) (a9 : Int) (s0 : List Cell) (h : AHeap) : St := ⟨[.top, .top, .v (.c (.int .i64 a2)), .top, .top, .top, .top, .loc 0 0, .top, .v (.c (.int .u64 a9)), .top, .top, .top, .top, .top, .top, .top, .top, .top, .top, .top, .top, .top, .top, .top, .top, .top, .top, .top, .top, .top, .top, .top, .top, .top, .top, .top, .top, .top, .top, .top, .top, .top, .top, .top, .top, .top, .top, .top, .top, .top, .top, .top, .top, .top, .top, .top, .top, .top, .top, .top, .top, .top, .top, .top, .top, .top, .top, .top, .top, .top, .top, .top, .top, .top, .top, .top, .top, .top, .top, .top, .top, .top, .top, .top, .top, .top, .top, .top, .top, .top, .top, .top, .top, .top, .top, .top, .top, .top, .top, .top, .top, .top, .top, .top, .top, .top, .top, .top, .top, .top, .top, .top, .top, .top, .top, .top, .top, .top, .top, .top, .top, .top, .top, .top], [some s0], h⟩
def jacquardlaw7_SetTells_k5 (C : CallF) (L : LoopF) (G : Glo) (h0 : AHeap) : Ex → St → Option (List AV × AHeap) :=
  kSeq (fun st => jacquardlaw7_SetTells_p3.exec C L G st (jacquardlaw7_SetTells.fin G h0)) (jacquardlaw7_SetTells.fin G h0)
def jacquardlaw7_SetTells_c2 (a9 : Int) (s0 : List Cell) (h : AHeap) : St := ⟨[.top, .top, .top, .top, .top, .top, .top, .loc 0 0, .top, .v (.c (.int .u64 a9)), .top, .top, .top, .top, .top, .top, .top, .top, .top, .top, .top, .top, .top, .top, .top, .top, .top, .top, .top, .top, .top, .top, .top, .top, .top, .top, .top, .top, .top, .top, .top, .top, .top, .top, .top, .top, .top, .top, .top, .top, .top, .top, .top, .top, .top, .top, .top, .top, .top, .top, .top, .top, .top, .top, .top, .top, .top, .top, .top, .top, .top, .top, .top, .top, .top, .top, .top, .top, .top, .top, .top, .top, .top, .top, .top, .top, .top, .top, .top, .top, .top, .top, .top, .top, .top, .top, .top, .top, .top, .top, .top, .top, .top, .top, .top, .top, .top, .top, .top, .top, .top, .top, .top, .top, .top, .top, .top, .top, .top, .top, .top, .top, .top, .top, .top], [some s0], h⟩
def jacquardlaw7_SetTells_k6 (C : CallF) (L : LoopF) (G : Glo) (h0 : AHeap) : Ex → St → Option (List AV × AHeap) :=
  kSeq (fun st => jacquardlaw7_SetTells_p4.exec C L G st (jacquardlaw7_SetTells.fin G h0)) (jacquardlaw7_SetTells.fin G h0)
def jacquardlaw7_SetTells_k7 (C : CallF) (L : LoopF) (G : Glo) (h0 : AHeap) : Ex → St → Option (List AV × AHeap) :=
  kBlk 2 (jacquardlaw7_SetTells_k6 C L G h0)
def jacquardlaw7_SetTells_s2 (a9 : Int) (a10 : Int) (a11 : Int) (x12 : Cell) (a13 : Int) (s0 : List Cell) (h : AHeap) : St := ⟨[.top, .top, .top, .top, .top, .top, .top, .loc 0 0, .top, .v (.c (.int .u64 a9)), .v (.c (.int .i64 a10)), .v (.c (.int .i64 a11)), .v (.c x12), .v (.c (.int .i64 a13)), .top, .top, .top, .top, .top, .top, .top, .top, .top, .top, .top, .top, .top, .top, .top, .top, .top, .top, .top, .top, .top, .top, .top, .top, .top, .top, .top, .top, .top, .top, .top, .top, .top, .top, .top, .top, .top, .top, .top, .top, .top, .top, .top, .top, .top, .top, .top, .top, .top, .top, .top, .top, .top, .top, .top, .top, .top, .top, .top, .top, .top, .top, .top, .top, .top, .top, .top, .top, .top, .top, .top, .top, .top, .top, .top, .top, .top, .top, .top, .top, .top, .top, .top, .top, .top, .top, .top, .top, .top, .top, .top, .top, .top, .top, .top, .top, .top, .top, .top, .top, .top, .top, .top, .top, .top, .top, .top, .top, .top, .top, .top], [some s0], h⟩
def jacquardlaw7_SetTells_F2 (C : CallF) (L : LoopF) (G : Glo) : St → Option (Ex × St) :=
  roundF (fun st f => jacquardlaw7_SetTells_b2.exec C L G st f) [7, 9, 10, 11, 12, 13] [0] [(0, [6], []), (3, [9, 10, 11, 12], [])]
def jacquardlaw7_SetTells_x2_0 (b6 : Bool) (h : AHeap) : St := ⟨[.top, .top, .top, .top, .top, .top, .v (.c (.bool b6)), .top, .top, .top, .top, .top, .top, .top, .top, .top, .top, .top, .top, .top, .top, .top, .top, .top, .top, .top, .top, .top, .top, .top, .top, .top, .top, .top, .top, .top, .top, .top, .top, .top, .top, .top, .top, .top, .top, .top, .top, .top, .top, .top, .top, .top, .top, .top, .top, .top, .top, .top, .top, .top, .top, .top, .top, .top, .top, .top, .top, .top, .top, .top, .top, .top, .top, .top, .top, .top, .top, .top, .top, .top, .top, .top, .top, .top, .top, .top, .top, .top, .top, .top, .top, .top, .top, .top, .top, .top, .top, .top, .top, .top, .top, .top, .top, .top, .top, .top, .top, .top, .top, .top, .top, .top, .top, .top, .top, .top, .top, .top, .top, .top, .top, .top, .top, .top, .top], [none], h⟩
def jacquardlaw7_SetTells_x2_3 (a9 : Int) (a10 : Int) (a11 : Int) (x12 : Cell) (h : AHeap) : St := ⟨[.top, .top, .top, .top, .top, .top, .top, .top, .top, .v (.c (.int .u64 a9)), .v (.c (.int .i64 a10)), .v (.c (.int .i64 a11)), .v (.c x12), .top, .top, .top, .top, .top, .top, .top, .top, .top, .top, .top, .top, .top, .top, .top, .top, .top, .top, .top, .top, .top, .top, .top, .top, .top, .top, .top, .top, .top, .top, .top, .top, .top, .top, .top, .top, .top, .top, .top, .top, .top, .top, .top, .top, .top, .top, .top, .top, .top, .top, .top, .top, .top, .top, .top, .top, .top, .top, .top, .top, .top, .top, .top, .top, .top, .top, .top, .top, .top, .top, .top, .top, .top, .top, .top, .top, .top, .top, .top, .top, .top, .top, .top, .top, .top, .top, .top, .top, .top, .top, .top, .top, .top, .top, .top, .top, .top, .top, .top, .top, .top, .top, .top, .top, .top, .top, .top, .top, .top, .top, .top, .top], [none], h⟩
theorem jacquardlaw7_SetTells_r1 (C : CallF) (L : LoopF) (G : Glo) (x0 : Cell) (a1 : Int) (a2 : Int) (a8 : Int) (s0 : List Cell) (h : AHeap) :
    jacquardlaw7_SetTells_F1 C L G (jacquardlaw7_SetTells_s1 x0 a1 a2 a8 s0 h) =
    lenK x0 fun n_5 => if (decide (a8 < n_5)) = true then idxSK 1 x0 a8 fun k_6 N_7 o_8 => rdH h k_6 N_7 fun l_9 => atK l_9 o_8 fun q_10 => asI .i64 (.c q_10) fun n_11 => scK (decide (n_11 ≥ 0)) true (idxSK 1 x0 a8 fun k_12 N_13 o_14 => rdH h k_12 N_13 fun l_15 => atK l_15 o_14 fun q_16 => asI .i64 (.c q_16) fun n_17 => some ((decide (n_17 < 64)), h)) false h fun b_18 h_19 => if b_18 = true then idxSK 1 x0 a8 fun k_20 N_21 o_22 => rdH h_19 k_20 N_21 fun l_23 => atK l_23 o_22 fun q_24 => asI .i64 (.c q_24) fun n_25 => if 0 ≤ n_25 ∧ n_25 < ((64 : Nat) : Int) then if (0 + ((Int.toNat n_25) * 1)) < s0.length then some (.normal, (jacquardlaw7_SetTells_s1 x0 a1 a2 (G.wrap .i64 (a8 + 1)) (s0.set (0 + ((Int.toNat n_25) * 1)) (.bool true)) h_19)) else none else none else some (.normal, (jacquardlaw7_SetTells_s1 x0 a1 a2 (G.wrap .i64 (a8 + 1)) s0 h_19)) else some ((.exit 0), (jacquardlaw7_SetTells_x1_1 x0 a1 a2 s0 h)) := by kernel_rfl
theorem jacquardlaw7_SetTells_r2 (C : CallF) (L : LoopF) (G : Glo) (a9 : Int) (a10 : Int) (a11 : Int) (x12 : Cell) (a13 : Int) (s0 : List Cell) (h : AHeap) :
    jacquardlaw7_SetTells_F2 C L G (jacquardlaw7_SetTells_s2 a9 a10 a11 x12 a13 s0 h) =
    if (decide (a13 < 64)) = true then c1 (qh h (C 17 [(.c (.int .u64 a9)), (.c (.int .i64 a13))] h)) fun y_43 h_42 => asB y_43 fun b_44 => if 0 ≤ a13 ∧ a13 < ((64 : Nat) : Int) then atK s0 (0 + ((Int.toNat a13) * 1)) fun q_45 => asB (.c q_45) fun b_46 => if (!(b_44 == b_46)) = true then some (.ret, (jacquardlaw7_SetTells_x2_0 false h)) else if 0 ≤ a13 ∧ a13 < ((64 : Nat) : Int) then atK s0 (0 + ((Int.toNat a13) * 1)) fun q_47 => asB (.c q_47) fun b_48 => if b_48 = true then lenK x12 fun n_49 => scK (decide (a10 ≥ n_49)) false (idxSK 1 x12 a10 fun k_50 N_51 o_52 => rdH h k_50 N_51 fun l_53 => atK l_53 o_52 fun q_54 => asI .i64 (.c q_54) fun n_55 => some ((n_55 != a13), h)) true h fun b_56 h_57 => if b_56 = true then some (.ret, (jacquardlaw7_SetTells_x2_0 false h_57)) else if (decide (a11 < 0)) = true then some (.normal, (jacquardlaw7_SetTells_s2 a9 (G.wrap .i64 (a10 + 1)) a13 x12 (G.wrap .i64 (a13 + 1)) s0 h_57)) else some (.normal, (jacquardlaw7_SetTells_s2 a9 (G.wrap .i64 (a10 + 1)) a11 x12 (G.wrap .i64 (a13 + 1)) s0 h_57)) else some (.normal, (jacquardlaw7_SetTells_s2 a9 a10 a11 x12 (G.wrap .i64 (a13 + 1)) s0 h)) else none else none else some ((.exit 2), (jacquardlaw7_SetTells_x2_3 a9 a10 a11 x12 h)) := by kernel_rfl
theorem jacquardlaw7_SetTells_e2_0 (C : CallF) (L : LoopF) (G : Glo) (h0 : AHeap) (b6 : Bool) (h : AHeap) :
    (jacquardlaw7_SetTells_k7 C L G h0) .ret (jacquardlaw7_SetTells_x2_0 b6 h) =
    some ([(.c (.bool b6))], h) := by kernel_rfl
theorem jacquardlaw7_SetTells_e2_3 (C : CallF) (L : LoopF) (G : Glo) (h0 : AHeap) (a9 : Int) (a10 : Int) (a11 : Int) (x12 : Cell) (h : AHeap) :
    (jacquardlaw7_SetTells_k7 C L G h0) (.exit 2) (jacquardlaw7_SetTells_x2_3 a9 a10 a11 x12 h) =
    c1 (C 56 [(.c (.int .u64 a9))] h) fun y_59 h_58 => asI .i64 y_59 fun n_60 => scK (n_60 == a10) true (lenK x12 fun n_61 => some ((n_61 == a10), h_58)) false h_58 fun b_62 h_63 => scK b_62 true (c1 (C 38 [(.c (.int .u64 a9))] h_63) fun y_65 h_64 => asI .i64 y_65 fun n_66 => some ((n_66 == a11), h_64)) false h_63 fun b_67 h_68 => scK b_67 true (c1 (C 17 [(.c (.int .u64 a9)), (.c (.int .i64 (-1)))] h_68) fun y_70 h_69 => asB y_70 fun b_71 => some ((!b_71), h_69)) false h_68 fun b_72 h_73 => scK b_72 true (c1 (C 17 [(.c (.int .u64 a9)), (.c (.int .i64 64))] h_73) fun y_75 h_74 => asB y_75 fun b_76 => some ((!b_76), h_74)) false h_73 fun b_77 h_78 => scK b_77 true (c1 (C 62 [] h_78) fun y_80 h_79 => asB y_80 fun b_81 => some (b_81, h_79)) false h_78 fun b_82 h_83 => some ([(.c (.bool b_82))], h_83) := by kernel_rfl
theorem jacquardlaw7_SetTells_ec2_n (C : CallF) (L : LoopF) (G : Glo) (h0 : AHeap) (a9 : Int) (s0 : List Cell) (h : AHeap) :
    (jacquardlaw7_SetTells_k5 C L G h0) .normal (jacquardlaw7_SetTells_c2 a9 s0 h) =
    c1 (C 32 [(.c (.int .u64 a9))] h) fun y_40 h_39 => asC y_40 fun x_41 => (L (jacquardlaw7_SetTells_F2 C L G) (jacquardlaw7_SetTells_s2 a9 0 (-1) x_41 0 s0 h_39)).bind fun p_84 => (jacquardlaw7_SetTells_k7 C L G h0) p_84.1 p_84.2 := by kernel_rfl
theorem jacquardlaw7_SetTells_ec1_n (C : CallF) (L : LoopF) (G : Glo) (h0 : AHeap) (a2 : Int) (a9 : Int) (s0 : List Cell) (h : AHeap) :
    (jacquardlaw7_SetTells_k4 C L G h0) .normal (jacquardlaw7_SetTells_c1 a2 a9 s0 h) =
    (scK (decide (a2 ≥ 0)) true (some ((decide (a2 < 64)), h)) false h fun b_37 h_38 => if b_37 = true then if 0 ≤ a2 ∧ a2 < ((64 : Nat) : Int) then if (0 + ((Int.toNat a2) * 1)) < s0.length then some (.normal, (jacquardlaw7_SetTells_c2 a9 (s0.set (0 + ((Int.toNat a2) * 1)) (.bool false)) h_38)) else none else none else some (.normal, (jacquardlaw7_SetTells_c2 a9 s0 h_38)) : Option (Ex × St)).bind fun p_85 => (jacquardlaw7_SetTells_k5 C L G h0) p_85.1 p_85.2 := by kernel_rfl
theorem jacquardlaw7_SetTells_e1_1 (C : CallF) (L : LoopF) (G : Glo) (h0 : AHeap) (x0 : Cell) (a1 : Int) (a2 : Int) (s0 : List Cell) (h : AHeap) :
    (jacquardlaw7_SetTells_k3 C L G h0) (.exit 0) (jacquardlaw7_SetTells_x1_1 x0 a1 a2 s0 h) =
    c1 (C 65 [(.c x0)] h) fun y_27 h_26 => asI .u64 y_27 fun n_28 => c1 (C 18 [(.c (.int .u64 n_28)), (.c (.int .i64 a1))] h_26) fun y_30 h_29 => asI .u64 y_30 fun n_31 => c1 (C 63 [(.c (.int .u64 n_31)), (.c (.int .i64 a2))] h_29) fun y_33 h_32 => asI .u64 y_33 fun n_34 => (scK (decide (a1 ≥ 0)) true (some ((decide (a1 < 64)), h_32)) false h_32 fun b_35 h_36 => if b_35 = true then if 0 ≤ a1 ∧ a1 < ((64 : Nat) : Int) then if (0 + ((Int.toNat a1) * 1)) < s0.length then some (.normal, (jacquardlaw7_SetTells_c1 a2 n_34 (s0.set (0 + ((Int.toNat a1) * 1)) (.bool true)) h_36)) else none else none else some (.normal, (jacquardlaw7_SetTells_c1 a2 n_34 s0 h_36)) : Option (Ex × St)).bind fun p_86 => (jacquardlaw7_SetTells_k4 C L G h0) p_86.1 p_86.2 := by kernel_rfl
set_option maxRecDepth 100000 in
theorem jacquardlaw7_SetTells_eq (C : CallF) (L : LoopF) (G : Glo) (x0 : Cell) (a1 : Int) (a2 : Int) (h0 : AHeap) :
    jacquardlaw7_SetTells.body C L G [(.c x0), (.c (.int .i64 a1)), (.c (.int .i64 a2))] h0 =
    lenK x0 fun n_1 => if (decide (n_1 > 200)) = true then c1 (C 62 [] h0) fun y_3 h_2 => asB y_3 fun b_4 => some ([(.c (.bool b_4))], h_2) else (L (jacquardlaw7_SetTells_F1 C L G) (jacquardlaw7_SetTells_s1 x0 a1 a2 0 (List.replicate 64 (Cell.bool false)) h0)).bind fun p_87 => (jacquardlaw7_SetTells_k3 C L G h0) p_87.1 p_87.2 := by kernel_rfl

/- jacquard/jacquardlaw7.SetUptos: 237 -/
set_option maxRecDepth 100000 in
theorem jacquardlaw7_SetUptos_eq (C : CallF) (L : LoopF) (G : Glo) (a0 : Int) (a1 : Int) (a2 : Int) (h0 : AHeap) :
    jacquardlaw7_SetUptos.body C L G [(.c (.int .i64 a0)), (.c (.int .u64 a1)), (.c (.int .i64 a2))] h0 =
    c1 (C 61 [(.c (.int .i64 a0))] h0) fun y_2 h_1 => asI .u64 y_2 fun n_3 => let v_4 : Int := (if 64 < (if 0 > a0 then 0 else a0) then 64 else (if 0 > a0 then 0 else a0)); c1 (C 56 [(.c (.int .u64 n_3))] h_1) fun y_6 h_5 => asI .i64 y_6 fun n_7 => scK (n_7 == v_4) true (scK (v_4 == 0) false (c1 (C 17 [(.c (.int .u64 n_3)), (.c (.int .i64 (G.wrap .i64 (v_4 - 1))))] h_5) fun y_9 h_8 => asB y_9 fun b_10 => some (b_10, h_8)) true h_5 fun b_11 h_12 => some (b_11, h_12)) false h_5 fun b_13 h_14 => scK b_13 true (c1 (C 17 [(.c (.int .u64 n_3)), (.c (.int .i64 v_4))] h_14) fun y_16 h_15 => asB y_16 fun b_17 => some ((!b_17), h_15)) false h_14 fun b_18 h_19 => scK b_18 true (c1 (C 18 [(.c (.int .u64 a1)), (.c (.int .i64 (G.band .i64 a2 63)))] h_19) fun y_21 h_20 => asI .u64 y_21 fun n_22 => c1 (C 63 [(.c (.int .u64 n_22)), (.c (.int .i64 (G.band .i64 a2 63)))] h_20) fun y_24 h_23 => asI .u64 y_24 fun n_25 => c1 (C 63 [(.c (.int .u64 a1)), (.c (.int .i64 (G.band .i64 a2 63)))] h_23) fun y_27 h_26 => asI .u64 y_27 fun n_28 => some ((n_25 == n_28), h_26)) false h_19 fun b_29 h_30 => scK b_29 true (c1 (C 63 [(.c (.int .u64 a1)), (.c (.int .i64 (G.band .i64 a2 63)))] h_30) fun y_32 h_31 => asI .u64 y_32 fun n_33 => c1 (C 18 [(.c (.int .u64 n_33)), (.c (.int .i64 (G.band .i64 a2 63)))] h_31) fun y_35 h_34 => asI .u64 y_35 fun n_36 => c1 (C 18 [(.c (.int .u64 a1)), (.c (.int .i64 (G.band .i64 a2 63)))] h_34) fun y_38 h_37 => asI .u64 y_38 fun n_39 => some ((n_36 == n_39), h_37)) false h_30 fun b_40 h_41 => scK b_40 true (c1 (C 18 [(.c (.int .u64 a1)), (.c (.int .i64 (G.band .i64 a2 63)))] h_41) fun y_43 h_42 => asI .u64 y_43 fun n_44 => c1 (C 17 [(.c (.int .u64 n_44)), (.c (.int .i64 (G.band .i64 a2 63)))] h_42) fun y_46 h_45 => asB y_46 fun b_47 => some (b_47, h_45)) false h_41 fun b_48 h_49 => scK b_48 true (c1 (C 32 [(.c (.int .u64 a1))] h_49) fun y_51 h_50 => asC y_51 fun x_52 => c1 (C 65 [(.c x_52)] h_50) fun y_54 h_53 => asI .u64 y_54 fun n_55 => some ((n_55 == a1), h_53)) false h_49 fun b_56 h_57 => scK b_56 true (c1 (C 62 [] h_57) fun y_59 h_58 => asB y_59 fun b_60 => some (b_60, h_58)) false h_57 fun b_61 h_62 => some ([(.c (.bool b_61))], h_62) := by kernel_rfl


end Jq

/- The statements of few numbers in one word. -/
namespace Jq
open Go

theorem boolL_congr {s t : Nat → Bool} {n : Nat} (h : ∀ i, i < n → s i = t i) : boolL s n = boolL t n := by
  unfold boolL
  exact List.map_congr_left fun i hi => by rw [h i (by simpa using hi)]

/- Counting. -/
theorem filt_or (p q : Nat → Bool) : ∀ l : List Nat, (l.filter fun i => p i || q i).length + (l.filter fun i => p i && q i).length = (l.filter p).length + (l.filter q).length
  | [] => rfl
  | a :: l => by
    have ih := filt_or p q l
    simp only [List.filter_cons]
    cases p a <;> cases q a <;> simp <;> omega

theorem filt_diff (p q : Nat → Bool) : ∀ l : List Nat, (l.filter fun i => p i && !q i).length + (l.filter fun i => p i && q i).length = (l.filter p).length
  | [] => rfl
  | a :: l => by
    have ih := filt_diff p q l
    simp only [List.filter_cons]
    cases p a <;> cases q a <;> simp <;> omega

theorem pc_or (a b : Nat) : pc (a ||| b) + pc (a &&& b) = pc a + pc b := by
  simp only [pc_bitsL, bitsL, Nat.testBit_or, Nat.testBit_and]; exact filt_or _ _ _
theorem pc_ndiff (a b : Nat) : pc (ndiff a b) + pc (a &&& b) = pc a := by
  simp only [pc_bitsL, bitsL, testBit_ndiff, Nat.testBit_and]; exact filt_diff _ _ _

theorem pc_two_pow : ∀ k, k < 64 → pc (2 ^ k) = 1 := by decide +kernel
theorem pc_upto : ∀ k, k ≤ 64 → pc (2 ^ k - 1) = k := by decide +kernel

theorem pc_le64 (s : Nat) : pc s ≤ 64 := by
  rw [pc_bitsL]; unfold bitsL; exact Nat.le_trans (List.length_filter_le _ _) (by simp)

theorem pc_bitI (i : Int) : pc (bitI i) = if 0 ≤ i ∧ i < 64 then 1 else 0 := by
  unfold bitI
  split
  · exact pc_two_pow _ (by omega)
  · decide

theorem pc_with (s : Nat) (i : Int) : pc (s ||| bitI i) = pc (ndiff s (bitI i)) + if 0 ≤ i ∧ i < 64 then 1 else 0 := by
  have h1 := pc_or s (bitI i)
  have h2 := pc_ndiff s (bitI i)
  have h3 := pc_bitI i
  omega

theorem testBit_big {s j : Nat} (hs : s < 2 ^ 64) (hj : 64 ≤ j) : s.testBit j = false :=
  Nat.testBit_lt_two_pow (Nat.lt_of_lt_of_le hs (Nat.pow_le_pow_right (by omega) hj))

theorem of_bitsL {s : Nat} (hs : s < 2 ^ 64) : ofL ((bitsL s).map fun (n : Nat) => (n : Int)) = s := by
  refine Nat.eq_of_testBit_eq fun j => ?_
  rw [Bool.eq_iff_iff, ofL_bit]
  constructor
  · rintro ⟨h1, h2⟩
    obtain ⟨n, hn, he⟩ := List.mem_map.1 h2
    have : n = j := by omega
    subst this
    exact (mem_bitsL.1 hn).2
  · intro h
    have hj : j < 64 := by
      rcases Nat.lt_or_ge j 64 with h1 | h1
      · exact h1
      · rw [testBit_big hs h1] at h; cases h
    exact ⟨hj, List.mem_map.2 ⟨j, mem_bitsL.2 ⟨hj, h⟩, rfl⟩⟩

variable {E : Env}

theorem SlAt.one {h : AHeap} {l : List Int} {k : IntKind} (t : AHeap) : SlAt (h ++ some ⟨true, 1, intC k l⟩ :: t) (.sl h.length l.length 0 l.length) 1 (intC k l) l.length := by
  refine ⟨by rw [intC_len]; omega, .inr ⟨_, _, 0, rfl, .inr ⟨⟨true, 1, intC k l⟩, by unfold blk?; simp, intC_len k l, by omega, fun j _ => by simp⟩⟩⟩

theorem awake7_R (hE : jacquardlaw7_awake_In E) (ht : TabOk E) (h : AHeap) : R E 62 [] h = some ([.c (.bool true)], h) := by
  refine R_intro hE.fn ?_
  rw [jacquardlaw7_awake_eq, show splice (splice [Cell.int .i64 0, Cell.int .i64 0] 0 [Cell.int .i64 0]) 1 [Cell.int .i64 1] = intC .i64 [0, 1] from rfl, if_pos (show (List.length (intC .i64 [0, 1]) : Nat) = 2 * 1 from rfl)]
  have hsl : SlAt (h ++ [some ⟨true, 1, intC .i64 [0, 1]⟩]) (.sl h.length (intC .i64 [0, 1]).length 0 2) 1 (intC .i64 [0, 1]) [(0 : Int), 1].length := SlAt.one (l := [0, 1]) []
  have e3 : ofL [0, 1] = 3 := by decide
  rw [OfS_R hE.c65 hsl (by decide), c1_ok, asI_ok, e3, Next_R hE.c60 ht (by decide), c1_ok, asI_ok, show nextN 3 = 5 by decide]
  obtain ⟨x, h', hL, ho, hk⟩ := List_R hE.c32 ht (s := 5) (by decide) (h ++ [some ⟨true, 1, intC .i64 [0, 1]⟩])
  rw [show bitsL 5 = [0, 2] by decide] at ho
  rw [hL, c1_ok, asC_ok, Len_R hE.c56 (by decide), c1_ok, asI_ok, show ((((3 : Nat) : Int)) == 3) = true from rfl, scK_ok, bind_ok, show pc 3 = 2 by decide]
  dsimp only
  rw [show ((((2 : Nat) : Int)) == 2) = true from rfl, scK_ok, ho.at.len, bind_ok]
  dsimp only
  rw [show (((List.length [0, 2] : Nat) : Int) == 2) = true from rfl, scK_ok, ho.at.getAt (i := 1) 1 rfl (by decide) (natC_get (l := [0, 2]) (i := 1) rfl), asI_ok, bind_ok]
  dsimp only
  rw [show ((((2 : Nat) : Int)) == 2) = true from rfl, scK_ok, Upto_R hE.c61, c1_ok, asI_ok, bind_ok]
  dsimp only
  rw [show (((2 ^ min (3 : Int).toNat 64 - 1 : Nat) : Int) == 7) = true by decide, scK_ok, show (0 : Int) = ((0 : Nat) : Int) from rfl, First_R hE.c38 ht (by decide), c1_ok, asI_ok, bind_ok]
  dsimp only
  rw [show (firstI 0 == -1) = true from rfl]
  refine finish_gc ((Kp.app _ (Nat.le_refl _)).trans (hk.mono (by simp))) (by simp [avOk, AV.cells, idOk])

theorem in7_R (hE : jacquardlaw7_in_In E) (i : Int) (h : AHeap) : R E 64 [.c (.int .i64 i)] h = some ([.c (.int .i64 (if 0 ≤ i ∧ i < 64 then 1 else 0))], h) := by
  refine R_intro hE.fn ?_
  rw [jacquardlaw7_in_eq, scK_and]
  by_cases hi : 0 ≤ i ∧ i < 64
  · rw [if_pos hi, show (decide (i ≥ 0) && decide (i < 64)) = true by simp; omega]; rfl
  · rw [if_neg hi, show (decide (i ≥ 0) && decide (i < 64)) = false by simp; omega]; rfl

theorem SetUptos_R (hE : jacquardlaw7_SetUptos_In E) (ht : TabOk E) (a0 : Int) {s : Nat} (hs : s < 2 ^ 64) (a2 : Int) (h : AHeap) :
    ∃ h', R E 237 [.c (.int .i64 a0), .c (.int .u64 s), .c (.int .i64 a2)] h = some ([.c (.bool true)], h') := by
  suffices hsf : ∃ h', jacquardlaw7_SetUptos.body (R E) Lim E.glob [.c (.int .i64 a0), .c (.int .u64 s), .c (.int .i64 a2)] h = some ([.c (.bool true)], h') by
    obtain ⟨h', hh⟩ := hsf; exact ⟨h', R_intro hE.fn hh⟩
  have hv : (if 64 < (if 0 > a0 then 0 else a0) then 64 else (if 0 > a0 then 0 else a0)) = ((min a0.toNat 64 : Nat) : Int) := by
    split <;> split <;> omega
  rw [jacquardlaw7_SetUptos_eq, Upto_R hE.c61, c1_ok, asI_ok]
  simp only [hv]
  have hk64 : min a0.toNat 64 ≤ 64 := Nat.min_le_right _ _
  generalize min a0.toNat 64 = k at hk64
  have hu : 2 ^ k - 1 < 2 ^ 64 := by
    have : 2 ^ k ≤ 2 ^ 64 := Nat.pow_le_pow_right (by omega) hk64
    omega
  obtain ⟨m, hm⟩ : ∃ m : Nat, a2 % 64 = m := ⟨(a2 % 64).toNat, by omega⟩
  have hm64 : m < 64 := by omega
  have hbm : bitI (m : Int) = 2 ^ m := by unfold bitI; rw [if_pos (by omega)]; simp
  have h1 := or_lt hs (bitI_lt (m : Int))
  have h2 : ndiff s (bitI (m : Int)) < 2 ^ 64 := ndiff_lt hs
  have e1 : ndiff (s ||| bitI (m : Int)) (bitI (m : Int)) = ndiff s (bitI (m : Int)) := by
    refine Nat.eq_of_testBit_eq fun j => ?_
    rw [testBit_ndiff, testBit_ndiff, Nat.testBit_or]; cases s.testBit j <;> cases (bitI (m : Int)).testBit j <;> rfl
  have e2 : ndiff s (bitI (m : Int)) ||| bitI (m : Int) = s ||| bitI (m : Int) := by
    refine Nat.eq_of_testBit_eq fun j => ?_
    rw [Nat.testBit_or, testBit_ndiff, Nat.testBit_or]; cases s.testBit j <;> cases (bitI (m : Int)).testBit j <;> rfl
  have e3 : hasI (s ||| bitI (m : Int)) (m : Int) = true := by
    rw [hasI_nat hm64, Nat.testBit_or, testBit_bitI]; simp [hm64]
  have e4 : hasI (2 ^ k - 1) (k : Int) = false := by
    unfold hasI
    rw [Int.toNat_natCast, Nat.testBit_two_pow_sub_one]; simp
  have hlast : ∀ {α : Type} (f : Bool → AHeap → Option α), scK ((k : Int) == 0) false (c1 (R E 17 [.c (.int .u64 ((2 ^ k - 1 : Nat) : Int)), .c (.int .i64 (E.glob.wrap .i64 ((k : Int) - 1)))] h) fun y h' => asB y fun b => some (b, h')) true h f = f true h := by
    intro α f
    by_cases hk0 : k = 0
    · subst hk0; rfl
    · have hne : ((k : Int) == 0) = false := by rw [beq_eq_false_iff_ne]; omega
      rw [hne, g_wrap_i64 (by omega) (by omega), show ((k : Int) - 1) = ((k - 1 : Nat) : Int) by omega, Has_R hE.c17 hu, c1_ok, asB_ok, scK_ok, bind_ok, hasI_nat (by omega), Nat.testBit_two_pow_sub_one]
      rw [show decide (k - 1 < k) = true by simp; omega]
  rw [Len_R hE.c56 hu, c1_ok, asI_ok, pc_upto k hk64, show (((k : Nat) : Int) == ((k : Nat) : Int)) = true from beq_self_eq_true _, scK_ok, hlast, bind_ok]
  dsimp only
  rw [scK_ok, Has_R hE.c17 hu, c1_ok, asB_ok, e4, bind_ok]
  dsimp only
  rw [show (!false) = true from rfl, g_band63, hm, scK_ok, With_R hE.c18 hs, c1_ok, asI_ok, Without_R hE.c63 h1, c1_ok, asI_ok, Without_R hE.c63 hs, c1_ok, asI_ok, bind_ok, e1]
  dsimp only
  rw [beq_self_eq_true, scK_ok, Without_R hE.c63 hs, c1_ok, asI_ok, With_R hE.c18 h2, c1_ok, asI_ok, With_R hE.c18 hs, c1_ok, asI_ok, bind_ok, e2]
  dsimp only
  rw [beq_self_eq_true, scK_ok, With_R hE.c18 hs, c1_ok, asI_ok, Has_R hE.c17 h1, c1_ok, asB_ok, bind_ok, e3]
  dsimp only
  obtain ⟨x, h', hL, ho, hk⟩ := List_R hE.c32 ht hs h
  have hat : SlAt h' x 1 (intC .i64 ((bitsL s).map fun (n : Nat) => (n : Int))) ((bitsL s).map fun (n : Nat) => (n : Int)).length := by
    rw [List.length_map]; exact ho.at
  have hl : ((bitsL s).map fun (n : Nat) => (n : Int)).length < 9223372036854775807 := by
    rw [List.length_map, ← pc_bitsL]; have := pc_le64 s; omega
  rw [scK_ok, hL, c1_ok, asC_ok, OfS_R hE.c65 hat hl, c1_ok, asI_ok, bind_ok, of_bitsL hs]
  dsimp only
  rw [beq_self_eq_true, scK_ok, awake7_R hE.c62 ht, c1_ok, asB_ok, bind_ok]
  exact ⟨_, rfl⟩

theorem SetUptos_law (ht : TabOk E) (hE : jacquardlaw7_SetUptos_In E) {h : AHeap} {c0 c1 c2 : List Cell} (o0 : okC h (.i .i64) c0) (o1 : okC h (.i .u64) c1) (o2 : okC h (.i .i64) c2) :
    ∃ h', R E 237 [av1 (.i .i64) c0, av1 (.i .u64) c1, av1 (.i .i64) c2] h = some ([.c (.bool true)], h') := by
  obtain ⟨a0, e0, _⟩ := arg_int o0
  obtain ⟨s, e1, hs⟩ := arg_u64 o1
  obtain ⟨a2, e2, _⟩ := arg_int o2
  rw [e0, e1, e2]
  exact SetUptos_R hE ht a0 hs a2 h

theorem bits_rise (s : Nat) {i a b : Nat} (ha : (bitsL s)[i]? = some a) (hb : (bitsL s)[i + 1]? = some b) : a < b := by
  have hp : (bitsL s).Pairwise (· < ·) := List.Pairwise.filter _ List.pairwise_lt_range
  obtain ⟨h1, rfl⟩ := List.getElem?_eq_some_iff.1 ha
  obtain ⟨h2, rfl⟩ := List.getElem?_eq_some_iff.1 hb
  exact List.pairwise_iff_getElem.1 hp i (i + 1) h1 h2 (by omega)

theorem SetAlgebra_R (hE : jacquardlaw7_SetAlgebra_In E) (ht : TabOk E) {a b : Nat} (ha : a < 2 ^ 64) (hb : b < 2 ^ 64) (i : Int) (h : AHeap) :
    ∃ h', R E 235 [.c (.int .u64 a), .c (.int .u64 b), .c (.int .i64 i)] h = some ([.c (.bool true)], h') := by
  suffices hsf : ∃ h', jacquardlaw7_SetAlgebra.body (R E) Lim E.glob [.c (.int .u64 a), .c (.int .u64 b), .c (.int .i64 i)] h = some ([.c (.bool true)], h') by
    obtain ⟨h', hh⟩ := hsf; exact ⟨h', R_intro hE.fn hh⟩
  obtain ⟨x, h', hL, ho, hk⟩ := List_R hE.c32 ht ha h
  rw [jacquardlaw7_SetAlgebra_eq, hL, c1_ok, asC_ok]
  have hlen : (bitsL a).length ≤ 64 := by rw [← pc_bitsL]; exact pc_le64 a
  have loop : Lim (jacquardlaw7_SetAlgebra_F1 (R E) Lim E.glob) (jacquardlaw7_SetAlgebra_s1 i a b ((((bitsL a).take 0).filter fun k => b.testBit k).length : Nat) x ((0 : Nat) : Int) h') = some (.exit 0, jacquardlaw7_SetAlgebra_x1_1 i a b ((((bitsL a).take (bitsL a).length).filter fun k => b.testBit k).length : Nat) h') := by
    refine Lim_count (fun k => jacquardlaw7_SetAlgebra_s1 i a b ((((bitsL a).take k).filter fun k => b.testBit k).length : Nat) x (k : Int) h') 0 (bitsL a).length (by omega) (fun k _ hk2 => ?_) (Lim_exit ?_)
    · obtain ⟨m, hm⟩ : ∃ m, (bitsL a)[k]? = some m := ⟨(bitsL a)[k], by simp⟩
      obtain ⟨hm64, hbit⟩ := mem_bitsL.1 (List.mem_of_getElem? hm)
      have hfl : (((bitsL a).take k).filter fun k => b.testBit k).length ≤ 64 := Nat.le_trans (List.length_filter_le _ _) (by simp; omega)
      have hfirst : ∀ {α : Type} (f : Bool → AHeap → Option α), (scK (decide ((k : Int) > 0)) true (idxSK 1 x (k : Int) fun kk N o => rdH h' kk N fun l => atK l o fun q => asI .i64 (.c q) fun n_10 => idxSK 1 x (E.glob.wrap .i64 ((k : Int) - 1)) fun kk N o => rdH h' kk N fun l => atK l o fun q => asI .i64 (.c q) fun n_16 => some ((decide (n_10 ≤ n_16)), h')) false h' f) = f false h' := by
        intro α f
        cases k with
        | zero => rfl
        | succ k =>
          obtain ⟨m0, hm0⟩ : ∃ m, (bitsL a)[k]? = some m := ⟨(bitsL a)[k], by simp⟩
          have hr := bits_rise a hm0 hm
          rw [show decide (((k + 1 : Nat) : Int) > 0) = true by rw [decide_eq_true_eq]; omega, scK_ok, ho.at.get1 hk2 (natC_get hm), asI_ok, ho.at.getAt k (by rw [g_wrap_i64 (by omega) (by omega)]; omega) (by omega) (natC_get hm0), asI_ok, bind_ok]
          rw [show decide (((m : Nat) : Int) ≤ ((m0 : Nat) : Int)) = false by rw [decide_eq_false_iff_not]; omega]
      rw [jacquardlaw7_SetAlgebra_r1, ho.at.len, if_pos (by simp; omega), hfirst, scK_ok, ho.at.get1 hk2 (natC_get hm), asI_ok, Has_R hE.c17 ha, qh_ok, c1_ok, asB_ok, hasI_nat hm64, hbit, bind_ok]
      simp only [Bool.not_true, Bool.false_eq_true, if_false]
      rw [ho.at.get1 hk2 (natC_get hm), asI_ok, Has_R hE.c17 hb, c1_ok, asB_ok, hasI_nat hm64, List.take_add_one, hm, show (some m).toList = [m] from rfl, List.filter_append, List.length_append, List.filter_cons, List.filter_nil, g_succ (by omega)]
      cases b.testBit m with
      | true => simp only [if_true]; rw [g_succ (by omega)]; rfl
      | false => simp only [Bool.false_eq_true, if_false]; rw [g_succ (by omega)]; rfl
    · rw [jacquardlaw7_SetAlgebra_r1, ho.at.len, if_neg (by simp)]
  have hcount : (((bitsL a).take (bitsL a).length).filter fun k => b.testBit k).length = pc (a &&& b) := by
    rw [List.take_length, pc_bitsL, bitsL, bitsL, List.filter_filter]
    congr 2
    funext k; rw [Nat.testBit_and, Bool.and_comm]
  rw [hcount] at loop
  have l1 := pc_le64 a
  have l2 := pc_le64 b
  have q1 := pc_or a b
  have q2 := pc_ndiff a b
  have q3 := pc_with a i
  have l3 := pc_le64 (a ||| bitI i)
  rw [show jacquardlaw7_SetAlgebra_s1 i a b 0 x 0 h' = jacquardlaw7_SetAlgebra_s1 i a b ((((bitsL a).take 0).filter fun k => b.testBit k).length : Nat) x ((0 : Nat) : Int) h' from rfl, loop, bind_ok, jacquardlaw7_SetAlgebra_e1_1]
  have g1 : E.glob.wrap .i64 (E.glob.wrap .i64 (((pc a : Nat) : Int) + ((pc b : Nat) : Int)) - ((pc (a &&& b) : Nat) : Int)) = ((pc (a ||| b) : Nat) : Int) := by
    rw [g_wrap_i64 (x := ((pc a : Nat) : Int) + ((pc b : Nat) : Int)) (by omega) (by omega), g_wrap_i64 (by omega) (by omega)]; omega
  have g2 : E.glob.wrap .i64 (((pc a : Nat) : Int) - ((pc (a &&& b) : Nat) : Int)) = ((pc (ndiff a b) : Nat) : Int) := by
    rw [g_wrap_i64 (by omega) (by omega)]; omega
  have g3 : E.glob.wrap .i64 (((pc (a ||| bitI i) : Nat) : Int) - ((pc (ndiff a (bitI i)) : Nat) : Int)) = (if 0 ≤ i ∧ i < 64 then 1 else 0) := by
    rw [g_wrap_i64 (by omega) (by omega), q3]; split <;> omega
  rw [g_bor ha hb, Len_R hE.c56 (or_lt ha hb), c1_ok, asI_ok, Len_R hE.c56 ha, c1_ok, asI_ok, Len_R hE.c56 hb, c1_ok, asI_ok]
  simp only [g1]
  rw [beq_self_eq_true, scK_ok, g_band ha hb, Len_R hE.c56 (and_lt ha), c1_ok, asI_ok, bind_ok]
  dsimp only
  rw [beq_self_eq_true, scK_ok, g_bandNot ha hb, Len_R hE.c56 (ndiff_lt ha), c1_ok, asI_ok, Len_R hE.c56 ha, c1_ok, asI_ok, bind_ok, g2]
  dsimp only
  rw [beq_self_eq_true, scK_ok, With_R hE.c18 ha, c1_ok, asI_ok, Len_R hE.c56 (or_lt ha (bitI_lt _)), c1_ok, asI_ok, Without_R hE.c63 ha, c1_ok, asI_ok, Len_R hE.c56 (ndiff_lt ha), c1_ok, asI_ok, in7_R hE.c64, c1_ok, asI_ok, bind_ok, g3]
  dsimp only
  rw [beq_self_eq_true, scK_ok, awake7_R hE.c62 ht, c1_ok, asB_ok, bind_ok]
  exact ⟨_, rfl⟩

theorem SetAlgebra_law (ht : TabOk E) (hE : jacquardlaw7_SetAlgebra_In E) {h : AHeap} {c0 c1 c2 : List Cell} (o0 : okC h (.i .u64) c0) (o1 : okC h (.i .u64) c1) (o2 : okC h (.i .i64) c2) :
    ∃ h', R E 235 [av1 (.i .u64) c0, av1 (.i .u64) c1, av1 (.i .i64) c2] h = some ([.c (.bool true)], h') := by
  obtain ⟨a, e0, ha⟩ := arg_u64 o0
  obtain ⟨b, e1, hb⟩ := arg_u64 o1
  obtain ⟨i, e2, _⟩ := arg_int o2
  rw [e0, e1, e2]
  exact SetAlgebra_R hE ht ha hb i h

end Jq

/- SetTells: a set has the numbers that were put, each once, without those that were taken away. -/
namespace Jq
open Go

variable {E : Env}

/-- The numbers below i. -/
def below (s i : Nat) : List Nat := (List.range i).filter fun k => s.testBit k

theorem below_succ (s i : Nat) : below s (i + 1) = below s i ++ if s.testBit i then [i] else [] := by
  unfold below
  rw [List.range_succ, List.filter_append]
  congr 1
  rw [List.filter_cons, List.filter_nil]

theorem below_le (s i : Nat) : (below s i).length ≤ i := by unfold below; exact Nat.le_trans (List.length_filter_le _ _) (by simp)

theorem bits_at {s i : Nat} (hi : i < 64) (hb : s.testBit i = true) : (bitsL s)[(below s i).length]? = some i := by
  have hr : List.range 64 = List.range i ++ i :: List.range' (i + 1) (64 - (i + 1)) := by
    rw [List.range_eq_range', List.range_eq_range']
    have : (64 : Nat) = i + (1 + (64 - (i + 1))) := by omega
    conv => lhs; rw [this]
    rw [List.range'_append_1.symm, Nat.zero_add, Nat.add_comm 1, List.range'_succ]
  unfold bitsL below
  rw [hr, List.filter_append, List.filter_cons, if_pos hb, List.getElem?_append_right (Nat.le_refl _)]
  simp

/-- The first number below i; none: less than nought. -/
def firstB (s i : Nat) : Int := match below s i with | [] => -1 | k :: _ => (k : Int)

theorem firstB_succ (s i : Nat) : firstB s (i + 1) = if s.testBit i then (if firstB s i < 0 then (i : Int) else firstB s i) else firstB s i := by
  unfold firstB
  rw [below_succ]
  cases h : below s i with
  | nil => cases s.testBit i <;> rfl
  | cons k l =>
    cases s.testBit i with
    | false => simp
    | true =>
      simp only [List.cons_append, if_true]
      rw [if_neg (by omega)]

theorem firstB_all {s : Nat} (hs : s < 2 ^ 64) : firstB s 64 = firstI s := by
  unfold firstB firstI
  show (match bitsL s with | [] => (-1 : Int) | k :: _ => (k : Int)) = _
  by_cases h0 : s = 0
  · subst h0; rw [bitsL_zero]; rfl
  · rw [bitsL_cons hs h0, if_neg h0]

/-- What was put, what was taken away. -/
def wantS (l : List Int) (a b : Int) : Nat := ndiff (ofL l ||| bitI a) (bitI b)

theorem wantS_lt (l : List Int) (a b : Int) : wantS l a b < 2 ^ 64 := ndiff_lt (or_lt (ofL_lt l) (bitI_lt a))

theorem SetTells_R (hE : jacquardlaw7_SetTells_In E) (ht : TabOk E) {x : Cell} {l : List Int} (a b : Int) {h : AHeap} (hx : SlAt h x 1 (intC .i64 l) l.length) :
    ∃ h', R E 236 [.c x, .c (.int .i64 a), .c (.int .i64 b)] h = some ([.c (.bool true)], h') := by
  suffices hsf : ∃ h', jacquardlaw7_SetTells.body (R E) Lim E.glob [.c x, .c (.int .i64 a), .c (.int .i64 b)] h = some ([.c (.bool true)], h') by
    obtain ⟨h', hh⟩ := hsf; exact ⟨h', R_intro hE.fn hh⟩
  rw [jacquardlaw7_SetTells_eq, hx.len]
  by_cases hbig : l.length > 200
  · rw [if_pos (by simp; omega), awake7_R hE.c62 ht, c1_ok, asB_ok]; exact ⟨_, rfl⟩
  rw [if_neg (by simp; omega), boolL_false]
  have loop : Lim (jacquardlaw7_SetTells_F1 (R E) Lim E.glob) (jacquardlaw7_SetTells_s1 x a b ((0 : Nat) : Int) (boolL (fun j => (ofL (l.take 0)).testBit j) 64) h) = some (.exit 0, jacquardlaw7_SetTells_x1_1 x a b (boolL (fun j => (ofL (l.take l.length)).testBit j) 64) h) := by
    refine Lim_count (fun i => jacquardlaw7_SetTells_s1 x a b (i : Int) (boolL (fun j => (ofL (l.take i)).testBit j) 64) h) 0 l.length (by omega) (fun i _ hi => ?_) (Lim_exit ?_)
    · obtain ⟨n, hn⟩ : ∃ n, l[i]? = some n := ⟨l[i], by simp⟩
      rw [jacquardlaw7_SetTells_r1, hx.len, if_pos (by simp; omega), hx.get1 hi (intC_get hn), asI_ok, hx.get1 hi (intC_get hn), asI_ok, scK_and, List.take_add_one, hn, show (some n).toList = [n] from rfl, ofL_snoc]
      by_cases hr : 0 ≤ n ∧ n < 64
      · rw [show (decide (n ≥ 0) && decide (n < 64)) = true by simp; omega]
        simp only [if_true]
        rw [hx.get1 hi (intC_get hn), asI_ok, if_pos ⟨hr.1, by omega⟩, if_pos (by rw [boolL_len]; omega), show 0 + n.toNat * 1 = n.toNat by omega, boolL_set, g_succ (by omega)]
        congr 3
        refine boolL_congr fun j hj => ?_
        rw [Nat.testBit_or, testBit_bitI]
        by_cases hjn : j = n.toNat
        · rw [if_pos hjn, show decide (n = (j : Int)) = true by simp; omega, show decide (j < 64) = true by simp; omega]; simp
        · rw [if_neg hjn, show decide (n = (j : Int)) = false by simp; omega]; simp
      · rw [show (decide (n ≥ 0) && decide (n < 64)) = false by simp; omega]
        simp only [Bool.false_eq_true, if_false]
        have : bitI n = 0 := by unfold bitI; rw [if_neg hr]
        rw [this, Nat.or_zero, g_succ (by omega)]
    · rw [jacquardlaw7_SetTells_r1, hx.len, if_neg (by simp)]
  rw [List.take_length] at loop
  have hz : boolL (fun _ => false) 64 = boolL (fun j => (ofL (l.take 0)).testBit j) 64 := boolL_congr fun j _ => by rw [List.take_zero]; exact (Nat.zero_testBit j).symm
  rw [hz, show jacquardlaw7_SetTells_s1 x a b 0 (boolL (fun j => (ofL (l.take 0)).testBit j) 64) h = jacquardlaw7_SetTells_s1 x a b ((0 : Nat) : Int) (boolL (fun j => (ofL (l.take 0)).testBit j) 64) h from rfl, loop, bind_ok, jacquardlaw7_SetTells_e1_1,
    OfS_R hE.c65 hx (by omega), c1_ok, asI_ok, With_R hE.c18 (ofL_lt l), c1_ok, asI_ok, Without_R hE.c63 (or_lt (ofL_lt l) (bitI_lt a)), c1_ok, asI_ok, scK_and]
  -- a put
  have mark : ∀ (s : Nat) (n : Int) (v : Bool), s < 2 ^ 64 → 0 ≤ n ∧ n < 64 → (boolL (fun j => s.testBit j) 64).set (0 + n.toNat * 1) (.bool v) = boolL (fun j => (if v then s ||| bitI n else ndiff s (bitI n)).testBit j) 64 := by
    intro s n v _ hn
    rw [show 0 + n.toNat * 1 = n.toNat by omega, boolL_set]
    refine boolL_congr fun j hj => ?_
    cases v with
    | true =>
      simp only [if_true]
      rw [Nat.testBit_or, testBit_bitI]
      by_cases hjn : j = n.toNat
      · rw [if_pos hjn, show decide (n = (j : Int)) = true by simp; omega, show decide (j < 64) = true by simp; omega]; simp
      · rw [if_neg hjn, show decide (n = (j : Int)) = false by simp; omega]; simp
    | false =>
      simp only [Bool.false_eq_true, if_false]
      rw [testBit_ndiff, testBit_bitI]
      by_cases hjn : j = n.toNat
      · rw [if_pos hjn, show decide (n = (j : Int)) = true by simp; omega, show decide (j < 64) = true by simp; omega]; simp
      · rw [if_neg hjn, show decide (n = (j : Int)) = false by simp; omega]; simp
  have noBit : ∀ n : Int, ¬ (0 ≤ n ∧ n < 64) → bitI n = 0 := fun n hn => by unfold bitI; rw [if_neg hn]
  have nd0 : ∀ s, ndiff s 0 = s := fun s => by unfold ndiff; simp
  suffices hrest : ∃ h', (jacquardlaw7_SetTells_k5 (R E) Lim E.glob h) .normal (jacquardlaw7_SetTells_c2 (wantS l a b : Nat) (boolL (fun j => (wantS l a b).testBit j) 64) h) = some ([.c (.bool true)], h') by
    have step2 : ∃ h', (jacquardlaw7_SetTells_k4 (R E) Lim E.glob h) .normal (jacquardlaw7_SetTells_c1 b (wantS l a b : Nat) (boolL (fun j => (ofL l ||| bitI a).testBit j) 64) h) = some ([.c (.bool true)], h') := by
      rw [jacquardlaw7_SetTells_ec1_n, scK_and]
      by_cases hb : 0 ≤ b ∧ b < 64
      · rw [show (decide (b ≥ 0) && decide (b < 64)) = true by simp; omega]
        simp only [if_true]
        rw [if_pos ⟨hb.1, by omega⟩, if_pos (by rw [boolL_len]; omega), mark _ b false (or_lt (ofL_lt l) (bitI_lt a)) hb, bind_ok]
        exact hrest
      · rw [show (decide (b ≥ 0) && decide (b < 64)) = false by simp; omega]
        simp only [Bool.false_eq_true, if_false]
        rw [bind_ok]
        have : wantS l a b = ofL l ||| bitI a := by unfold wantS; rw [noBit b hb, nd0]
        rw [← this]; exact hrest
    by_cases ha : 0 ≤ a ∧ a < 64
    · rw [show (decide (a ≥ 0) && decide (a < 64)) = true by simp; omega]
      simp only [if_true]
      rw [if_pos ⟨ha.1, by omega⟩, if_pos (by rw [boolL_len]; omega), mark _ a true (ofL_lt l) ha, bind_ok]
      exact step2
    · rw [show (decide (a ≥ 0) && decide (a < 64)) = false by simp; omega]
      simp only [Bool.false_eq_true, if_false]
      rw [bind_ok]
      have : ofL l ||| bitI a = ofL l := by rw [noBit a ha, Nat.or_zero]
      rw [this] at step2; exact step2
  have hs := wantS_lt l a b
  generalize wantS l a b = s at hs
  obtain ⟨y, h', hL, ho, hk⟩ := List_R hE.c32 ht hs h
  rw [jacquardlaw7_SetTells_ec2_n, hL, c1_ok, asC_ok]
  have loop2 : Lim (jacquardlaw7_SetTells_F2 (R E) Lim E.glob) (jacquardlaw7_SetTells_s2 s ((below s 0).length : Nat) (firstB s 0) y ((0 : Nat) : Int) (boolL (fun j => s.testBit j) 64) h') = some (.exit 2, jacquardlaw7_SetTells_x2_3 s ((below s 64).length : Nat) (firstB s 64) y h') := by
    refine Lim_count (fun i => jacquardlaw7_SetTells_s2 s ((below s i).length : Nat) (firstB s i) y (i : Int) (boolL (fun j => s.testBit j) 64) h') 0 64 (by omega) (fun i _ hi => ?_) (Lim_exit ?_)
    · have q1 : 0 ≤ (i : Int) ∧ (i : Int) < ((64 : Nat) : Int) := by omega
      have hbl := below_le s i
      rw [jacquardlaw7_SetTells_r2, if_pos (by simp; omega), Has_R hE.c17 hs, qh_ok, c1_ok, asB_ok, if_pos q1, show 0 + (i : Int).toNat * 1 = i by omega, atK_ok (boolL_get hi), asB_ok, hasI_nat hi]
      rw [show (!(s.testBit i == s.testBit i)) = false by simp]
      simp only [Bool.false_eq_true, if_false]
      rw [if_pos q1, atK_ok (boolL_get hi), asB_ok, firstB_succ, below_succ]
      cases hb : s.testBit i with
      | true =>
        simp only [if_true]
        have hat := bits_at hi hb
        have hlt : (below s i).length < (bitsL s).length := (List.getElem?_eq_some_iff.1 hat).1
        rw [ho.at.len, show decide (((below s i).length : Int) ≥ ((bitsL s).length : Int)) = false by rw [decide_eq_false_iff_not]; omega, scK_ok, ho.at.get1 hlt (natC_get hat), asI_ok, bind_ok]
        dsimp only
        rw [show (((i : Nat) : Int) != ((i : Nat) : Int)) = false by simp]
        simp only [Bool.false_eq_true, if_false]
        rw [List.length_append, g_succ (by omega), g_succ (by omega)]
        by_cases hf : firstB s i < 0
        · rw [if_pos (by simpa using hf), if_pos hf]; rfl
        · rw [if_neg (by simpa using hf), if_neg hf]; rfl
      | false =>
        simp only [Bool.false_eq_true, if_false]
        rw [List.append_nil, g_succ (by omega)]
    · rw [jacquardlaw7_SetTells_r2, if_neg (by simp)]
  rw [show jacquardlaw7_SetTells_s2 s 0 (-1) y 0 (boolL (fun j => s.testBit j) 64) h' = jacquardlaw7_SetTells_s2 s ((below s 0).length : Nat) (firstB s 0) y ((0 : Nat) : Int) (boolL (fun j => s.testBit j) 64) h' from rfl, loop2, bind_ok, jacquardlaw7_SetTells_e2_3]
  have hb64 : below s 64 = bitsL s := rfl
  rw [Len_R hE.c56 hs, c1_ok, asI_ok, hb64, pc_bitsL, beq_self_eq_true, scK_ok, ho.at.len, bind_ok, beq_self_eq_true]
  dsimp only
  rw [scK_ok, First_R hE.c38 ht hs, c1_ok, asI_ok, bind_ok, firstB_all hs, beq_self_eq_true]
  dsimp only
  rw [scK_ok, Has_R hE.c17 hs, c1_ok, asB_ok, bind_ok, show hasI s (-1) = false by unfold hasI; simp]
  dsimp only
  rw [show (!false) = true from rfl, scK_ok, Has_R hE.c17 hs, c1_ok, asB_ok, bind_ok, show hasI s 64 = false by unfold hasI; simp]
  dsimp only
  rw [show (!false) = true from rfl, scK_ok, awake7_R hE.c62 ht, c1_ok, asB_ok, bind_ok]
  exact ⟨_, rfl⟩

theorem SetTells_law (ht : TabOk E) (hE : jacquardlaw7_SetTells_In E) {h : AHeap} {c0 c1 c2 : List Cell} (o0 : okC h (.sl (.i .i64)) c0) (o1 : okC h (.i .i64) c1) (o2 : okC h (.i .i64) c2) :
    ∃ h', R E 236 [av1 (.sl (.i .i64)) c0, av1 (.i .i64) c1, av1 (.i .i64) c2] h = some ([.c (.bool true)], h') := by
  obtain ⟨x, l, e0, hx, _⟩ := arg_ints o0
  obtain ⟨a, e1, _⟩ := arg_int o1
  obtain ⟨b, e2, _⟩ := arg_int o2
  rw [e0, e1, e2]
  exact SetTells_R hE ht a b hx

end Jq

/- SetTells: whatever the input the call says true, and each argument reads behind it as before. No conditions. -/
namespace Go.Proofs.YtkdicbhkkancoaaDoor.LSetTells
open Go Jq Go.ChangeShapes Go.WideShapes Go.ChangeAt Go.RowKit
set_option linter.unusedVariables false

theorem own : ownKnob Tryd.prog.godebug = none := by kernel_rfl
theorem laidOut : laidOutB Tryd.prog = true := by kernel_rfl

theorem gN : Tryd.prog.globalNamed "math/bits.deBruijn64tab" = some 0 := by kernel_rfl
theorem met (os : Os) (args : Array Value) : laidMetH Tryd.prog Rows.setTellsRow.laid ((World.doorLaid Tryd.prog 400 os).forCall (fun _ _ => 0) ⟨#[], args, []⟩).memory :=
  laidMetH_of_parts3 (fuel := 8) (laidMet_of_run' 8 (by kernel_rfl) (by kernel_rfl)) (by kernel_rfl) (by kernel_rfl)
theorem of_laid {W : World} (h : laidMetH Tryd.prog Rows.setTellsRow.laid W) : ∀ i, i < deB.length → W.cell? ⟨0, i, none⟩ = some (.int .u8 (deB.getD i 0)) := by
  rw [MakeChecks.laidMetH_plain _ _ _ (by kernel_rfl)] at h
  have hT := Lib.tabIs_of_head (zs := deB) (n := 64) gN (t := 70) (by kernel_rfl) (e := 5) (by kernel_rfl) (by kernel_rfl) (by kernel_rfl) (by kernel_rfl) h
  exact fun i hi => hT.cell gN i hi

set_option maxRecDepth 100000 in
theorem lifted (os : Os) (started : os.Started) (H : Type) (enc : TypeId × Value → H) :
    ReturnsInHanded {} Tryd.checked os 7 .any (fun w args => (Rows.setTellsSpec.pre enc Tryd.prog Tryd.f7 [] false w args ∧ laidMetH Tryd.prog Rows.setTellsRow.laid w) ∧ sizedMet enc Tryd.prog Tryd.f7 (OpenSpec.ofChange Rows.setTellsSpec) false w args) (Rows.setTellsSpec.post enc Tryd.prog Tryd.f7 false true false false) := by
  refine returnsInHanded_of_change_and (C := Tryd.checked) (X := fun w _ => laidMetH Tryd.prog Rows.setTellsRow.laid w) (fun _ _ _ hh h => h.of_heap hh) own started (by kernel_rfl) Tryd.func7
    (ChangeSpec.witness_shaped (enc := enc) (C := Tryd.checked) (os := os) (X := fun w _ => laidMetH Tryd.prog Rows.setTellsRow.laid w) false (World.doorLaid Tryd.prog 400 os) #[.slice none 0 0, .int .i64 0, .int .i64 0] 8 rfl (World.shaped_of_RefB (by kernel_rfl) (by kernel_rfl)) (by kernel_rfl) (by kernel_rfl) (by kernel_rfl) (met os _)) ?_
  intro W base args ds gs before hval0 hW _ _ hL _
  have hval : ∀ (j : Nat) t v, Tryd.f7.params[j]? = some t → args[j]? = some v → Value.okWide Tryd.prog W .any base t v := hval0
  have hW' := hW
  obtain ⟨p, q, hA0, hV, rfl, hfz, hnd⟩ := hW
  have hA : DataW.TrodAll enc Tryd.prog W 0 (fun _ => true) true Tryd.f7.params.toList args.toList ds p := hA0
  rw [Tryd.params7] at hA hval
  obtain ⟨v0, vs0, d0, ds0, p0, q0, hargs, rfl, rfl, h0, r0⟩ := trodAll_cons hA
  obtain ⟨v1, vs1, d1, ds1, p1, q1, rfl, rfl, rfl, h1, r1⟩ := trodAll_cons r0
  obtain ⟨v2, vs2, d2, ds2, p2, q2, rfl, rfl, rfl, h2, r2⟩ := trodAll_cons r1
  obtain ⟨rfl, rfl, rfl⟩ := trodAll_nil r2
  obtain rfl : args = #[v0, v1, v2] := by cases args; simp_all
  obtain ⟨rfl, rfl⟩ := trodVars_none hV
  have lt0 : ∀ x ∈ p0, x.block < W.heap.size := by obtain ⟨m, hm⟩ := h0; exact DataW.trod_lt m _ _ _ hm
  have lt1 : ∀ x ∈ p1, x.block < W.heap.size := by obtain ⟨m, hm⟩ := h1; exact DataW.trod_lt m _ _ _ hm
  have lt2 : ∀ x ∈ p2, x.block < W.heap.size := by obtain ⟨m, hm⟩ := h2; exact DataW.trod_lt m _ _ _ hm
  have c := Come.tab1 (S := seat) (W := W) deB (fun _ => rfl) (of_laid hL)
  have k0 : ((.sl (.i .i64)) : Sh).chk seat.P 44 = true := by kernel_rfl
  obtain ⟨b0, ρ0, cs0, c0, e0, x0, a0, o0⟩ := opens_arg (S := seat) (W := W) (sh := (.sl (.i .i64))) k0 h0 (wide_of k0 (hval 0 44 v0 rfl rfl)) ⟨nofun, nofun⟩ c
  have k1 : ((.i .i64) : Sh).chk seat.P 3 = true := by kernel_rfl
  obtain ⟨b1, ρ1, cs1, c1, e1, x1, a1, o1⟩ := opens_arg (S := seat) (W := W) (sh := (.i .i64)) k1 h1 (wide_of k1 (hval 1 3 v1 rfl rfl)) ⟨nofun, nofun⟩ c0
  have k2 : ((.i .i64) : Sh).chk seat.P 3 = true := by kernel_rfl
  obtain ⟨b2, ρ2, cs2, c2, e2, x2, a2, o2⟩ := opens_arg (S := seat) (W := W) (sh := (.i .i64)) k2 h2 (wide_of k2 (hval 2 3 v2 rfl rfl)) ⟨nofun, nofun⟩ c1
  obtain ⟨h', hR⟩ := SetTells_law (E := env) tabOk in_236 (okC_mono x2 _ _ (okC_mono x1 _ _ o0)) (okC_mono x2 _ _ o1) o2
  refine (law_call (S := seat) (R_sound (S := seat) (E := env) rfl allOk) c2 (vals := #[v0, v1, v2]) (L2.cons (relA.mono e2 (relA.mono e1 a0)) (L2.cons (relA.mono e2 a1) (L2.cons a2 L2.nil))) hR).mono fun e W' ⟨he, bel⟩ => ?_
  subst he
  exact ⟨_, rfl, _, _, _, [], _, [], hW', trodAll_mk1 (shut_bool Tryd.underlying4 _), (trodAll_cons_mk (Below.trod laidOut (by kernel_rfl) (of_decide_eq_true (by kernel_rfl)) h0 bel lt0) (trodAll_cons_mk (Below.trod laidOut (by kernel_rfl) (of_decide_eq_true (by kernel_rfl)) h1 bel lt1) (trodAll_cons_mk (Below.trod laidOut (by kernel_rfl) (of_decide_eq_true (by kernel_rfl)) h2 bel lt2) trodAll_mk0))), rfl, bel.frame _, fun h => by cases h⟩

theorem over : Rows.setTellsRow.holds Tryd.pinned (OpenSpec.ofChange Rows.setTellsSpec) :=
  OpenClaim.holds_of_wide 7 Tryd.f7 rfl rfl rfl rfl rfl rfl rfl ⟨rfl, rfl, rfl, rfl, rfl⟩ rfl rfl rfl rfl rfl (by kernel_rfl) Tryd.func7 (by kernel_rfl)
    (of_decide_eq_true (by kernel_rfl)) (by unfold Func.isWrapper; first | (rw [if_pos (by decide +kernel)]; kernel_rfl) | (rw [if_neg (by decide +kernel)]; exact ⟨rfl, rfl⟩))
    (fun os started H enc _ => lifted os started H enc)

theorem proved : Rows.SetTellsCardSaid :=
  Claim7.holds_tied_plain_at .later [] [.data] true (true, "247157c4400f09dbf37c7c2675cf8478a89aff0d810297ef4dd9ce74afe5d438") false
    over (fun _ h => by cases h) (by kernel_rfl) (fun _ h => by cases h) setTells_row_tie rfl ⟨rfl, rfl⟩ (by kernel_rfl) rfl
    (fun f fn hf hfn => by
      obtain rfl : f = 7 := Option.some.inj ((show Tryd.prog.funcNamed "jacquard/jacquardlaw7.SetTells" = some 7 by kernel_rfl).symm.trans hf) |>.symm
      obtain rfl : fn = Tryd.f7 := (Option.some.inj (Tryd.func7.symm.trans hfn)).symm
      exact ⟨by kernel_rfl, fun j t ht => by
        rw [Tryd.params7] at ht
        have hm : t ∈ [44, 3, 3] := by simpa using Array.mem_of_getElem? ht
        have hall : ([44, 3, 3].all fun u => !Tryd.prog.wantsStandIn u) = true := by kernel_rfl
        exact (show Tryd.prog.wantsStandIn t = false by simpa using List.all_eq_true.1 hall t hm)⟩)
    (by kernel_rfl)
#print axioms proved

end Go.Proofs.YtkdicbhkkancoaaDoor.LSetTells

