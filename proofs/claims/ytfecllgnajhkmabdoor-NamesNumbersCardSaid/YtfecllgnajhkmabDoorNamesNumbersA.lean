/- YtfecllgnajhkmabDoorNamesNumbersA: a part of the proof; no conditions of its own. -/
import Derived.KernelRfl
import Derived.Lib.TrailingZeros
import Derived.Test.YtfecllgnajhkmabDoorRows
import Derived.Test.YtfecllgnajhkmabDoorCoreC
set_option linter.unusedVariables false
set_option linter.unusedSimpArgs false

namespace Jq
open Go

/- (jacquard/api.Errno).Error: 44 -/
def api_Errno_Error : Fn := { np := 1, nt := 6, ns := 0, res := [.t 2 .s], gc := false, code :=
  (.seq (.reg 0 false (.op (some 2) .mov [(.k (.c (.str (ByteArray.mk #[]))))]
    .nil))
  (.seq (.reg 1 false (.op (some 3) .mov [(.t 0)]
    (.op (some 4) (.call 45 [.s]) [(.t 3)]
    (.op (some 5) (.bin .add) [(.k (.c (.str (ByteArray.mk #[101, 114, 114, 111, 114, 32])))), (.t 4)]
    (.op (some 2) .mov [(.t 5)]
    .nil)))))
  .ret)) }


end Jq

namespace Jq
open Go

/- strconv.Itoa: 45 -/
def strconv_Itoa : Fn := { np := 1, nt := 5, ns := 0, res := [.t 2 .s], gc := false, code :=
  (.seq (.reg 0 false (.op (some 2) .mov [(.k (.c (.str (ByteArray.mk #[]))))]
    .nil))
  (.seq (.reg 1 false (.op (some 3) .mov [(.t 0)]
    (.op (some 4) (.call 46 [.s]) [(.t 3)]
    (.op (some 2) .mov [(.t 4)]
    .nil))))
  .ret)) }


end Jq

namespace Jq
open Go

/- internal/strconv.Itoa: 46 -/
def istrconv_Itoa : Fn := { np := 1, nt := 5, ns := 0, res := [.t 2 .s], gc := false, code :=
  (.seq (.reg 0 false (.op (some 2) .mov [(.k (.c (.str (ByteArray.mk #[]))))]
    .nil))
  (.seq (.reg 1 false (.op (some 3) .mov [(.t 0)]
    (.op (some 4) (.call 47 [.s]) [(.t 3), (.k (.c (.int .i64 10)))]
    (.op (some 2) .mov [(.t 4)]
    .nil))))
  .ret)) }

/- internal/strconv.FormatInt: 47 -/
def istrconv_FormatInt : Fn := { np := 2, nt := 54, ns := 0, res := [.t 4 .s], gc := true, code :=
  (.seq (.reg 0 false (.op (some 4) .mov [(.k (.c (.str (ByteArray.mk #[]))))]
    .nil))
  (.seq (.seq (.reg 1 false (.op (some 10) .mov [(.t 1)]
    (.op (some 11) (.bin .eql) [(.t 10), (.k (.c (.int .i64 10)))]
    .nil)))
  (.cond (.t 11)
  (.seq (.seq (.reg 2 false (.op (some 12) .mov [(.t 0)]
    (.op (some 13) (.bin .leq) [(.k (.c (.int .i64 0))), (.t 12)]
    (.op (some 14) .mov [(.t 13)]
    (.sc 14 true (.op (some 15) .mov [(.t 0)]
    (.op (some 16) (.bin .lss) [(.t 15), (.k (.c (.int .i64 100)))]
    .nil)) 16 17 false
    .nil)))))
  (.cond (.t 17)
  (.seq (.reg 3 false (.op (some 18) .mov [(.t 0)]
    (.op (some 19) (.call 48 [.s]) [(.t 18)]
    (.op (some 4) .mov [(.t 19)]
    .nil))))
  .ret)
  .skip))
  (.seq (.reg 4 false (.op (some 5) (.allocH (List.replicate 24 (Cell.int .u8 0))) []
    .nil))
  (.seq (.reg 5 false (.op (some 20) .mov [(.t 0)]
    (.op (some 21) (.conv .u64) [(.t 20)]
    (.op (some 6) .mov [(.t 21)]
    .nil))))
  (.seq (.seq (.reg 6 false (.op (some 22) .mov [(.t 0)]
    (.op (some 23) (.bin .lss) [(.t 22), (.k (.c (.int .i64 0)))]
    .nil)))
  (.cond (.t 23)
  (.reg 7 false (.op (some 24) .mov [(.t 6)]
    (.op (some 25) (.un .neg) [(.t 24)]
    (.op (some 6) .mov [(.t 25)]
    .nil))))
  .skip))
  (.seq (.reg 8 false (.op (some 26) .mov [(.t 6)]
    (.op (some 27) (.call 49 [(.i .i64)]) [(.t 26)]
    (.op (some 7) .mov [(.t 27)]
    .nil))))
  (.seq (.reg 9 false (.op (some 28) .mov [(.t 7)]
    (.op (some 29) (.bin .add) [(.k (.c (.int .i64 1))), (.t 28)]
    (.op (some 30) (.slcA 24 1 true true) [(.t 5), (.k (.c (.int .i64 1))), (.t 29)]
    (.op (some 31) .mov [(.t 6)]
    (.op (some 32) (.call 50 []) [(.t 30), (.t 31)]
    .nil))))))
  (.seq (.seq (.reg 10 false (.op (some 33) .mov [(.t 0)]
    (.op (some 34) (.bin .lss) [(.t 33), (.k (.c (.int .i64 0)))]
    .nil)))
  (.cond (.t 34)
  (.seq (.reg 11 false (.op (some 35) (.idxA 24 1) [(.t 5), (.k (.c (.int .i64 0)))]
    (.op none (.st .heap) [(.t 35), (.k (.c (.int .u8 45)))]
    .nil)))
  (.seq (.reg 12 false (.op (some 36) .mov [(.t 7)]
    (.op (some 37) (.bin .add) [(.k (.c (.int .i64 1))), (.t 36)]
    (.op (some 38) (.slcA 24 1 false true) [(.t 5), (.t 37)]
    (.op (some 39) .b2s [(.t 38)]
    (.op (some 4) .mov [(.t 39)]
    .nil))))))
  .ret))
  .skip))
  (.seq (.reg 13 false (.op (some 40) .mov [(.t 7)]
    (.op (some 41) (.bin .add) [(.k (.c (.int .i64 1))), (.t 40)]
    (.op (some 42) (.slcA 24 1 true true) [(.t 5), (.k (.c (.int .i64 1))), (.t 41)]
    (.op (some 43) .b2s [(.t 42)]
    (.op (some 4) .mov [(.t 43)]
    .nil))))))
  .ret))))))))
  .skip))
  (.seq (.reg 14 false (.op (some 45) .mov [(.t 0)]
    (.op (some 46) (.conv .u64) [(.t 45)]
    (.op (some 47) .mov [(.t 1)]
    (.op (some 48) .mov [(.t 0)]
    (.op (some 49) (.bin .lss) [(.t 48), (.k (.c (.int .i64 0)))]
    (.op (some 50) (.call 51 [.any, .s]) [(.k (.c .nils)), (.t 46), (.t 47), (.t 49), (.k (.c (.bool false)))]
    (.op (some 44) .mov [(.t 50)]
    (.op (some 51) (.ext 0) [(.t 44)]
    (.op (some 52) (.ext 1) [(.t 44)]
    (.op (some 8) .mov [(.t 51)]
    (.op (some 9) .mov [(.t 52)]
    .nil))))))))))))
  (.seq (.reg 15 false (.op (some 53) .mov [(.t 9)]
    (.op (some 4) .mov [(.t 53)]
    .nil)))
  .ret)))) }

/- internal/strconv.small: 48 -/
def istrconv_small : Fn := { np := 1, nt := 15, ns := 0, res := [.t 2 .s], gc := false, code :=
  (.seq (.reg 0 false (.op (some 2) .mov [(.k (.c (.str (ByteArray.mk #[]))))]
    .nil))
  (.seq (.seq (.reg 1 false (.op (some 3) .mov [(.t 0)]
    (.op (some 4) (.bin .lss) [(.t 3), (.k (.c (.int .i64 10)))]
    .nil)))
  (.cond (.t 4)
  (.seq (.reg 2 false (.op (some 5) .mov [(.t 0)]
    (.op (some 6) .mov [(.t 0)]
    (.op (some 7) (.bin .add) [(.t 6), (.k (.c (.int .i64 1)))]
    (.op (some 8) (.slcStr true true) [(.k (.c (.str (ByteArray.mk #[48, 49, 50, 51, 52, 53, 54, 55, 56, 57, 97, 98, 99, 100, 101, 102, 103, 104, 105, 106, 107, 108, 109, 110, 111, 112, 113, 114, 115, 116, 117, 118, 119, 120, 121, 122])))), (.t 5), (.t 7)]
    (.op (some 2) .mov [(.t 8)]
    .nil))))))
  .ret)
  .skip))
  (.seq (.reg 3 false (.op (some 9) .mov [(.t 0)]
    (.op (some 10) (.bin .mul) [(.t 9), (.k (.c (.int .i64 2)))]
    (.op (some 11) .mov [(.t 0)]
    (.op (some 12) (.bin .mul) [(.t 11), (.k (.c (.int .i64 2)))]
    (.op (some 13) (.bin .add) [(.t 12), (.k (.c (.int .i64 2)))]
    (.op (some 14) (.slcStr true true) [(.k (.c (.str (ByteArray.mk #[48, 48, 48, 49, 48, 50, 48, 51, 48, 52, 48, 53, 48, 54, 48, 55, 48, 56, 48, 57, 49, 48, 49, 49, 49, 50, 49, 51, 49, 52, 49, 53, 49, 54, 49, 55, 49, 56, 49, 57, 50, 48, 50, 49, 50, 50, 50, 51, 50, 52, 50, 53, 50, 54, 50, 55, 50, 56, 50, 57, 51, 48, 51, 49, 51, 50, 51, 51, 51, 52, 51, 53, 51, 54, 51, 55, 51, 56, 51, 57, 52, 48, 52, 49, 52, 50, 52, 51, 52, 52, 52, 53, 52, 54, 52, 55, 52, 56, 52, 57, 53, 48, 53, 49, 53, 50, 53, 51, 53, 52, 53, 53, 53, 54, 53, 55, 53, 56, 53, 57, 54, 48, 54, 49, 54, 50, 54, 51, 54, 52, 54, 53, 54, 54, 54, 55, 54, 56, 54, 57, 55, 48, 55, 49, 55, 50, 55, 51, 55, 52, 55, 53, 55, 54, 55, 55, 55, 56, 55, 57, 56, 48, 56, 49, 56, 50, 56, 51, 56, 52, 56, 53, 56, 54, 56, 55, 56, 56, 56, 57, 57, 48, 57, 49, 57, 50, 57, 51, 57, 52, 57, 53, 57, 54, 57, 55, 57, 56, 57, 57])))), (.t 10), (.t 13)]
    (.op (some 2) .mov [(.t 14)]
    .nil))))))))
  .ret))) }

/- internal/strconv.formatBase10: 50 -/
def istrconv_formatBase10_b1 : IC :=
  (.seq (.seq (.reg 1 false (.op (some 19) .mov [(.t 4)]
    (.op (some 20) (.bin .geq) [(.t 19), (.k (.c (.int .i64 8)))]
    .nil)))
  (.cond (.t 20)
  .skip
  (.exit 0)))
  (.blk 1 (.seq (.reg 2 false (.op (some 21) .mov [(.t 1)]
    (.op (some 22) (.bin .rem) [(.t 21), (.k (.c (.int .u64 100000000)))]
    (.op (some 23) (.conv .u32) [(.t 22)]
    (.op (some 5) .mov [(.t 23)]
    .nil)))))
  (.seq (.reg 3 false (.op (some 24) .mov [(.t 1)]
    (.op (some 25) (.bin .quo) [(.t 24), (.k (.c (.int .u64 100000000)))]
    (.op (some 1) .mov [(.t 25)]
    .nil))))
  (.seq (.reg 4 false (.op (some 26) .mov [(.t 5)]
    (.op (some 27) (.bin .quo) [(.t 26), (.k (.c (.int .u32 10000)))]
    (.op (some 28) .mov [(.t 5)]
    (.op (some 29) (.bin .rem) [(.t 28), (.k (.c (.int .u32 10000)))]
    (.op (some 6) .mov [(.t 27)]
    (.op (some 7) .mov [(.t 29)]
    .nil)))))))
  (.seq (.reg 5 false (.op (some 30) .mov [(.t 7)]
    (.op (some 31) (.bin .quo) [(.t 30), (.k (.c (.int .u32 100)))]
    (.op (some 32) (.bin .mul) [(.t 31), (.k (.c (.int .u32 2)))]
    (.op (some 33) .mov [(.t 7)]
    (.op (some 34) (.bin .rem) [(.t 33), (.k (.c (.int .u32 100)))]
    (.op (some 35) (.bin .mul) [(.t 34), (.k (.c (.int .u32 2)))]
    (.op (some 8) .mov [(.t 32)]
    (.op (some 9) .mov [(.t 35)]
    .nil)))))))))
  (.seq (.reg 6 false (.op (some 36) .mov [(.t 6)]
    (.op (some 37) (.bin .quo) [(.t 36), (.k (.c (.int .u32 100)))]
    (.op (some 38) (.bin .mul) [(.t 37), (.k (.c (.int .u32 2)))]
    (.op (some 39) .mov [(.t 6)]
    (.op (some 40) (.bin .rem) [(.t 39), (.k (.c (.int .u32 100)))]
    (.op (some 41) (.bin .mul) [(.t 40), (.k (.c (.int .u32 2)))]
    (.op (some 10) .mov [(.t 38)]
    (.op (some 11) .mov [(.t 41)]
    .nil)))))))))
  (.seq (.reg 7 true (.op (some 42) .mov [(.t 0)]
    (.op (some 43) .mov [(.t 4)]
    (.op (some 44) (.bin .sub) [(.t 43), (.k (.c (.int .i64 1)))]
    (.op (some 45) .mov [(.t 0)]
    (.op (some 46) .mov [(.t 4)]
    (.op (some 47) (.bin .sub) [(.t 46), (.k (.c (.int .i64 2)))]
    (.op (some 48) .mov [(.t 9)]
    (.op (some 49) (.bin .add) [(.t 48), (.k (.c (.int .u32 1)))]
    (.op (some 50) .idxStr [(.k (.c (.str (ByteArray.mk #[48, 48, 48, 49, 48, 50, 48, 51, 48, 52, 48, 53, 48, 54, 48, 55, 48, 56, 48, 57, 49, 48, 49, 49, 49, 50, 49, 51, 49, 52, 49, 53, 49, 54, 49, 55, 49, 56, 49, 57, 50, 48, 50, 49, 50, 50, 50, 51, 50, 52, 50, 53, 50, 54, 50, 55, 50, 56, 50, 57, 51, 48, 51, 49, 51, 50, 51, 51, 51, 52, 51, 53, 51, 54, 51, 55, 51, 56, 51, 57, 52, 48, 52, 49, 52, 50, 52, 51, 52, 52, 52, 53, 52, 54, 52, 55, 52, 56, 52, 57, 53, 48, 53, 49, 53, 50, 53, 51, 53, 52, 53, 53, 53, 54, 53, 55, 53, 56, 53, 57, 54, 48, 54, 49, 54, 50, 54, 51, 54, 52, 54, 53, 54, 54, 54, 55, 54, 56, 54, 57, 55, 48, 55, 49, 55, 50, 55, 51, 55, 52, 55, 53, 55, 54, 55, 55, 55, 56, 55, 57, 56, 48, 56, 49, 56, 50, 56, 51, 56, 52, 56, 53, 56, 54, 56, 55, 56, 56, 56, 57, 57, 48, 57, 49, 57, 50, 57, 51, 57, 52, 57, 53, 57, 54, 57, 55, 57, 56, 57, 57])))), (.t 49)]
    (.op (some 51) .mov [(.t 9)]
    (.op (some 52) .idxStr [(.k (.c (.str (ByteArray.mk #[48, 48, 48, 49, 48, 50, 48, 51, 48, 52, 48, 53, 48, 54, 48, 55, 48, 56, 48, 57, 49, 48, 49, 49, 49, 50, 49, 51, 49, 52, 49, 53, 49, 54, 49, 55, 49, 56, 49, 57, 50, 48, 50, 49, 50, 50, 50, 51, 50, 52, 50, 53, 50, 54, 50, 55, 50, 56, 50, 57, 51, 48, 51, 49, 51, 50, 51, 51, 51, 52, 51, 53, 51, 54, 51, 55, 51, 56, 51, 57, 52, 48, 52, 49, 52, 50, 52, 51, 52, 52, 52, 53, 52, 54, 52, 55, 52, 56, 52, 57, 53, 48, 53, 49, 53, 50, 53, 51, 53, 52, 53, 53, 53, 54, 53, 55, 53, 56, 53, 57, 54, 48, 54, 49, 54, 50, 54, 51, 54, 52, 54, 53, 54, 54, 54, 55, 54, 56, 54, 57, 55, 48, 55, 49, 55, 50, 55, 51, 55, 52, 55, 53, 55, 54, 55, 55, 55, 56, 55, 57, 56, 48, 56, 49, 56, 50, 56, 51, 56, 52, 56, 53, 56, 54, 56, 55, 56, 56, 56, 57, 57, 48, 57, 49, 57, 50, 57, 51, 57, 52, 57, 53, 57, 54, 57, 55, 57, 56, 57, 57])))), (.t 51)]
    (.op (some 53) (.idxS 1) [(.t 42), (.t 44)]
    (.op none (.st .heap) [(.t 53), (.t 50)]
    (.op (some 54) (.idxS 1) [(.t 45), (.t 47)]
    (.op none (.st .heap) [(.t 54), (.t 52)]
    .nil))))))))))))))))
  (.seq (.reg 8 true (.op (some 55) .mov [(.t 0)]
    (.op (some 56) .mov [(.t 4)]
    (.op (some 57) (.bin .sub) [(.t 56), (.k (.c (.int .i64 3)))]
    (.op (some 58) .mov [(.t 0)]
    (.op (some 59) .mov [(.t 4)]
    (.op (some 60) (.bin .sub) [(.t 59), (.k (.c (.int .i64 4)))]
    (.op (some 61) .mov [(.t 8)]
    (.op (some 62) (.bin .add) [(.t 61), (.k (.c (.int .u32 1)))]
    (.op (some 63) .idxStr [(.k (.c (.str (ByteArray.mk #[48, 48, 48, 49, 48, 50, 48, 51, 48, 52, 48, 53, 48, 54, 48, 55, 48, 56, 48, 57, 49, 48, 49, 49, 49, 50, 49, 51, 49, 52, 49, 53, 49, 54, 49, 55, 49, 56, 49, 57, 50, 48, 50, 49, 50, 50, 50, 51, 50, 52, 50, 53, 50, 54, 50, 55, 50, 56, 50, 57, 51, 48, 51, 49, 51, 50, 51, 51, 51, 52, 51, 53, 51, 54, 51, 55, 51, 56, 51, 57, 52, 48, 52, 49, 52, 50, 52, 51, 52, 52, 52, 53, 52, 54, 52, 55, 52, 56, 52, 57, 53, 48, 53, 49, 53, 50, 53, 51, 53, 52, 53, 53, 53, 54, 53, 55, 53, 56, 53, 57, 54, 48, 54, 49, 54, 50, 54, 51, 54, 52, 54, 53, 54, 54, 54, 55, 54, 56, 54, 57, 55, 48, 55, 49, 55, 50, 55, 51, 55, 52, 55, 53, 55, 54, 55, 55, 55, 56, 55, 57, 56, 48, 56, 49, 56, 50, 56, 51, 56, 52, 56, 53, 56, 54, 56, 55, 56, 56, 56, 57, 57, 48, 57, 49, 57, 50, 57, 51, 57, 52, 57, 53, 57, 54, 57, 55, 57, 56, 57, 57])))), (.t 62)]
    (.op (some 64) .mov [(.t 8)]
    (.op (some 65) .idxStr [(.k (.c (.str (ByteArray.mk #[48, 48, 48, 49, 48, 50, 48, 51, 48, 52, 48, 53, 48, 54, 48, 55, 48, 56, 48, 57, 49, 48, 49, 49, 49, 50, 49, 51, 49, 52, 49, 53, 49, 54, 49, 55, 49, 56, 49, 57, 50, 48, 50, 49, 50, 50, 50, 51, 50, 52, 50, 53, 50, 54, 50, 55, 50, 56, 50, 57, 51, 48, 51, 49, 51, 50, 51, 51, 51, 52, 51, 53, 51, 54, 51, 55, 51, 56, 51, 57, 52, 48, 52, 49, 52, 50, 52, 51, 52, 52, 52, 53, 52, 54, 52, 55, 52, 56, 52, 57, 53, 48, 53, 49, 53, 50, 53, 51, 53, 52, 53, 53, 53, 54, 53, 55, 53, 56, 53, 57, 54, 48, 54, 49, 54, 50, 54, 51, 54, 52, 54, 53, 54, 54, 54, 55, 54, 56, 54, 57, 55, 48, 55, 49, 55, 50, 55, 51, 55, 52, 55, 53, 55, 54, 55, 55, 55, 56, 55, 57, 56, 48, 56, 49, 56, 50, 56, 51, 56, 52, 56, 53, 56, 54, 56, 55, 56, 56, 56, 57, 57, 48, 57, 49, 57, 50, 57, 51, 57, 52, 57, 53, 57, 54, 57, 55, 57, 56, 57, 57])))), (.t 64)]
    (.op (some 66) (.idxS 1) [(.t 55), (.t 57)]
    (.op none (.st .heap) [(.t 66), (.t 63)]
    (.op (some 67) (.idxS 1) [(.t 58), (.t 60)]
    (.op none (.st .heap) [(.t 67), (.t 65)]
    .nil))))))))))))))))
  (.seq (.reg 9 true (.op (some 68) .mov [(.t 0)]
    (.op (some 69) .mov [(.t 4)]
    (.op (some 70) (.bin .sub) [(.t 69), (.k (.c (.int .i64 5)))]
    (.op (some 71) .mov [(.t 0)]
    (.op (some 72) .mov [(.t 4)]
    (.op (some 73) (.bin .sub) [(.t 72), (.k (.c (.int .i64 6)))]
    (.op (some 74) .mov [(.t 11)]
    (.op (some 75) (.bin .add) [(.t 74), (.k (.c (.int .u32 1)))]
    (.op (some 76) .idxStr [(.k (.c (.str (ByteArray.mk #[48, 48, 48, 49, 48, 50, 48, 51, 48, 52, 48, 53, 48, 54, 48, 55, 48, 56, 48, 57, 49, 48, 49, 49, 49, 50, 49, 51, 49, 52, 49, 53, 49, 54, 49, 55, 49, 56, 49, 57, 50, 48, 50, 49, 50, 50, 50, 51, 50, 52, 50, 53, 50, 54, 50, 55, 50, 56, 50, 57, 51, 48, 51, 49, 51, 50, 51, 51, 51, 52, 51, 53, 51, 54, 51, 55, 51, 56, 51, 57, 52, 48, 52, 49, 52, 50, 52, 51, 52, 52, 52, 53, 52, 54, 52, 55, 52, 56, 52, 57, 53, 48, 53, 49, 53, 50, 53, 51, 53, 52, 53, 53, 53, 54, 53, 55, 53, 56, 53, 57, 54, 48, 54, 49, 54, 50, 54, 51, 54, 52, 54, 53, 54, 54, 54, 55, 54, 56, 54, 57, 55, 48, 55, 49, 55, 50, 55, 51, 55, 52, 55, 53, 55, 54, 55, 55, 55, 56, 55, 57, 56, 48, 56, 49, 56, 50, 56, 51, 56, 52, 56, 53, 56, 54, 56, 55, 56, 56, 56, 57, 57, 48, 57, 49, 57, 50, 57, 51, 57, 52, 57, 53, 57, 54, 57, 55, 57, 56, 57, 57])))), (.t 75)]
    (.op (some 77) .mov [(.t 11)]
    (.op (some 78) .idxStr [(.k (.c (.str (ByteArray.mk #[48, 48, 48, 49, 48, 50, 48, 51, 48, 52, 48, 53, 48, 54, 48, 55, 48, 56, 48, 57, 49, 48, 49, 49, 49, 50, 49, 51, 49, 52, 49, 53, 49, 54, 49, 55, 49, 56, 49, 57, 50, 48, 50, 49, 50, 50, 50, 51, 50, 52, 50, 53, 50, 54, 50, 55, 50, 56, 50, 57, 51, 48, 51, 49, 51, 50, 51, 51, 51, 52, 51, 53, 51, 54, 51, 55, 51, 56, 51, 57, 52, 48, 52, 49, 52, 50, 52, 51, 52, 52, 52, 53, 52, 54, 52, 55, 52, 56, 52, 57, 53, 48, 53, 49, 53, 50, 53, 51, 53, 52, 53, 53, 53, 54, 53, 55, 53, 56, 53, 57, 54, 48, 54, 49, 54, 50, 54, 51, 54, 52, 54, 53, 54, 54, 54, 55, 54, 56, 54, 57, 55, 48, 55, 49, 55, 50, 55, 51, 55, 52, 55, 53, 55, 54, 55, 55, 55, 56, 55, 57, 56, 48, 56, 49, 56, 50, 56, 51, 56, 52, 56, 53, 56, 54, 56, 55, 56, 56, 56, 57, 57, 48, 57, 49, 57, 50, 57, 51, 57, 52, 57, 53, 57, 54, 57, 55, 57, 56, 57, 57])))), (.t 77)]
    (.op (some 79) (.idxS 1) [(.t 68), (.t 70)]
    (.op none (.st .heap) [(.t 79), (.t 76)]
    (.op (some 80) (.idxS 1) [(.t 71), (.t 73)]
    (.op none (.st .heap) [(.t 80), (.t 78)]
    .nil))))))))))))))))
  (.seq (.reg 10 true (.op (some 81) .mov [(.t 0)]
    (.op (some 82) .mov [(.t 4)]
    (.op (some 83) (.bin .sub) [(.t 82), (.k (.c (.int .i64 7)))]
    (.op (some 84) .mov [(.t 0)]
    (.op (some 85) .mov [(.t 4)]
    (.op (some 86) (.bin .sub) [(.t 85), (.k (.c (.int .i64 8)))]
    (.op (some 87) .mov [(.t 10)]
    (.op (some 88) (.bin .add) [(.t 87), (.k (.c (.int .u32 1)))]
    (.op (some 89) .idxStr [(.k (.c (.str (ByteArray.mk #[48, 48, 48, 49, 48, 50, 48, 51, 48, 52, 48, 53, 48, 54, 48, 55, 48, 56, 48, 57, 49, 48, 49, 49, 49, 50, 49, 51, 49, 52, 49, 53, 49, 54, 49, 55, 49, 56, 49, 57, 50, 48, 50, 49, 50, 50, 50, 51, 50, 52, 50, 53, 50, 54, 50, 55, 50, 56, 50, 57, 51, 48, 51, 49, 51, 50, 51, 51, 51, 52, 51, 53, 51, 54, 51, 55, 51, 56, 51, 57, 52, 48, 52, 49, 52, 50, 52, 51, 52, 52, 52, 53, 52, 54, 52, 55, 52, 56, 52, 57, 53, 48, 53, 49, 53, 50, 53, 51, 53, 52, 53, 53, 53, 54, 53, 55, 53, 56, 53, 57, 54, 48, 54, 49, 54, 50, 54, 51, 54, 52, 54, 53, 54, 54, 54, 55, 54, 56, 54, 57, 55, 48, 55, 49, 55, 50, 55, 51, 55, 52, 55, 53, 55, 54, 55, 55, 55, 56, 55, 57, 56, 48, 56, 49, 56, 50, 56, 51, 56, 52, 56, 53, 56, 54, 56, 55, 56, 56, 56, 57, 57, 48, 57, 49, 57, 50, 57, 51, 57, 52, 57, 53, 57, 54, 57, 55, 57, 56, 57, 57])))), (.t 88)]
    (.op (some 90) .mov [(.t 10)]
    (.op (some 91) .idxStr [(.k (.c (.str (ByteArray.mk #[48, 48, 48, 49, 48, 50, 48, 51, 48, 52, 48, 53, 48, 54, 48, 55, 48, 56, 48, 57, 49, 48, 49, 49, 49, 50, 49, 51, 49, 52, 49, 53, 49, 54, 49, 55, 49, 56, 49, 57, 50, 48, 50, 49, 50, 50, 50, 51, 50, 52, 50, 53, 50, 54, 50, 55, 50, 56, 50, 57, 51, 48, 51, 49, 51, 50, 51, 51, 51, 52, 51, 53, 51, 54, 51, 55, 51, 56, 51, 57, 52, 48, 52, 49, 52, 50, 52, 51, 52, 52, 52, 53, 52, 54, 52, 55, 52, 56, 52, 57, 53, 48, 53, 49, 53, 50, 53, 51, 53, 52, 53, 53, 53, 54, 53, 55, 53, 56, 53, 57, 54, 48, 54, 49, 54, 50, 54, 51, 54, 52, 54, 53, 54, 54, 54, 55, 54, 56, 54, 57, 55, 48, 55, 49, 55, 50, 55, 51, 55, 52, 55, 53, 55, 54, 55, 55, 55, 56, 55, 57, 56, 48, 56, 49, 56, 50, 56, 51, 56, 52, 56, 53, 56, 54, 56, 55, 56, 56, 56, 57, 57, 48, 57, 49, 57, 50, 57, 51, 57, 52, 57, 53, 57, 54, 57, 55, 57, 56, 57, 57])))), (.t 90)]
    (.op (some 92) (.idxS 1) [(.t 81), (.t 83)]
    (.op none (.st .heap) [(.t 92), (.t 89)]
    (.op (some 93) (.idxS 1) [(.t 84), (.t 86)]
    (.op none (.st .heap) [(.t 93), (.t 91)]
    .nil))))))))))))))))
  (.reg 11 false (.op (some 94) .mov [(.t 4)]
    (.op (some 95) (.bin .sub) [(.t 94), (.k (.c (.int .i64 8)))]
    (.op (some 4) .mov [(.t 95)]
    .nil)))))))))))))))
def istrconv_formatBase10_p1 : IC :=
  (.seq (.reg 12 false (.op (some 96) .mov [(.t 1)]
    (.op (some 97) (.conv .u32) [(.t 96)]
    (.op (some 12) .mov [(.t 97)]
    .nil))))
  (.seq (.seq (.reg 13 false (.op (some 98) .mov [(.t 4)]
    (.op (some 99) (.bin .geq) [(.t 98), (.k (.c (.int .i64 4)))]
    .nil)))
  (.cond (.t 99)
  (.seq (.reg 14 false (.op (some 100) .mov [(.t 12)]
    (.op (some 101) (.bin .rem) [(.t 100), (.k (.c (.int .u32 10000)))]
    (.op (some 13) .mov [(.t 101)]
    .nil))))
  (.seq (.reg 15 false (.op (some 102) .mov [(.t 12)]
    (.op (some 103) (.bin .quo) [(.t 102), (.k (.c (.int .u32 10000)))]
    (.op (some 12) .mov [(.t 103)]
    .nil))))
  (.seq (.reg 16 false (.op (some 104) .mov [(.t 13)]
    (.op (some 105) (.bin .quo) [(.t 104), (.k (.c (.int .u32 100)))]
    (.op (some 106) (.bin .mul) [(.t 105), (.k (.c (.int .u32 2)))]
    (.op (some 107) .mov [(.t 13)]
    (.op (some 108) (.bin .rem) [(.t 107), (.k (.c (.int .u32 100)))]
    (.op (some 109) (.bin .mul) [(.t 108), (.k (.c (.int .u32 2)))]
    (.op (some 14) .mov [(.t 106)]
    (.op (some 15) .mov [(.t 109)]
    .nil)))))))))
  (.seq (.reg 17 true (.op (some 110) .mov [(.t 0)]
    (.op (some 111) .mov [(.t 4)]
    (.op (some 112) (.bin .sub) [(.t 111), (.k (.c (.int .i64 1)))]
    (.op (some 113) .mov [(.t 0)]
    (.op (some 114) .mov [(.t 4)]
    (.op (some 115) (.bin .sub) [(.t 114), (.k (.c (.int .i64 2)))]
    (.op (some 116) .mov [(.t 15)]
    (.op (some 117) (.bin .add) [(.t 116), (.k (.c (.int .u32 1)))]
    (.op (some 118) .idxStr [(.k (.c (.str (ByteArray.mk #[48, 48, 48, 49, 48, 50, 48, 51, 48, 52, 48, 53, 48, 54, 48, 55, 48, 56, 48, 57, 49, 48, 49, 49, 49, 50, 49, 51, 49, 52, 49, 53, 49, 54, 49, 55, 49, 56, 49, 57, 50, 48, 50, 49, 50, 50, 50, 51, 50, 52, 50, 53, 50, 54, 50, 55, 50, 56, 50, 57, 51, 48, 51, 49, 51, 50, 51, 51, 51, 52, 51, 53, 51, 54, 51, 55, 51, 56, 51, 57, 52, 48, 52, 49, 52, 50, 52, 51, 52, 52, 52, 53, 52, 54, 52, 55, 52, 56, 52, 57, 53, 48, 53, 49, 53, 50, 53, 51, 53, 52, 53, 53, 53, 54, 53, 55, 53, 56, 53, 57, 54, 48, 54, 49, 54, 50, 54, 51, 54, 52, 54, 53, 54, 54, 54, 55, 54, 56, 54, 57, 55, 48, 55, 49, 55, 50, 55, 51, 55, 52, 55, 53, 55, 54, 55, 55, 55, 56, 55, 57, 56, 48, 56, 49, 56, 50, 56, 51, 56, 52, 56, 53, 56, 54, 56, 55, 56, 56, 56, 57, 57, 48, 57, 49, 57, 50, 57, 51, 57, 52, 57, 53, 57, 54, 57, 55, 57, 56, 57, 57])))), (.t 117)]
    (.op (some 119) .mov [(.t 15)]
    (.op (some 120) .idxStr [(.k (.c (.str (ByteArray.mk #[48, 48, 48, 49, 48, 50, 48, 51, 48, 52, 48, 53, 48, 54, 48, 55, 48, 56, 48, 57, 49, 48, 49, 49, 49, 50, 49, 51, 49, 52, 49, 53, 49, 54, 49, 55, 49, 56, 49, 57, 50, 48, 50, 49, 50, 50, 50, 51, 50, 52, 50, 53, 50, 54, 50, 55, 50, 56, 50, 57, 51, 48, 51, 49, 51, 50, 51, 51, 51, 52, 51, 53, 51, 54, 51, 55, 51, 56, 51, 57, 52, 48, 52, 49, 52, 50, 52, 51, 52, 52, 52, 53, 52, 54, 52, 55, 52, 56, 52, 57, 53, 48, 53, 49, 53, 50, 53, 51, 53, 52, 53, 53, 53, 54, 53, 55, 53, 56, 53, 57, 54, 48, 54, 49, 54, 50, 54, 51, 54, 52, 54, 53, 54, 54, 54, 55, 54, 56, 54, 57, 55, 48, 55, 49, 55, 50, 55, 51, 55, 52, 55, 53, 55, 54, 55, 55, 55, 56, 55, 57, 56, 48, 56, 49, 56, 50, 56, 51, 56, 52, 56, 53, 56, 54, 56, 55, 56, 56, 56, 57, 57, 48, 57, 49, 57, 50, 57, 51, 57, 52, 57, 53, 57, 54, 57, 55, 57, 56, 57, 57])))), (.t 119)]
    (.op (some 121) (.idxS 1) [(.t 110), (.t 112)]
    (.op none (.st .heap) [(.t 121), (.t 118)]
    (.op (some 122) (.idxS 1) [(.t 113), (.t 115)]
    (.op none (.st .heap) [(.t 122), (.t 120)]
    .nil))))))))))))))))
  (.seq (.reg 18 true (.op (some 123) .mov [(.t 0)]
    (.op (some 124) .mov [(.t 4)]
    (.op (some 125) (.bin .sub) [(.t 124), (.k (.c (.int .i64 3)))]
    (.op (some 126) .mov [(.t 0)]
    (.op (some 127) .mov [(.t 4)]
    (.op (some 128) (.bin .sub) [(.t 127), (.k (.c (.int .i64 4)))]
    (.op (some 129) .mov [(.t 14)]
    (.op (some 130) (.bin .add) [(.t 129), (.k (.c (.int .u32 1)))]
    (.op (some 131) .idxStr [(.k (.c (.str (ByteArray.mk #[48, 48, 48, 49, 48, 50, 48, 51, 48, 52, 48, 53, 48, 54, 48, 55, 48, 56, 48, 57, 49, 48, 49, 49, 49, 50, 49, 51, 49, 52, 49, 53, 49, 54, 49, 55, 49, 56, 49, 57, 50, 48, 50, 49, 50, 50, 50, 51, 50, 52, 50, 53, 50, 54, 50, 55, 50, 56, 50, 57, 51, 48, 51, 49, 51, 50, 51, 51, 51, 52, 51, 53, 51, 54, 51, 55, 51, 56, 51, 57, 52, 48, 52, 49, 52, 50, 52, 51, 52, 52, 52, 53, 52, 54, 52, 55, 52, 56, 52, 57, 53, 48, 53, 49, 53, 50, 53, 51, 53, 52, 53, 53, 53, 54, 53, 55, 53, 56, 53, 57, 54, 48, 54, 49, 54, 50, 54, 51, 54, 52, 54, 53, 54, 54, 54, 55, 54, 56, 54, 57, 55, 48, 55, 49, 55, 50, 55, 51, 55, 52, 55, 53, 55, 54, 55, 55, 55, 56, 55, 57, 56, 48, 56, 49, 56, 50, 56, 51, 56, 52, 56, 53, 56, 54, 56, 55, 56, 56, 56, 57, 57, 48, 57, 49, 57, 50, 57, 51, 57, 52, 57, 53, 57, 54, 57, 55, 57, 56, 57, 57])))), (.t 130)]
    (.op (some 132) .mov [(.t 14)]
    (.op (some 133) .idxStr [(.k (.c (.str (ByteArray.mk #[48, 48, 48, 49, 48, 50, 48, 51, 48, 52, 48, 53, 48, 54, 48, 55, 48, 56, 48, 57, 49, 48, 49, 49, 49, 50, 49, 51, 49, 52, 49, 53, 49, 54, 49, 55, 49, 56, 49, 57, 50, 48, 50, 49, 50, 50, 50, 51, 50, 52, 50, 53, 50, 54, 50, 55, 50, 56, 50, 57, 51, 48, 51, 49, 51, 50, 51, 51, 51, 52, 51, 53, 51, 54, 51, 55, 51, 56, 51, 57, 52, 48, 52, 49, 52, 50, 52, 51, 52, 52, 52, 53, 52, 54, 52, 55, 52, 56, 52, 57, 53, 48, 53, 49, 53, 50, 53, 51, 53, 52, 53, 53, 53, 54, 53, 55, 53, 56, 53, 57, 54, 48, 54, 49, 54, 50, 54, 51, 54, 52, 54, 53, 54, 54, 54, 55, 54, 56, 54, 57, 55, 48, 55, 49, 55, 50, 55, 51, 55, 52, 55, 53, 55, 54, 55, 55, 55, 56, 55, 57, 56, 48, 56, 49, 56, 50, 56, 51, 56, 52, 56, 53, 56, 54, 56, 55, 56, 56, 56, 57, 57, 48, 57, 49, 57, 50, 57, 51, 57, 52, 57, 53, 57, 54, 57, 55, 57, 56, 57, 57])))), (.t 132)]
    (.op (some 134) (.idxS 1) [(.t 123), (.t 125)]
    (.op none (.st .heap) [(.t 134), (.t 131)]
    (.op (some 135) (.idxS 1) [(.t 126), (.t 128)]
    (.op none (.st .heap) [(.t 135), (.t 133)]
    .nil))))))))))))))))
  (.reg 19 false (.op (some 136) .mov [(.t 4)]
    (.op (some 137) (.bin .sub) [(.t 136), (.k (.c (.int .i64 4)))]
    (.op (some 4) .mov [(.t 137)]
    .nil)))))))))
  .skip))
  (.seq (.seq (.reg 20 false (.op (some 138) .mov [(.t 4)]
    (.op (some 139) (.bin .geq) [(.t 138), (.k (.c (.int .i64 2)))]
    .nil)))
  (.cond (.t 139)
  (.seq (.reg 21 false (.op (some 140) .mov [(.t 12)]
    (.op (some 141) (.bin .rem) [(.t 140), (.k (.c (.int .u32 100)))]
    (.op (some 142) (.bin .mul) [(.t 141), (.k (.c (.int .u32 2)))]
    (.op (some 16) .mov [(.t 142)]
    .nil)))))
  (.seq (.reg 22 false (.op (some 143) .mov [(.t 12)]
    (.op (some 144) (.bin .quo) [(.t 143), (.k (.c (.int .u32 100)))]
    (.op (some 12) .mov [(.t 144)]
    .nil))))
  (.seq (.reg 23 true (.op (some 145) .mov [(.t 0)]
    (.op (some 146) .mov [(.t 4)]
    (.op (some 147) (.bin .sub) [(.t 146), (.k (.c (.int .i64 1)))]
    (.op (some 148) .mov [(.t 0)]
    (.op (some 149) .mov [(.t 4)]
    (.op (some 150) (.bin .sub) [(.t 149), (.k (.c (.int .i64 2)))]
    (.op (some 151) .mov [(.t 16)]
    (.op (some 152) (.bin .add) [(.t 151), (.k (.c (.int .u32 1)))]
    (.op (some 153) .idxStr [(.k (.c (.str (ByteArray.mk #[48, 48, 48, 49, 48, 50, 48, 51, 48, 52, 48, 53, 48, 54, 48, 55, 48, 56, 48, 57, 49, 48, 49, 49, 49, 50, 49, 51, 49, 52, 49, 53, 49, 54, 49, 55, 49, 56, 49, 57, 50, 48, 50, 49, 50, 50, 50, 51, 50, 52, 50, 53, 50, 54, 50, 55, 50, 56, 50, 57, 51, 48, 51, 49, 51, 50, 51, 51, 51, 52, 51, 53, 51, 54, 51, 55, 51, 56, 51, 57, 52, 48, 52, 49, 52, 50, 52, 51, 52, 52, 52, 53, 52, 54, 52, 55, 52, 56, 52, 57, 53, 48, 53, 49, 53, 50, 53, 51, 53, 52, 53, 53, 53, 54, 53, 55, 53, 56, 53, 57, 54, 48, 54, 49, 54, 50, 54, 51, 54, 52, 54, 53, 54, 54, 54, 55, 54, 56, 54, 57, 55, 48, 55, 49, 55, 50, 55, 51, 55, 52, 55, 53, 55, 54, 55, 55, 55, 56, 55, 57, 56, 48, 56, 49, 56, 50, 56, 51, 56, 52, 56, 53, 56, 54, 56, 55, 56, 56, 56, 57, 57, 48, 57, 49, 57, 50, 57, 51, 57, 52, 57, 53, 57, 54, 57, 55, 57, 56, 57, 57])))), (.t 152)]
    (.op (some 154) .mov [(.t 16)]
    (.op (some 155) .idxStr [(.k (.c (.str (ByteArray.mk #[48, 48, 48, 49, 48, 50, 48, 51, 48, 52, 48, 53, 48, 54, 48, 55, 48, 56, 48, 57, 49, 48, 49, 49, 49, 50, 49, 51, 49, 52, 49, 53, 49, 54, 49, 55, 49, 56, 49, 57, 50, 48, 50, 49, 50, 50, 50, 51, 50, 52, 50, 53, 50, 54, 50, 55, 50, 56, 50, 57, 51, 48, 51, 49, 51, 50, 51, 51, 51, 52, 51, 53, 51, 54, 51, 55, 51, 56, 51, 57, 52, 48, 52, 49, 52, 50, 52, 51, 52, 52, 52, 53, 52, 54, 52, 55, 52, 56, 52, 57, 53, 48, 53, 49, 53, 50, 53, 51, 53, 52, 53, 53, 53, 54, 53, 55, 53, 56, 53, 57, 54, 48, 54, 49, 54, 50, 54, 51, 54, 52, 54, 53, 54, 54, 54, 55, 54, 56, 54, 57, 55, 48, 55, 49, 55, 50, 55, 51, 55, 52, 55, 53, 55, 54, 55, 55, 55, 56, 55, 57, 56, 48, 56, 49, 56, 50, 56, 51, 56, 52, 56, 53, 56, 54, 56, 55, 56, 56, 56, 57, 57, 48, 57, 49, 57, 50, 57, 51, 57, 52, 57, 53, 57, 54, 57, 55, 57, 56, 57, 57])))), (.t 154)]
    (.op (some 156) (.idxS 1) [(.t 145), (.t 147)]
    (.op none (.st .heap) [(.t 156), (.t 153)]
    (.op (some 157) (.idxS 1) [(.t 148), (.t 150)]
    (.op none (.st .heap) [(.t 157), (.t 155)]
    .nil))))))))))))))))
  (.reg 24 false (.op (some 158) .mov [(.t 4)]
    (.op (some 159) (.bin .sub) [(.t 158), (.k (.c (.int .i64 2)))]
    (.op (some 4) .mov [(.t 159)]
    .nil)))))))
  .skip))
  (.seq (.reg 25 false (.op (some 160) .mov [(.t 4)]
    (.op (some 161) (.bin .gtr) [(.t 160), (.k (.c (.int .i64 0)))]
    .nil)))
  (.cond (.t 161)
  (.reg 26 false (.op (some 162) .mov [(.t 0)]
    (.op (some 163) .mov [(.t 12)]
    (.op (some 164) (.bin .add) [(.k (.c (.int .u32 48))), (.t 163)]
    (.op (some 165) (.conv .u8) [(.t 164)]
    (.op (some 166) (.idxS 1) [(.t 162), (.k (.c (.int .i64 0)))]
    (.op none (.st .heap) [(.t 166), (.t 165)]
    .nil)))))))
  .skip)))))
def istrconv_formatBase10 : Fn := { np := 2, nt := 167, ns := 0, res := [], gc := false, code :=
  (.seq (.reg 0 false (.op (some 17) .mov [(.t 0)]
    (.op (some 18) .len [(.t 17)]
    (.op (some 4) .mov [(.t 18)]
    .nil))))
  (.seq (.blk 0 (.loop [0, 1, 4] [] [(1, [0, 1, 4], [])] istrconv_formatBase10_b1))
  istrconv_formatBase10_p1)) }

/- internal/strconv.formatBits: 51 -/
def istrconv_formatBits_b1 : IC :=
  (.seq (.seq (.reg 11 false (.op (some 44) .mov [(.t 1)]
    (.op (some 45) .mov [(.t 15)]
    (.op (some 46) (.bin .geq) [(.t 44), (.t 45)]
    .nil))))
  (.cond (.t 46)
  .skip
  (.exit 0)))
  (.blk 1 (.seq (.reg 12 false (.op (some 47) .mov [(.t 13)]
    (.op (some 48) (.bin .sub) [(.t 47), (.k (.c (.int .i64 1)))]
    (.op (some 13) .mov [(.t 48)]
    .nil))))
  (.seq (.reg 13 false (.op (some 49) .mov [(.t 13)]
    (.op (some 50) .mov [(.t 1)]
    (.op (some 51) .mov [(.t 16)]
    (.op (some 52) (.bin .and) [(.t 50), (.t 51)]
    (.op (some 53) .idxStr [(.k (.c (.str (ByteArray.mk #[48, 49, 50, 51, 52, 53, 54, 55, 56, 57, 97, 98, 99, 100, 101, 102, 103, 104, 105, 106, 107, 108, 109, 110, 111, 112, 113, 114, 115, 116, 117, 118, 119, 120, 121, 122])))), (.t 52)]
    (.op (some 54) (.idxA 65 1) [(.t 12), (.t 49)]
    (.op none (.st .heap) [(.t 54), (.t 53)]
    .nil))))))))
  (.reg 14 false (.op (some 55) .mov [(.t 1)]
    (.op (some 56) .mov [(.t 14)]
    (.op (some 57) (.bin .shr) [(.t 55), (.t 56)]
    (.op (some 1) .mov [(.t 57)]
    .nil)))))))))
def istrconv_formatBits_p4 : IC :=
  (.seq (.reg 15 false (.op (some 58) .mov [(.t 13)]
    (.op (some 59) (.bin .sub) [(.t 58), (.k (.c (.int .i64 1)))]
    (.op (some 13) .mov [(.t 59)]
    .nil))))
  (.reg 16 false (.op (some 60) .mov [(.t 13)]
    (.op (some 61) .mov [(.t 1)]
    (.op (some 62) .idxStr [(.k (.c (.str (ByteArray.mk #[48, 49, 50, 51, 52, 53, 54, 55, 56, 57, 97, 98, 99, 100, 101, 102, 103, 104, 105, 106, 107, 108, 109, 110, 111, 112, 113, 114, 115, 116, 117, 118, 119, 120, 121, 122])))), (.t 61)]
    (.op (some 63) (.idxA 65 1) [(.t 12), (.t 60)]
    (.op none (.st .heap) [(.t 63), (.t 62)]
    .nil)))))))
def istrconv_formatBits_b2 : IC :=
  (.seq (.seq (.reg 18 false (.op (some 66) .mov [(.t 1)]
    (.op (some 67) .mov [(.t 17)]
    (.op (some 68) (.bin .geq) [(.t 66), (.t 67)]
    .nil))))
  (.cond (.t 68)
  .skip
  (.exit 2)))
  (.blk 3 (.seq (.reg 19 false (.op (some 69) .mov [(.t 13)]
    (.op (some 70) (.bin .sub) [(.t 69), (.k (.c (.int .i64 1)))]
    (.op (some 13) .mov [(.t 70)]
    .nil))))
  (.seq (.reg 20 false (.op (some 71) .mov [(.t 1)]
    (.op (some 72) .mov [(.t 17)]
    (.op (some 73) (.bin .quo) [(.t 71), (.t 72)]
    (.op (some 18) .mov [(.t 73)]
    .nil)))))
  (.seq (.reg 21 false (.op (some 74) .mov [(.t 13)]
    (.op (some 75) .mov [(.t 1)]
    (.op (some 76) .mov [(.t 18)]
    (.op (some 77) .mov [(.t 17)]
    (.op (some 78) (.bin .mul) [(.t 76), (.t 77)]
    (.op (some 79) (.bin .sub) [(.t 75), (.t 78)]
    (.op (some 80) .idxStr [(.k (.c (.str (ByteArray.mk #[48, 49, 50, 51, 52, 53, 54, 55, 56, 57, 97, 98, 99, 100, 101, 102, 103, 104, 105, 106, 107, 108, 109, 110, 111, 112, 113, 114, 115, 116, 117, 118, 119, 120, 121, 122])))), (.t 79)]
    (.op (some 81) (.idxA 65 1) [(.t 12), (.t 74)]
    (.op none (.st .heap) [(.t 81), (.t 80)]
    .nil))))))))))
  (.reg 22 false (.op (some 82) .mov [(.t 18)]
    (.op (some 1) .mov [(.t 82)]
    .nil))))))))
def istrconv_formatBits_p5 : IC :=
  (.seq (.reg 23 false (.op (some 83) .mov [(.t 13)]
    (.op (some 84) (.bin .sub) [(.t 83), (.k (.c (.int .i64 1)))]
    (.op (some 13) .mov [(.t 84)]
    .nil))))
  (.reg 24 false (.op (some 85) .mov [(.t 13)]
    (.op (some 86) .mov [(.t 1)]
    (.op (some 87) .idxStr [(.k (.c (.str (ByteArray.mk #[48, 49, 50, 51, 52, 53, 54, 55, 56, 57, 97, 98, 99, 100, 101, 102, 103, 104, 105, 106, 107, 108, 109, 110, 111, 112, 113, 114, 115, 116, 117, 118, 119, 120, 121, 122])))), (.t 86)]
    (.op (some 88) (.idxA 65 1) [(.t 12), (.t 85)]
    (.op none (.st .heap) [(.t 88), (.t 87)]
    .nil)))))))
def istrconv_formatBits_p3 : IC :=
  (.seq (.seq (.reg 25 false (.op (some 89) .mov [(.t 3)]
    .nil))
  (.cond (.t 89)
  (.seq (.reg 26 false (.op (some 90) .mov [(.t 13)]
    (.op (some 91) (.bin .sub) [(.t 90), (.k (.c (.int .i64 1)))]
    (.op (some 13) .mov [(.t 91)]
    .nil))))
  (.reg 27 false (.op (some 92) .mov [(.t 13)]
    (.op (some 93) (.idxA 65 1) [(.t 12), (.t 92)]
    (.op none (.st .heap) [(.t 93), (.k (.c (.int .u8 45)))]
    .nil)))))
  .skip))
  (.seq (.seq (.reg 28 false (.op (some 94) .mov [(.t 4)]
    .nil))
  (.cond (.t 94)
  (.seq (.reg 29 false (.op (some 95) .mov [(.t 0)]
    (.op (some 96) .mov [(.t 13)]
    (.op (some 97) (.slcA 65 1 true false) [(.t 12), (.t 96)]
    (.op (some 98) (.app 1 1) [(.t 95), (.t 97)]
    (.op (some 10) .mov [(.t 98)]
    .nil))))))
  .ret)
  .skip))
  (.seq (.reg 30 false (.op (some 99) .mov [(.t 13)]
    (.op (some 100) (.slcA 65 1 true false) [(.t 12), (.t 99)]
    (.op (some 101) .b2s [(.t 100)]
    (.op (some 11) .mov [(.t 101)]
    .nil)))))
  .ret)))
def istrconv_formatBits_p2 : IC :=
  (.seq (.seq (.reg 7 false (.op (some 33) .mov [(.t 2)]
    (.op (some 34) (.call 253 [.b]) [(.t 33)]
    .nil)))
  (.cond (.t 34)
  (.seq (.reg 8 false (.op (some 35) .mov [(.t 2)]
    (.op (some 36) (.conv .u64) [(.t 35)]
    (.op (some 37) (.call 208 [(.i .i64)]) [(.t 36)]
    (.op (some 38) (.conv .u64) [(.t 37)]
    (.op (some 14) .mov [(.t 38)]
    .nil))))))
  (.seq (.reg 9 false (.op (some 39) .mov [(.t 2)]
    (.op (some 40) (.conv .u64) [(.t 39)]
    (.op (some 15) .mov [(.t 40)]
    .nil))))
  (.seq (.reg 10 false (.op (some 41) .mov [(.t 2)]
    (.op (some 42) (.conv .u64) [(.t 41)]
    (.op (some 43) (.bin .sub) [(.t 42), (.k (.c (.int .u64 1)))]
    (.op (some 16) .mov [(.t 43)]
    .nil)))))
  (.seq (.blk 0 (.loop [0, 1, 3, 4, 10, 11, 12, 13, 14, 15, 16] [] [(1, [0, 1, 3, 4, 10, 11, 12, 13], [])] istrconv_formatBits_b1))
  istrconv_formatBits_p4))))
  (.seq (.reg 17 false (.op (some 64) .mov [(.t 2)]
    (.op (some 65) (.conv .u64) [(.t 64)]
    (.op (some 17) .mov [(.t 65)]
    .nil))))
  (.seq (.blk 2 (.loop [0, 1, 3, 4, 10, 11, 12, 13, 17] [] [(3, [0, 1, 3, 4, 10, 11, 12, 13], [])] istrconv_formatBits_b2))
  istrconv_formatBits_p5))))
  istrconv_formatBits_p3)
def istrconv_formatBits_p1 : IC :=
  (.seq (.reg 3 false (.op (some 12) (.allocH (List.replicate 65 (Cell.int .u8 0))) []
    .nil))
  (.seq (.reg 4 false (.op (some 13) .mov [(.k (.c (.int .i64 65)))]
    .nil))
  (.cut [0, 1, 2, 3, 4, 10, 11, 12, 13] [] [] (.seq (.reg 5 false (.op (some 30) .mov [(.t 3)]
    .nil))
  (.cond (.t 30)
  (.reg 6 false (.op (some 31) .mov [(.t 1)]
    (.op (some 32) (.un .neg) [(.t 31)]
    (.op (some 1) .mov [(.t 32)]
    .nil))))
  .skip))
  istrconv_formatBits_p2)))
def istrconv_formatBits : Fn := { np := 5, nt := 102, ns := 0, res := [.t 10 .any, .t 11 .s], gc := true, code :=
  (.seq (.reg 0 false (.op (some 10) .mov [(.k (.c .nils))]
    (.op (some 11) .mov [(.k (.c (.str (ByteArray.mk #[]))))]
    .nil)))
  (.cut [0, 1, 2, 3, 4, 10, 11] [] [] (.seq (.reg 1 false (.op (some 19) .mov [(.t 2)]
    (.op (some 20) (.bin .lss) [(.t 19), (.k (.c (.int .i64 2)))]
    (.op (some 21) .mov [(.t 20)]
    (.sc 21 false (.op (some 22) .mov [(.t 2)]
    (.op (some 23) (.bin .eql) [(.t 22), (.k (.c (.int .i64 10)))]
    .nil)) 23 24 true
    (.op (some 25) .mov [(.t 24)]
    (.sc 25 false (.op (some 26) .mov [(.t 2)]
    (.op (some 27) (.bin .gtr) [(.t 26), (.k (.c (.int .i64 36)))]
    .nil)) 27 28 true
    .nil)))))))
  (.cond (.t 28)
  (.reg 2 false (.op (some 29) .trap []
    (.op none .trap []
    .nil)))
  .skip))
  istrconv_formatBits_p1)) }

/- internal/strconv.isPowerOfTwo: 253 -/
def istrconv_isPowerOfTwo : Fn := { np := 1, nt := 8, ns := 0, res := [.t 2 .b], gc := false, code :=
  (.seq (.reg 0 false (.op (some 2) .mov [(.k (.c (.bool false)))]
    .nil))
  (.seq (.reg 1 false (.op (some 3) .mov [(.t 0)]
    (.op (some 4) .mov [(.t 0)]
    (.op (some 5) (.bin .sub) [(.t 4), (.k (.c (.int .i64 1)))]
    (.op (some 6) (.bin .and) [(.t 3), (.t 5)]
    (.op (some 7) (.bin .eql) [(.t 6), (.k (.c (.int .i64 0)))]
    (.op (some 2) .mov [(.t 7)]
    .nil)))))))
  .ret)) }


end Jq

namespace Jq
open Go

/- math/bits.TrailingZeros64: 42 -/
def bits_TrailingZeros64 : Fn := { np := 1, nt := 14, ns := 0, res := [.t 2 (.i .i64)], gc := false, code :=
  (.seq (.reg 0 false (.op (some 2) .mov [(.k (.c (.int .i64 0)))]
    .nil))
  (.seq (.seq (.reg 1 false (.op (some 3) .mov [(.t 0)]
    (.op (some 4) (.bin .eql) [(.t 3), (.k (.c (.int .u64 0)))]
    .nil)))
  (.cond (.t 4)
  (.seq (.reg 2 false (.op (some 2) .mov [(.k (.c (.int .i64 64)))]
    .nil))
  .ret)
  .skip))
  (.seq (.reg 3 false (.op (some 5) .mov [(.t 0)]
    (.op (some 6) .mov [(.t 0)]
    (.op (some 7) (.un .neg) [(.t 6)]
    (.op (some 8) (.bin .and) [(.t 5), (.t 7)]
    (.op (some 9) (.bin .mul) [(.t 8), (.k (.c (.int .u64 285870213051353865)))]
    (.op (some 10) (.bin .shr) [(.t 9), (.k (.c (.int .u64 58)))]
    (.op (some 11) (.idxA 64 1) [(.k (.c (.gptr 1 0))), (.t 10)]
    (.op (some 12) (.ld .heap (.i .u8)) [(.t 11)]
    (.op (some 13) (.conv .i64) [(.t 12)]
    (.op (some 2) .mov [(.t 13)]
    .nil)))))))))))
  .ret))) }

/- math/bits.OnesCount64: 57 -/
def bits_OnesCount64 : Fn := { np := 1, nt := 35, ns := 0, res := [.t 2 (.i .i64)], gc := false, code :=
  (.seq (.reg 0 false (.op (some 2) .mov [(.k (.c (.int .i64 0)))]
    .nil))
  (.seq (.reg 1 false (.op (some 3) .mov [(.t 0)]
    (.op (some 4) (.bin .shr) [(.t 3), (.k (.c (.int .u64 1)))]
    (.op (some 5) (.bin .and) [(.t 4), (.k (.c (.int .u64 6148914691236517205)))]
    (.op (some 6) .mov [(.t 0)]
    (.op (some 7) (.bin .and) [(.t 6), (.k (.c (.int .u64 6148914691236517205)))]
    (.op (some 8) (.bin .add) [(.t 5), (.t 7)]
    (.op (some 0) .mov [(.t 8)]
    .nil))))))))
  (.seq (.reg 2 false (.op (some 9) .mov [(.t 0)]
    (.op (some 10) (.bin .shr) [(.t 9), (.k (.c (.int .u64 2)))]
    (.op (some 11) (.bin .and) [(.t 10), (.k (.c (.int .u64 3689348814741910323)))]
    (.op (some 12) .mov [(.t 0)]
    (.op (some 13) (.bin .and) [(.t 12), (.k (.c (.int .u64 3689348814741910323)))]
    (.op (some 14) (.bin .add) [(.t 11), (.t 13)]
    (.op (some 0) .mov [(.t 14)]
    .nil))))))))
  (.seq (.reg 3 false (.op (some 15) .mov [(.t 0)]
    (.op (some 16) (.bin .shr) [(.t 15), (.k (.c (.int .u64 4)))]
    (.op (some 17) .mov [(.t 0)]
    (.op (some 18) (.bin .add) [(.t 16), (.t 17)]
    (.op (some 19) (.bin .and) [(.t 18), (.k (.c (.int .u64 1085102592571150095)))]
    (.op (some 0) .mov [(.t 19)]
    .nil)))))))
  (.seq (.reg 4 false (.op (some 20) .mov [(.t 0)]
    (.op (some 21) .mov [(.t 0)]
    (.op (some 22) (.bin .shr) [(.t 21), (.k (.c (.int .u64 8)))]
    (.op (some 23) (.bin .add) [(.t 20), (.t 22)]
    (.op (some 0) .mov [(.t 23)]
    .nil))))))
  (.seq (.reg 5 false (.op (some 24) .mov [(.t 0)]
    (.op (some 25) .mov [(.t 0)]
    (.op (some 26) (.bin .shr) [(.t 25), (.k (.c (.int .u64 16)))]
    (.op (some 27) (.bin .add) [(.t 24), (.t 26)]
    (.op (some 0) .mov [(.t 27)]
    .nil))))))
  (.seq (.reg 6 false (.op (some 28) .mov [(.t 0)]
    (.op (some 29) .mov [(.t 0)]
    (.op (some 30) (.bin .shr) [(.t 29), (.k (.c (.int .u64 32)))]
    (.op (some 31) (.bin .add) [(.t 28), (.t 30)]
    (.op (some 0) .mov [(.t 31)]
    .nil))))))
  (.seq (.reg 7 false (.op (some 32) .mov [(.t 0)]
    (.op (some 33) (.conv .i64) [(.t 32)]
    (.op (some 34) (.bin .and) [(.t 33), (.k (.c (.int .i64 127)))]
    (.op (some 2) .mov [(.t 34)]
    .nil)))))
  .ret)))))))) }

/- math/bits.TrailingZeros: 208 -/
def bits_TrailingZeros : Fn := { np := 1, nt := 8, ns := 0, res := [.t 2 (.i .i64)], gc := false, code :=
  (.seq (.reg 0 false (.op (some 2) .mov [(.k (.c (.int .i64 0)))]
    .nil))
  (.seq (.cond (.k (.c (.bool false)))
  (.seq (.reg 1 false (.op (some 3) .mov [(.t 0)]
    (.op (some 4) (.conv .u32) [(.t 3)]
    (.op (some 5) (.call 54 [(.i .i64)]) [(.t 4)]
    (.op (some 2) .mov [(.t 5)]
    .nil)))))
  .ret)
  .skip)
  (.seq (.reg 2 false (.op (some 6) .mov [(.t 0)]
    (.op (some 7) (.call 42 [(.i .i64)]) [(.t 6)]
    (.op (some 2) .mov [(.t 7)]
    .nil))))
  .ret))) }


end Jq

/- What a function needs of an environment. -/
namespace Jq
open Go

structure bits_TrailingZeros64_In (E : Env) : Prop where
  fn : E.fn 42 = some bits_TrailingZeros64

structure bits_TrailingZeros_In (E : Env) : Prop where
  fn : E.fn 208 = some bits_TrailingZeros
  c42 : bits_TrailingZeros64_In E

structure bits_OnesCount64_In (E : Env) : Prop where
  fn : E.fn 57 = some bits_OnesCount64

end Jq

/- What a function needs of an environment. -/
namespace Jq
open Go

structure istrconv_small_In (E : Env) : Prop where
  fn : E.fn 48 = some istrconv_small

structure istrconv_formatBase10_In (E : Env) : Prop where
  fn : E.fn 50 = some istrconv_formatBase10

structure istrconv_isPowerOfTwo_In (E : Env) : Prop where
  fn : E.fn 253 = some istrconv_isPowerOfTwo

structure istrconv_formatBits_In (E : Env) : Prop where
  fn : E.fn 51 = some istrconv_formatBits
  c208 : bits_TrailingZeros_In E
  c253 : istrconv_isPowerOfTwo_In E

structure istrconv_FormatInt_In (E : Env) : Prop where
  fn : E.fn 47 = some istrconv_FormatInt
  c48 : istrconv_small_In E
  c50 : istrconv_formatBase10_In E
  c51 : istrconv_formatBits_In E

structure istrconv_Itoa_In (E : Env) : Prop where
  fn : E.fn 46 = some istrconv_Itoa
  c47 : istrconv_FormatInt_In E

end Jq

/- What a function needs of an environment. -/
namespace Jq
open Go

structure strconv_Itoa_In (E : Env) : Prop where
  fn : E.fn 45 = some strconv_Itoa
  c46 : istrconv_Itoa_In E

end Jq

/- What a function needs of an environment. -/
namespace Jq
open Go

structure api_Errno_Error_In (E : Env) : Prop where
  fn : E.fn 44 = some api_Errno_Error
  c45 : strconv_Itoa_In E

end Jq

namespace Jq
open Go

/- jacquard/jacquardlaw0.all: 43 -/
def jacquardlaw0_all : Fn := { np := 0, nt := 65, ns := 0, res := [.t 0 .any], gc := false, code :=
  (.seq (.reg 0 false (.op (some 0) .mov [(.k (.c .nils))]
    .nil))
  (.seq (.reg 1 false (.op (some 1) (.build ([Cell.int .i64 0, Cell.int .i64 0]) [(0, 1), (1, 1)]) [(.k (.c (.int .i64 0))), (.k (.c (.int .i64 0)))]
    (.op (some 2) (.build ([Cell.int .i64 0, Cell.int .i64 0]) [(0, 1), (1, 1)]) [(.k (.c (.int .i64 1))), (.k (.c (.int .i64 1)))]
    (.op (some 3) (.build ([Cell.int .i64 0, Cell.int .i64 0]) [(0, 1), (1, 1)]) [(.k (.c (.int .i64 2))), (.k (.c (.int .i64 2)))]
    (.op (some 4) (.build ([Cell.int .i64 0, Cell.int .i64 0]) [(0, 1), (1, 1)]) [(.k (.c (.int .i64 4))), (.k (.c (.int .i64 4)))]
    (.op (some 5) (.build ([Cell.int .i64 0, Cell.int .i64 0]) [(0, 1), (1, 1)]) [(.k (.c (.int .i64 5))), (.k (.c (.int .i64 5)))]
    (.op (some 6) (.build ([Cell.int .i64 0, Cell.int .i64 0]) [(0, 1), (1, 1)]) [(.k (.c (.int .i64 6))), (.k (.c (.int .i64 6)))]
    (.op (some 7) (.build ([Cell.int .i64 0, Cell.int .i64 0]) [(0, 1), (1, 1)]) [(.k (.c (.int .i64 7))), (.k (.c (.int .i64 7)))]
    (.op (some 8) (.build ([Cell.int .i64 0, Cell.int .i64 0]) [(0, 1), (1, 1)]) [(.k (.c (.int .i64 8))), (.k (.c (.int .i64 8)))]
    (.op (some 9) (.build ([Cell.int .i64 0, Cell.int .i64 0]) [(0, 1), (1, 1)]) [(.k (.c (.int .i64 9))), (.k (.c (.int .i64 9)))]
    (.op (some 10) (.build ([Cell.int .i64 0, Cell.int .i64 0]) [(0, 1), (1, 1)]) [(.k (.c (.int .i64 10))), (.k (.c (.int .i64 10)))]
    (.op (some 11) (.build ([Cell.int .i64 0, Cell.int .i64 0]) [(0, 1), (1, 1)]) [(.k (.c (.int .i64 4000))), (.k (.c (.int .i64 4000)))]
    (.op (some 12) (.build ([Cell.int .i64 0, Cell.int .i64 0]) [(0, 1), (1, 1)]) [(.k (.c (.int .i64 4))), (.k (.c (.int .i64 4)))]
    (.op (some 13) (.build ([Cell.int .i64 0, Cell.int .i64 0]) [(0, 1), (1, 1)]) [(.k (.c (.int .i64 10))), (.k (.c (.int .i64 10)))]
    (.op (some 14) (.build ([Cell.int .i64 0, Cell.int .i64 0]) [(0, 1), (1, 1)]) [(.k (.c (.int .i64 24))), (.k (.c (.int .i64 24)))]
    (.op (some 15) (.build ([Cell.int .i64 0, Cell.int .i64 0]) [(0, 1), (1, 1)]) [(.k (.c (.int .i64 4))), (.k (.c (.int .i64 4)))]
    (.op (some 16) (.build ([Cell.int .i64 0, Cell.int .i64 0]) [(0, 1), (1, 1)]) [(.k (.c (.int .i64 1))), (.k (.c (.int .i64 1)))]
    (.op (some 17) (.build ([Cell.int .i64 0, Cell.int .i64 0]) [(0, 1), (1, 1)]) [(.k (.c (.int .i64 2))), (.k (.c (.int .i64 2)))]
    (.op (some 18) (.build ([Cell.int .i64 0, Cell.int .i64 0]) [(0, 1), (1, 1)]) [(.k (.c (.int .i64 3))), (.k (.c (.int .i64 3)))]
    (.op (some 19) (.build ([Cell.int .i64 0, Cell.int .i64 0]) [(0, 1), (1, 1)]) [(.k (.c (.int .i64 4))), (.k (.c (.int .i64 4)))]
    (.op (some 20) (.build ([Cell.int .i64 0, Cell.int .i64 0]) [(0, 1), (1, 1)]) [(.k (.c (.int .i64 5))), (.k (.c (.int .i64 5)))]
    (.op (some 21) (.build ([Cell.int .i64 0, Cell.int .i64 0]) [(0, 1), (1, 1)]) [(.k (.c (.int .i64 6))), (.k (.c (.int .i64 6)))]
    (.op (some 22) (.build ([Cell.int .i64 0, Cell.int .i64 0]) [(0, 1), (1, 1)]) [(.k (.c (.int .i64 7))), (.k (.c (.int .i64 7)))]
    (.op (some 23) (.build ([Cell.int .i64 0, Cell.int .i64 0]) [(0, 1), (1, 1)]) [(.k (.c (.int .i64 8))), (.k (.c (.int .i64 8)))]
    (.op (some 24) (.build ([Cell.int .i64 0, Cell.int .i64 0]) [(0, 1), (1, 1)]) [(.k (.c (.int .i64 9))), (.k (.c (.int .i64 9)))]
    (.op (some 25) (.build ([Cell.int .i64 0, Cell.int .i64 0]) [(0, 1), (1, 1)]) [(.k (.c (.int .i64 10))), (.k (.c (.int .i64 10)))]
    (.op (some 26) (.build ([Cell.int .i64 0, Cell.int .i64 0]) [(0, 1), (1, 1)]) [(.k (.c (.int .i64 11))), (.k (.c (.int .i64 11)))]
    (.op (some 27) (.build ([Cell.int .i64 0, Cell.int .i64 0]) [(0, 1), (1, 1)]) [(.k (.c (.int .i64 1))), (.k (.c (.int .i64 1)))]
    (.op (some 28) (.build ([Cell.int .i64 0, Cell.int .i64 0]) [(0, 1), (1, 1)]) [(.k (.c (.int .i64 2))), (.k (.c (.int .i64 2)))]
    (.op (some 29) (.build ([Cell.int .i64 0, Cell.int .i64 0]) [(0, 1), (1, 1)]) [(.k (.c (.int .i64 3))), (.k (.c (.int .i64 3)))]
    (.op (some 30) (.build ([Cell.int .i64 0, Cell.int .i64 0]) [(0, 1), (1, 1)]) [(.k (.c (.int .i64 4))), (.k (.c (.int .i64 4)))]
    (.op (some 31) (.build ([Cell.int .i64 0, Cell.int .i64 0]) [(0, 1), (1, 1)]) [(.k (.c (.int .i64 1))), (.k (.c (.int .i64 1)))]
    (.op (some 32) (.build ([Cell.int .i64 0, Cell.int .i64 0]) [(0, 1), (1, 1)]) [(.k (.c (.int .i64 2))), (.k (.c (.int .i64 2)))]
    (.op (some 33) (.build ([Cell.int .i64 0, Cell.int .i64 0]) [(0, 1), (1, 1)]) [(.k (.c (.int .i64 3))), (.k (.c (.int .i64 3)))]
    (.op (some 34) (.build ([Cell.int .i64 0, Cell.int .i64 0]) [(0, 1), (1, 1)]) [(.k (.c (.int .i64 4))), (.k (.c (.int .i64 4)))]
    (.op (some 35) (.build ([Cell.int .i64 0, Cell.int .i64 0]) [(0, 1), (1, 1)]) [(.k (.c (.int .i64 5))), (.k (.c (.int .i64 5)))]
    (.op (some 36) (.build ([Cell.int .i64 0, Cell.int .i64 0]) [(0, 1), (1, 1)]) [(.k (.c (.int .i64 6))), (.k (.c (.int .i64 6)))]
    (.op (some 37) (.build ([Cell.int .i64 0, Cell.int .i64 0]) [(0, 1), (1, 1)]) [(.k (.c (.int .i64 1))), (.k (.c (.int .i64 1)))]
    (.op (some 38) (.build ([Cell.int .i64 0, Cell.int .i64 0]) [(0, 1), (1, 1)]) [(.k (.c (.int .i64 2))), (.k (.c (.int .i64 2)))]
    (.op (some 39) (.build ([Cell.int .i64 0, Cell.int .i64 0]) [(0, 1), (1, 1)]) [(.k (.c (.int .i64 1))), (.k (.c (.int .i64 1)))]
    (.op (some 40) (.build ([Cell.int .i64 0, Cell.int .i64 0]) [(0, 1), (1, 1)]) [(.k (.c (.int .i64 2))), (.k (.c (.int .i64 2)))]
    (.op (some 41) (.build ([Cell.int .i64 0, Cell.int .i64 0]) [(0, 1), (1, 1)]) [(.k (.c (.int .i64 3))), (.k (.c (.int .i64 3)))]
    (.op (some 42) (.build ([Cell.int .i64 0, Cell.int .i64 0]) [(0, 1), (1, 1)]) [(.k (.c (.int .i64 4))), (.k (.c (.int .i64 4)))]
    (.op (some 43) (.build ([Cell.int .i64 0, Cell.int .i64 0]) [(0, 1), (1, 1)]) [(.k (.c (.int .i64 5))), (.k (.c (.int .i64 5)))]
    (.op (some 44) (.build ([Cell.int .i64 0, Cell.int .i64 0]) [(0, 1), (1, 1)]) [(.k (.c (.int .i64 6))), (.k (.c (.int .i64 6)))]
    (.op (some 45) (.build ([Cell.int .i64 0, Cell.int .i64 0]) [(0, 1), (1, 1)]) [(.k (.c (.int .i64 1))), (.k (.c (.int .i64 1)))]
    (.op (some 46) (.build ([Cell.int .i64 0, Cell.int .i64 0]) [(0, 1), (1, 1)]) [(.k (.c (.int .i64 2))), (.k (.c (.int .i64 2)))]
    (.op (some 47) (.build ([Cell.int .i64 0, Cell.int .i64 0]) [(0, 1), (1, 1)]) [(.k (.c (.int .i64 3))), (.k (.c (.int .i64 3)))]
    (.op (some 48) (.build ([Cell.int .i64 0, Cell.int .i64 0]) [(0, 1), (1, 1)]) [(.k (.c (.int .i64 0))), (.k (.c (.int .i64 0)))]
    (.op (some 49) (.build ([Cell.int .i64 0, Cell.int .i64 0]) [(0, 1), (1, 1)]) [(.k (.c (.int .i64 1))), (.k (.c (.int .i64 1)))]
    (.op (some 50) (.build ([Cell.int .i64 0, Cell.int .i64 0]) [(0, 1), (1, 1)]) [(.k (.c (.int .i64 2))), (.k (.c (.int .i64 2)))]
    (.op (some 51) (.build ([Cell.int .i64 0, Cell.int .i64 0]) [(0, 1), (1, 1)]) [(.k (.c (.int .i64 1))), (.k (.c (.int .i64 1)))]
    (.op (some 52) (.build ([Cell.int .i64 0, Cell.int .i64 0]) [(0, 1), (1, 1)]) [(.k (.c (.int .i64 2))), (.k (.c (.int .i64 2)))]
    (.op (some 53) (.build ([Cell.int .i64 0, Cell.int .i64 0]) [(0, 1), (1, 1)]) [(.k (.c (.int .i64 3))), (.k (.c (.int .i64 3)))]
    (.op (some 54) (.build ([Cell.int .i64 0, Cell.int .i64 0]) [(0, 1), (1, 1)]) [(.k (.c (.int .i64 4))), (.k (.c (.int .i64 4)))]
    (.op (some 55) (.build ([Cell.int .i64 0, Cell.int .i64 0]) [(0, 1), (1, 1)]) [(.k (.c (.int .i64 5))), (.k (.c (.int .i64 5)))]
    (.op (some 56) (.build ([Cell.int .i64 0, Cell.int .i64 0]) [(0, 1), (1, 1)]) [(.k (.c (.int .i64 6))), (.k (.c (.int .i64 6)))]
    (.op (some 57) (.build ([Cell.int .i64 0, Cell.int .i64 0]) [(0, 1), (1, 1)]) [(.k (.c (.int .i64 7))), (.k (.c (.int .i64 7)))]
    (.op (some 58) (.build ([Cell.int .i64 0, Cell.int .i64 0]) [(0, 1), (1, 1)]) [(.k (.c (.int .i64 8))), (.k (.c (.int .i64 8)))]
    (.op (some 59) (.build ([Cell.int .i64 0, Cell.int .i64 0]) [(0, 1), (1, 1)]) [(.k (.c (.int .i64 9))), (.k (.c (.int .i64 9)))]
    (.op (some 60) (.build ([Cell.int .i64 0, Cell.int .i64 0]) [(0, 1), (1, 1)]) [(.k (.c (.int .i64 10))), (.k (.c (.int .i64 10)))]
    (.op (some 61) (.build ([Cell.int .i64 0, Cell.int .i64 0]) [(0, 1), (1, 1)]) [(.k (.c (.int .i64 11))), (.k (.c (.int .i64 11)))]
    (.op (some 62) (.build ([Cell.int .i64 0, Cell.int .i64 0]) [(0, 1), (1, 1)]) [(.k (.c (.int .i64 12))), (.k (.c (.int .i64 12)))]
    (.op (some 63) (.build ([Cell.int .i64 0, Cell.int .i64 0]) [(0, 1), (1, 1)]) [(.k (.c (.int .i64 13))), (.k (.c (.int .i64 13)))]
    (.op (some 64) (.bslice 2 63 (List.replicate 126 (Cell.int .i64 0)) [(0, 2), (2, 2), (4, 2), (6, 2), (8, 2), (10, 2), (12, 2), (14, 2), (16, 2), (18, 2), (20, 2), (22, 2), (24, 2), (26, 2), (28, 2), (30, 2), (32, 2), (34, 2), (36, 2), (38, 2), (40, 2), (42, 2), (44, 2), (46, 2), (48, 2), (50, 2), (52, 2), (54, 2), (56, 2), (58, 2), (60, 2), (62, 2), (64, 2), (66, 2), (68, 2), (70, 2), (72, 2), (74, 2), (76, 2), (78, 2), (80, 2), (82, 2), (84, 2), (86, 2), (88, 2), (90, 2), (92, 2), (94, 2), (96, 2), (98, 2), (100, 2), (102, 2), (104, 2), (106, 2), (108, 2), (110, 2), (112, 2), (114, 2), (116, 2), (118, 2), (120, 2), (122, 2), (124, 2)]) [(.t 1), (.t 2), (.t 3), (.t 4), (.t 5), (.t 6), (.t 7), (.t 8), (.t 9), (.t 10), (.t 11), (.t 12), (.t 13), (.t 14), (.t 15), (.t 16), (.t 17), (.t 18), (.t 19), (.t 20), (.t 21), (.t 22), (.t 23), (.t 24), (.t 25), (.t 26), (.t 27), (.t 28), (.t 29), (.t 30), (.t 31), (.t 32), (.t 33), (.t 34), (.t 35), (.t 36), (.t 37), (.t 38), (.t 39), (.t 40), (.t 41), (.t 42), (.t 43), (.t 44), (.t 45), (.t 46), (.t 47), (.t 48), (.t 49), (.t 50), (.t 51), (.t 52), (.t 53), (.t 54), (.t 55), (.t 56), (.t 57), (.t 58), (.t 59), (.t 60), (.t 61), (.t 62), (.t 63)]
    (.op (some 0) .mov [(.t 64)]
    .nil))))))))))))))))))))))))))))))))))))))))))))))))))))))))))))))))))
  .ret)) }

/- jacquard/jacquardlaw0.NamesNumbers: 209 -/
def jacquardlaw0_NamesNumbers_b1 : IC :=
  (.seq (.seq (.reg 3 false (.op (some 4) .mov [(.t 2)]
    (.op (some 5) .mov [(.t 1)]
    (.op (some 6) .len [(.t 5)]
    (.op (some 7) (.bin .lss) [(.t 4), (.t 6)]
    .nil)))))
  (.cond (.t 7)
  .skip
  (.exit 0)))
  (.seq (.blk 1 (.seq (.reg 5 true (.op (some 10) .mov [(.t 1)]
    (.op (some 11) .mov [(.t 2)]
    (.op (some 12) (.idxS 2) [(.t 10), (.t 11)]
    (.op (some 13) (.addr 0) [(.t 12)]
    (.op (some 14) (.ld .heap (.i .i64)) [(.t 13)]
    (.op (some 15) .mov [(.t 1)]
    (.op (some 16) .mov [(.t 2)]
    (.op (some 17) (.idxS 2) [(.t 15), (.t 16)]
    (.op (some 18) (.addr 1) [(.t 17)]
    (.op (some 19) (.ld .heap (.i .i64)) [(.t 18)]
    (.op (some 20) (.bin .neq) [(.t 14), (.t 19)]
    .nil))))))))))))
  (.cond (.t 20)
  (.seq (.reg 6 false (.op (some 0) .mov [(.k (.c (.bool false)))]
    .nil))
  .ret)
  .skip)))
  (.reg 4 false (.op (some 8) .mov [(.t 2)]
    (.op (some 9) (.bin .add) [(.t 8), (.k (.c (.int .i64 1)))]
    (.op (some 2) .mov [(.t 9)]
    .nil))))))
def jacquardlaw0_NamesNumbers_p1 : IC :=
  (.seq (.reg 7 false (.op (some 21) (.call 44 [.s]) [(.k (.c (.int .i64 10)))]
    (.op (some 22) (.bin .eql) [(.t 21), (.k (.c (.str (ByteArray.mk #[101, 114, 114, 111, 114, 32, 49, 48]))))]
    (.op (some 23) .mov [(.t 22)]
    (.sc 23 true (.op (some 24) (.call 44 [.s]) [(.k (.c (.int .i64 0)))]
    (.op (some 25) (.bin .eql) [(.t 24), (.k (.c (.str (ByteArray.mk #[101, 114, 114, 111, 114, 32, 48]))))]
    .nil)) 25 26 false
    (.op (some 0) .mov [(.t 26)]
    .nil))))))
  .ret)
def jacquardlaw0_NamesNumbers : Fn := { np := 0, nt := 27, ns := 0, res := [.t 0 .b], gc := false, code :=
  (.seq (.reg 0 false (.op (some 0) .mov [(.k (.c (.bool false)))]
    .nil))
  (.seq (.reg 1 false (.op (some 3) (.call 43 [.any]) []
    (.op (some 1) .mov [(.t 3)]
    .nil)))
  (.seq (.seq (.reg 2 false (.op (some 2) .mov [(.k (.c (.int .i64 0)))]
    .nil))
  (.blk 0 (.loop [1, 2] [] [(0, [0], []), (1, [], [])] jacquardlaw0_NamesNumbers_b1)))
  jacquardlaw0_NamesNumbers_p1))) }


end Jq

/- What a function needs of an environment. -/
namespace Jq
open Go

structure jacquardlaw0_all_In (E : Env) : Prop where
  fn : E.fn 43 = some jacquardlaw0_all

structure jacquardlaw0_NamesNumbers_In (E : Env) : Prop where
  fn : E.fn 209 = some jacquardlaw0_NamesNumbers
  c43 : jacquardlaw0_all_In E
  c44 : api_Errno_Error_In E

end Jq

namespace Jq
open Go

/- (jacquard/set.Set).Has: 17 -/
def set_Set_Has : Fn := { np := 2, nt := 10, ns := 0, res := [.t 4 .b], gc := false, code :=
  (.seq (.reg 0 false (.op (some 4) .mov [(.k (.c (.bool false)))]
    .nil))
  (.seq (.reg 1 false (.op (some 5) .mov [(.t 0)]
    (.op (some 6) .mov [(.t 1)]
    (.op (some 7) (.call 19 [(.i .u64)]) [(.t 6)]
    (.op (some 8) (.bin .and) [(.t 5), (.t 7)]
    (.op (some 9) (.bin .neq) [(.t 8), (.k (.c (.int .u64 0)))]
    (.op (some 4) .mov [(.t 9)]
    .nil)))))))
  .ret)) }

/- (jacquard/set.Set).With: 18 -/
def set_Set_With : Fn := { np := 2, nt := 9, ns := 0, res := [.t 4 (.i .u64)], gc := false, code :=
  (.seq (.reg 0 false (.op (some 4) .mov [(.k (.c (.int .u64 0)))]
    .nil))
  (.seq (.reg 1 false (.op (some 5) .mov [(.t 0)]
    (.op (some 6) .mov [(.t 1)]
    (.op (some 7) (.call 19 [(.i .u64)]) [(.t 6)]
    (.op (some 8) (.bin .or) [(.t 5), (.t 7)]
    (.op (some 4) .mov [(.t 8)]
    .nil))))))
  .ret)) }

/- jacquard/set.bit: 19 -/
def set_bit : Fn := { np := 1, nt := 12, ns := 0, res := [.t 2 (.i .u64)], gc := false, code :=
  (.seq (.reg 0 false (.op (some 2) .mov [(.k (.c (.int .u64 0)))]
    .nil))
  (.seq (.seq (.reg 1 false (.op (some 3) .mov [(.t 0)]
    (.op (some 4) (.bin .lss) [(.t 3), (.k (.c (.int .i64 0)))]
    (.op (some 5) .mov [(.t 4)]
    (.sc 5 false (.op (some 6) .mov [(.t 0)]
    (.op (some 7) (.bin .geq) [(.t 6), (.k (.c (.int .i64 64)))]
    .nil)) 7 8 true
    .nil)))))
  (.cond (.t 8)
  (.seq (.reg 2 false (.op (some 2) .mov [(.k (.c (.int .u64 0)))]
    .nil))
  .ret)
  .skip))
  (.seq (.reg 3 false (.op (some 9) .mov [(.t 0)]
    (.op (some 10) (.conv .u64) [(.t 9)]
    (.op (some 11) (.bin .shl) [(.k (.c (.int .u64 1))), (.t 10)]
    (.op (some 2) .mov [(.t 11)]
    .nil)))))
  .ret))) }

/- (jacquard/set.Set).List: 32 -/
def set_Set_List_b1 : IC :=
  (.seq (.seq (.reg 2 false (.op (some 4) .mov [(.t 0)]
    (.op (some 5) (.bin .neq) [(.t 4), (.k (.c (.int .u64 0)))]
    .nil)))
  (.cond (.t 5)
  .skip
  (.exit 0)))
  (.seq (.blk 1 (.reg 4 false (.op (some 10) .mov [(.t 3)]
    (.op (some 11) .mov [(.t 0)]
    (.op (some 12) (.call 38 [(.i .i64)]) [(.t 11)]
    (.op (some 13) (.lit 1 1 ([Cell.int .i64 0]) [(0, 1)]) [(.t 12)]
    (.op (some 14) (.app 1 8) [(.t 10), (.t 13)]
    (.op (some 3) .mov [(.t 14)]
    .nil))))))))
  (.reg 3 false (.op (some 6) .mov [(.t 0)]
    (.op (some 7) .mov [(.t 0)]
    (.op (some 8) (.bin .sub) [(.t 7), (.k (.c (.int .u64 1)))]
    (.op (some 9) (.bin .and) [(.t 6), (.t 8)]
    (.op (some 0) .mov [(.t 9)]
    .nil))))))))
def set_Set_List_p1 : IC :=
  (.seq (.reg 5 false (.op (some 15) .mov [(.t 3)]
    (.op (some 2) .mov [(.t 15)]
    .nil)))
  .ret)
def set_Set_List : Fn := { np := 1, nt := 16, ns := 0, res := [.t 2 .any], gc := false, code :=
  (.seq (.reg 0 false (.op (some 2) .mov [(.k (.c .nils))]
    .nil))
  (.seq (.reg 1 false (.op (some 3) .mov [(.k (.c .nils))]
    .nil))
  (.seq (.blk 0 (.loop [0, 3] [] [(1, [3], [])] set_Set_List_b1))
  set_Set_List_p1))) }

/- (jacquard/set.Set).First: 38 -/
def set_Set_First : Fn := { np := 1, nt := 7, ns := 0, res := [.t 2 (.i .i64)], gc := false, code :=
  (.seq (.reg 0 false (.op (some 2) .mov [(.k (.c (.int .i64 0)))]
    .nil))
  (.seq (.seq (.reg 1 false (.op (some 3) .mov [(.t 0)]
    (.op (some 4) (.bin .eql) [(.t 3), (.k (.c (.int .u64 0)))]
    .nil)))
  (.cond (.t 4)
  (.seq (.reg 2 false (.op (some 2) .mov [(.k (.c (.int .i64 (-1))))]
    .nil))
  .ret)
  .skip))
  (.seq (.reg 3 false (.op (some 5) .mov [(.t 0)]
    (.op (some 6) (.call 42 [(.i .i64)]) [(.t 5)]
    (.op (some 2) .mov [(.t 6)]
    .nil))))
  .ret))) }

/- (jacquard/set.Set).Len: 56 -/
def set_Set_Len : Fn := { np := 1, nt := 5, ns := 0, res := [.t 2 (.i .i64)], gc := false, code :=
  (.seq (.reg 0 false (.op (some 2) .mov [(.k (.c (.int .i64 0)))]
    .nil))
  (.seq (.reg 1 false (.op (some 3) .mov [(.t 0)]
    (.op (some 4) (.call 57 [(.i .i64)]) [(.t 3)]
    (.op (some 2) .mov [(.t 4)]
    .nil))))
  .ret)) }

/- (jacquard/set.Set).Next: 60 -/
def set_Set_Next : Fn := { np := 1, nt := 26, ns := 0, res := [.t 2 (.i .u64)], gc := false, code :=
  (.seq (.reg 0 false (.op (some 2) .mov [(.k (.c (.int .u64 0)))]
    .nil))
  (.seq (.seq (.reg 1 false (.op (some 5) .mov [(.t 0)]
    (.op (some 6) (.bin .eql) [(.t 5), (.k (.c (.int .u64 0)))]
    .nil)))
  (.cond (.t 6)
  (.seq (.reg 2 false (.op (some 2) .mov [(.k (.c (.int .u64 0)))]
    .nil))
  .ret)
  .skip))
  (.seq (.reg 3 false (.op (some 7) .mov [(.t 0)]
    (.op (some 8) .mov [(.t 0)]
    (.op (some 9) (.un .neg) [(.t 8)]
    (.op (some 10) (.bin .and) [(.t 7), (.t 9)]
    (.op (some 3) .mov [(.t 10)]
    .nil))))))
  (.seq (.reg 4 false (.op (some 11) .mov [(.t 0)]
    (.op (some 12) .mov [(.t 3)]
    (.op (some 13) (.bin .add) [(.t 11), (.t 12)]
    (.op (some 4) .mov [(.t 13)]
    .nil)))))
  (.seq (.seq (.reg 5 false (.op (some 14) .mov [(.t 4)]
    (.op (some 15) (.bin .eql) [(.t 14), (.k (.c (.int .u64 0)))]
    .nil)))
  (.cond (.t 15)
  (.seq (.reg 6 false (.op (some 2) .mov [(.k (.c (.int .u64 0)))]
    .nil))
  .ret)
  .skip))
  (.seq (.reg 7 false (.op (some 16) .mov [(.t 4)]
    (.op (some 17) .mov [(.t 0)]
    (.op (some 18) .mov [(.t 4)]
    (.op (some 19) (.bin .xor) [(.t 17), (.t 18)]
    (.op (some 20) (.bin .shr) [(.t 19), (.k (.c (.int .u64 2)))]
    (.op (some 21) .mov [(.t 3)]
    (.op (some 22) (.call 38 [(.i .i64)]) [(.t 21)]
    (.op (some 23) (.conv .u64) [(.t 22)]
    (.op (some 24) (.bin .shr) [(.t 20), (.t 23)]
    (.op (some 25) (.bin .or) [(.t 16), (.t 24)]
    (.op (some 2) .mov [(.t 25)]
    .nil))))))))))))
  .ret)))))) }

/- jacquard/set.Upto: 61 -/
def set_Upto : Fn := { np := 1, nt := 12, ns := 0, res := [.t 2 (.i .u64)], gc := false, code :=
  (.seq (.reg 0 false (.op (some 2) .mov [(.k (.c (.int .u64 0)))]
    .nil))
  (.seq (.reg 1 false (.op (some 3) .mov [(.t 0)]
    (.op (some 4) .mx [(.t 3), (.k (.c (.int .i64 0)))]
    (.op (some 5) .mn [(.t 4), (.k (.c (.int .i64 64)))]
    (.op (some 0) .mov [(.t 5)]
    .nil)))))
  (.seq (.seq (.reg 2 false (.op (some 6) .mov [(.t 0)]
    (.op (some 7) (.bin .eql) [(.t 6), (.k (.c (.int .i64 64)))]
    .nil)))
  (.cond (.t 7)
  (.seq (.reg 3 false (.op (some 2) .mov [(.k (.c (.int .u64 18446744073709551615)))]
    .nil))
  .ret)
  .skip))
  (.seq (.reg 4 false (.op (some 8) .mov [(.t 0)]
    (.op (some 9) (.conv .u64) [(.t 8)]
    (.op (some 10) (.bin .shl) [(.k (.c (.int .u64 1))), (.t 9)]
    (.op (some 11) (.bin .sub) [(.t 10), (.k (.c (.int .u64 1)))]
    (.op (some 2) .mov [(.t 11)]
    .nil))))))
  .ret)))) }

/- (jacquard/set.Set).Without: 63 -/
def set_Set_Without : Fn := { np := 2, nt := 9, ns := 0, res := [.t 4 (.i .u64)], gc := false, code :=
  (.seq (.reg 0 false (.op (some 4) .mov [(.k (.c (.int .u64 0)))]
    .nil))
  (.seq (.reg 1 false (.op (some 5) .mov [(.t 0)]
    (.op (some 6) .mov [(.t 1)]
    (.op (some 7) (.call 19 [(.i .u64)]) [(.t 6)]
    (.op (some 8) (.bin .andNot) [(.t 5), (.t 7)]
    (.op (some 4) .mov [(.t 8)]
    .nil))))))
  .ret)) }

/- jacquard/set.Of: 65 -/
def set_Of_b1 : IC :=
  (.seq (.reg 3 false (.op (some 9) (.bin .lss) [(.t 8), (.t 7)]
    .nil))
  (.seq (.cond (.t 9)
  .skip
  (.exit 0))
  (.seq (.blk 1 (.seq (.reg 4 false (.op (some 10) (.idxS 1) [(.t 6), (.t 8)]
    (.op (some 11) (.ld .heap (.i .i64)) [(.t 10)]
    (.op (some 5) .mov [(.t 11)]
    .nil))))
  (.reg 5 false (.op (some 12) .mov [(.t 3)]
    (.op (some 13) .mov [(.t 5)]
    (.op (some 14) (.call 18 [(.i .u64)]) [(.t 12), (.t 13)]
    (.op (some 3) .mov [(.t 14)]
    .nil)))))))
  (.reg 6 false (.op (some 15) (.bin .add) [(.t 8), (.k (.c (.int .i64 1)))]
    (.op (some 8) .mov [(.t 15)]
    .nil))))))
def set_Of_p1 : IC :=
  (.seq (.reg 7 false (.op (some 16) .mov [(.t 3)]
    (.op (some 2) .mov [(.t 16)]
    .nil)))
  .ret)
def set_Of : Fn := { np := 1, nt := 17, ns := 0, res := [.t 2 (.i .u64)], gc := false, code :=
  (.seq (.reg 0 false (.op (some 2) .mov [(.k (.c (.int .u64 0)))]
    .nil))
  (.seq (.reg 1 false (.op (some 3) .mov [(.k (.c (.int .u64 0)))]
    .nil))
  (.seq (.seq (.reg 2 false (.op (some 6) .mov [(.t 0)]
    (.op (some 7) .len [(.t 6)]
    (.op (some 8) .mov [(.k (.c (.int .i64 0)))]
    .nil))))
  (.blk 0 (.loop [3, 6, 7, 8] [] [(1, [3], [])] set_Of_b1)))
  set_Of_p1))) }


end Jq

/- What a function needs of an environment. -/
namespace Jq
open Go

structure set_bit_In (E : Env) : Prop where
  fn : E.fn 19 = some set_bit

structure set_Set_With_In (E : Env) : Prop where
  fn : E.fn 18 = some set_Set_With
  c19 : set_bit_In E

structure set_Set_Has_In (E : Env) : Prop where
  fn : E.fn 17 = some set_Set_Has
  c19 : set_bit_In E

structure set_Set_First_In (E : Env) : Prop where
  fn : E.fn 38 = some set_Set_First
  c42 : bits_TrailingZeros64_In E

structure set_Set_List_In (E : Env) : Prop where
  fn : E.fn 32 = some set_Set_List
  c38 : set_Set_First_In E

structure set_Set_Len_In (E : Env) : Prop where
  fn : E.fn 56 = some set_Set_Len
  c57 : bits_OnesCount64_In E

structure set_Upto_In (E : Env) : Prop where
  fn : E.fn 61 = some set_Upto

structure set_Set_Next_In (E : Env) : Prop where
  fn : E.fn 60 = some set_Set_Next
  c38 : set_Set_First_In E

structure set_Of_In (E : Env) : Prop where
  fn : E.fn 65 = some set_Of
  c18 : set_Set_With_In E

structure set_Set_Without_In (E : Env) : Prop where
  fn : E.fn 63 = some set_Set_Without
  c19 : set_bit_In E

end Jq

namespace Jq
open Go

/- (jacquard/set.Set).Has: 17 -/
set_option maxRecDepth 100000 in
theorem set_Set_Has_eq (C : CallF) (L : LoopF) (G : Glo) (a0 : Int) (a1 : Int) (h0 : AHeap) :
    set_Set_Has.body C L G [(.c (.int .u64 a0)), (.c (.int .i64 a1))] h0 =
    c1 (C 19 [(.c (.int .i64 a1))] h0) fun y_2 h_1 => asI .u64 y_2 fun n_3 => some ([(.c (.bool ((G.band .u64 a0 n_3) != 0)))], h_1) := by kernel_rfl

/- (jacquard/set.Set).With: 18 -/
set_option maxRecDepth 100000 in
theorem set_Set_With_eq (C : CallF) (L : LoopF) (G : Glo) (a0 : Int) (a1 : Int) (h0 : AHeap) :
    set_Set_With.body C L G [(.c (.int .u64 a0)), (.c (.int .i64 a1))] h0 =
    c1 (C 19 [(.c (.int .i64 a1))] h0) fun y_2 h_1 => asI .u64 y_2 fun n_3 => some ([(.c (.int .u64 (G.bor .u64 a0 n_3)))], h_1) := by kernel_rfl

/- jacquard/set.bit: 19 -/
set_option maxRecDepth 100000 in
theorem set_bit_eq (C : CallF) (L : LoopF) (G : Glo) (a0 : Int) (h0 : AHeap) :
    set_bit.body C L G [(.c (.int .i64 a0))] h0 =
    scK (decide (a0 < 0)) false (some ((decide (a0 ≥ 64)), h0)) true h0 fun b_1 h_2 => if b_1 = true then some ([(.c (.int .u64 0))], h_2) else if (G.wrap .u64 a0) < 0 then none else some ([(.c (.int .u64 (G.shl .u64 1 (G.wrap .u64 a0))))], h_2) := by kernel_rfl

/- (jacquard/set.Set).List: 32 -/
def set_Set_List_k2 (C : CallF) (L : LoopF) (G : Glo) (h0 : AHeap) : Ex → St → Option (List AV × AHeap) :=
  kSeq (fun st => set_Set_List_p1.exec C L G st (set_Set_List.fin G h0)) (set_Set_List.fin G h0)
def set_Set_List_k3 (C : CallF) (L : LoopF) (G : Glo) (h0 : AHeap) : Ex → St → Option (List AV × AHeap) :=
  kBlk 0 (set_Set_List_k2 C L G h0)
def set_Set_List_s1 (a0 : Int) (x3 : Cell) (h : AHeap) : St := ⟨[.v (.c (.int .u64 a0)), .top, .top, .v (.c x3), .top, .top, .top, .top, .top, .top, .top, .top, .top, .top, .top, .top], [], h⟩
def set_Set_List_F1 (C : CallF) (L : LoopF) (G : Glo) : St → Option (Ex × St) :=
  roundF (fun st f => set_Set_List_b1.exec C L G st f) [0, 3] [] [(1, [3], [])]
def set_Set_List_x1_1 (x3 : Cell) (h : AHeap) : St := ⟨[.top, .top, .top, .v (.c x3), .top, .top, .top, .top, .top, .top, .top, .top, .top, .top, .top, .top], [], h⟩
theorem set_Set_List_r1 (C : CallF) (L : LoopF) (G : Glo) (a0 : Int) (x3 : Cell) (h : AHeap) :
    set_Set_List_F1 C L G (set_Set_List_s1 a0 x3 h) =
    if (a0 != 0) = true then c1 (C 38 [(.c (.int .u64 a0))] h) fun y_2 h_1 => asI .i64 y_2 fun n_3 => if (splice [Cell.int .i64 0] 0 ([(.int .i64 n_3)] : List Cell)).length = 1 * 1 then appK 1 8 x3 (splice [Cell.int .i64 0] 0 ([(.int .i64 n_3)] : List Cell)) h_1 fun x_4 h_5 => some (.normal, (set_Set_List_s1 (G.band .u64 a0 (G.wrap .u64 (a0 - 1))) x_4 h_5)) else none else some ((.exit 0), (set_Set_List_x1_1 x3 h)) := by kernel_rfl
theorem set_Set_List_e1_1 (C : CallF) (L : LoopF) (G : Glo) (h0 : AHeap) (x3 : Cell) (h : AHeap) :
    (set_Set_List_k3 C L G h0) (.exit 0) (set_Set_List_x1_1 x3 h) =
    some ([(.c x3)], h) := by kernel_rfl
set_option maxRecDepth 100000 in
theorem set_Set_List_eq (C : CallF) (L : LoopF) (G : Glo) (a0 : Int) (h0 : AHeap) :
    set_Set_List.body C L G [(.c (.int .u64 a0))] h0 =
    (L (set_Set_List_F1 C L G) (set_Set_List_s1 a0 .nils h0)).bind fun p_6 => (set_Set_List_k3 C L G h0) p_6.1 p_6.2 := by kernel_rfl

/- (jacquard/set.Set).First: 38 -/
set_option maxRecDepth 100000 in
theorem set_Set_First_eq (C : CallF) (L : LoopF) (G : Glo) (a0 : Int) (h0 : AHeap) :
    set_Set_First.body C L G [(.c (.int .u64 a0))] h0 =
    if (a0 == 0) = true then some ([(.c (.int .i64 (-1)))], h0) else c1 (C 42 [(.c (.int .u64 a0))] h0) fun y_2 h_1 => asI .i64 y_2 fun n_3 => some ([(.c (.int .i64 n_3))], h_1) := by kernel_rfl

/- (jacquard/set.Set).Len: 56 -/
set_option maxRecDepth 100000 in
theorem set_Set_Len_eq (C : CallF) (L : LoopF) (G : Glo) (a0 : Int) (h0 : AHeap) :
    set_Set_Len.body C L G [(.c (.int .u64 a0))] h0 =
    c1 (C 57 [(.c (.int .u64 a0))] h0) fun y_2 h_1 => asI .i64 y_2 fun n_3 => some ([(.c (.int .i64 n_3))], h_1) := by kernel_rfl

/- (jacquard/set.Set).Next: 60 -/
set_option maxRecDepth 100000 in
theorem set_Set_Next_eq (C : CallF) (L : LoopF) (G : Glo) (a0 : Int) (h0 : AHeap) :
    set_Set_Next.body C L G [(.c (.int .u64 a0))] h0 =
    if (a0 == 0) = true then some ([(.c (.int .u64 0))], h0) else let v_1 : Int := (G.wrap .u64 (a0 + (G.band .u64 a0 (G.wrap .u64 (0 - a0))))); if (v_1 == 0) = true then some ([(.c (.int .u64 0))], h0) else c1 (C 38 [(.c (.int .u64 (G.band .u64 a0 (G.wrap .u64 (0 - a0)))))] h0) fun y_3 h_2 => asI .i64 y_3 fun n_4 => if (G.wrap .u64 n_4) < 0 then none else let v_5 : Int := (G.shr .u64 (G.shr .u64 (G.bxor .u64 a0 v_1) 2) (G.wrap .u64 n_4)); some ([(.c (.int .u64 (G.bor .u64 v_1 v_5)))], h_2) := by kernel_rfl

/- jacquard/set.Upto: 61 -/
set_option maxRecDepth 100000 in
theorem set_Upto_eq (C : CallF) (L : LoopF) (G : Glo) (a0 : Int) (h0 : AHeap) :
    set_Upto.body C L G [(.c (.int .i64 a0))] h0 =
    let v_1 : Int := (if 64 < (if 0 > a0 then 0 else a0) then 64 else (if 0 > a0 then 0 else a0)); if (v_1 == 64) = true then some ([(.c (.int .u64 18446744073709551615))], h0) else if (G.wrap .u64 v_1) < 0 then none else let v_2 : Int := (G.wrap .u64 ((G.shl .u64 1 (G.wrap .u64 v_1)) - 1)); some ([(.c (.int .u64 v_2))], h0) := by kernel_rfl

/- (jacquard/set.Set).Without: 63 -/
set_option maxRecDepth 100000 in
theorem set_Set_Without_eq (C : CallF) (L : LoopF) (G : Glo) (a0 : Int) (a1 : Int) (h0 : AHeap) :
    set_Set_Without.body C L G [(.c (.int .u64 a0)), (.c (.int .i64 a1))] h0 =
    c1 (C 19 [(.c (.int .i64 a1))] h0) fun y_2 h_1 => asI .u64 y_2 fun n_3 => some ([(.c (.int .u64 (G.bandNot .u64 a0 n_3)))], h_1) := by kernel_rfl

/- jacquard/set.Of: 65 -/
def set_Of_k2 (C : CallF) (L : LoopF) (G : Glo) (h0 : AHeap) : Ex → St → Option (List AV × AHeap) :=
  kSeq (fun st => set_Of_p1.exec C L G st (set_Of.fin G h0)) (set_Of.fin G h0)
def set_Of_k3 (C : CallF) (L : LoopF) (G : Glo) (h0 : AHeap) : Ex → St → Option (List AV × AHeap) :=
  kBlk 0 (set_Of_k2 C L G h0)
def set_Of_s1 (a3 : Int) (x6 : Cell) (a7 : Int) (a8 : Int) (h : AHeap) : St := ⟨[.top, .top, .top, .v (.c (.int .u64 a3)), .top, .top, .v (.c x6), .v (.c (.int .i64 a7)), .v (.c (.int .i64 a8)), .top, .top, .top, .top, .top, .top, .top, .top], [], h⟩
def set_Of_F1 (C : CallF) (L : LoopF) (G : Glo) : St → Option (Ex × St) :=
  roundF (fun st f => set_Of_b1.exec C L G st f) [3, 6, 7, 8] [] [(1, [3], [])]
def set_Of_x1_1 (a3 : Int) (h : AHeap) : St := ⟨[.top, .top, .top, .v (.c (.int .u64 a3)), .top, .top, .top, .top, .top, .top, .top, .top, .top, .top, .top, .top, .top], [], h⟩
theorem set_Of_r1 (C : CallF) (L : LoopF) (G : Glo) (a3 : Int) (x6 : Cell) (a7 : Int) (a8 : Int) (h : AHeap) :
    set_Of_F1 C L G (set_Of_s1 a3 x6 a7 a8 h) =
    if (decide (a8 < a7)) = true then idxSK 1 x6 a8 fun k_2 N_3 o_4 => rdH h k_2 N_3 fun l_5 => atK l_5 o_4 fun q_6 => asI .i64 (.c q_6) fun n_7 => c1 (C 18 [(.c (.int .u64 a3)), (.c (.int .i64 n_7))] h) fun y_9 h_8 => asI .u64 y_9 fun n_10 => some (.normal, (set_Of_s1 n_10 x6 a7 (G.wrap .i64 (a8 + 1)) h_8)) else some ((.exit 0), (set_Of_x1_1 a3 h)) := by kernel_rfl
theorem set_Of_e1_1 (C : CallF) (L : LoopF) (G : Glo) (h0 : AHeap) (a3 : Int) (h : AHeap) :
    (set_Of_k3 C L G h0) (.exit 0) (set_Of_x1_1 a3 h) =
    some ([(.c (.int .u64 a3))], h) := by kernel_rfl
set_option maxRecDepth 100000 in
theorem set_Of_eq (C : CallF) (L : LoopF) (G : Glo) (x0 : Cell) (h0 : AHeap) :
    set_Of.body C L G [(.c x0)] h0 =
    lenK x0 fun n_1 => (L (set_Of_F1 C L G) (set_Of_s1 0 x0 n_1 0 h0)).bind fun p_11 => (set_Of_k3 C L G h0) p_11.1 p_11.2 := by kernel_rfl


end Jq

/- Few numbers in one word: what the package's functions come to. -/
namespace Jq
open Go

/-- A number's bit. -/
def bitI (i : Int) : Nat := if 0 ≤ i ∧ i < 64 then 2 ^ i.toNat else 0

theorem bitI_lt (i : Int) : bitI i < 2 ^ 64 := by
  unfold bitI; split
  · exact Nat.pow_lt_pow_right (by omega) (by omega)
  · omega

theorem testBit_bitI (i : Int) (j : Nat) : (bitI i).testBit j = (decide (i = j) && decide (j < 64)) := by
  unfold bitI; split
  · rename_i h
    rw [Nat.testBit_two_pow]
    rw [Bool.eq_iff_iff]; simp; omega
  · rename_i h
    rw [Nat.zero_testBit, eq_comm, Bool.eq_false_iff]; simp; omega

/-- Whether a number is in it. -/
def hasI (s : Nat) (i : Int) : Bool := decide (0 ≤ i) && s.testBit i.toNat && decide (i < 64)

theorem and_bitI {s : Nat} (i : Int) : ((s &&& bitI i) != 0) = hasI s i := by
  unfold hasI bitI
  by_cases h : 0 ≤ i ∧ i < 64
  · rw [if_pos h]
    simp only [h.1, h.2, decide_true, Bool.true_and, Bool.and_true]
    cases hb : s.testBit i.toNat with
    | true =>
      simp only [bne_iff_ne, ne_eq]
      intro h0
      have := congrArg (fun x => x.testBit i.toNat) h0
      simp [Nat.testBit_and, hb, Nat.testBit_two_pow] at this
    | false =>
      have : s &&& 2 ^ i.toNat = 0 := by
        refine Nat.eq_of_testBit_eq fun j => ?_
        rw [Nat.testBit_and, Nat.testBit_two_pow, Nat.zero_testBit]
        by_cases hj : i.toNat = j
        · subst hj; simp [hb]
        · simp [hj]
      simp [this]
  · rw [if_neg h]
    have : ¬ (0 ≤ i) ∨ ¬ (i < 64) := by omega
    rcases this with h | h <;> simp [h]

theorem hasI_nat {s i : Nat} (hi : i < 64) : hasI s (i : Int) = s.testBit i := by
  unfold hasI; simp; omega

variable {E : Env}

theorem bit_R (hE : set_bit_In E) (i : Int) (h : AHeap) : R E 19 [.c (.int .i64 i)] h = some ([.c (.int .u64 (bitI i))], h) := by
  refine R_intro hE.fn ?_
  rw [set_bit_eq, scK_or]
  unfold bitI
  by_cases hi : 0 ≤ i ∧ i < 64
  · have h1 : (decide (i < 0) || decide (i ≥ 64)) = false := by simp; omega
    rw [h1, if_pos hi]
    obtain ⟨n, rfl⟩ := Int.eq_ofNat_of_zero_le hi.1
    have hw : E.glob.wrap .u64 (n : Int) = n := wrap_u64n (by omega)
    rw [hw]
    simp only [Bool.false_eq_true, if_false]
    rw [if_neg (by omega), show E.glob.shl .u64 1 (n : Int) = _ from std_shl_one (by omega)]
    simp
  · have h1 : (decide (i < 0) || decide (i ≥ 64)) = true := by simp; omega
    rw [h1, if_neg hi]; simp

theorem Has_R (hE : set_Set_Has_In E) {s : Nat} (hs : s < 2 ^ 64) (i : Int) (h : AHeap) : R E 17 [.c (.int .u64 s), .c (.int .i64 i)] h = some ([.c (.bool (hasI s i))], h) := by
  refine R_intro hE.fn ?_
  rw [set_Set_Has_eq, bit_R hE.c19, c1_ok, asI_ok, show E.glob.band .u64 (s : Int) _ = _ from std_band hs (bitI_lt i), ← and_bitI]
  have : (((s &&& bitI i : Nat) : Int) != 0) = (s &&& bitI i != 0) := by rw [Bool.eq_iff_iff]; simp
  rw [this]

theorem With_R (hE : set_Set_With_In E) {s : Nat} (hs : s < 2 ^ 64) (i : Int) (h : AHeap) : R E 18 [.c (.int .u64 s), .c (.int .i64 i)] h = some ([.c (.int .u64 ((s ||| bitI i : Nat) : Int))], h) := by
  refine R_intro hE.fn ?_
  rw [set_Set_With_eq, bit_R hE.c19, c1_ok, asI_ok, show E.glob.bor .u64 (s : Int) _ = _ from std_bor hs (bitI_lt i)]

theorem Without_R (hE : set_Set_Without_In E) {s : Nat} (hs : s < 2 ^ 64) (i : Int) (h : AHeap) : R E 63 [.c (.int .u64 s), .c (.int .i64 i)] h = some ([.c (.int .u64 ((ndiff s (bitI i) : Nat) : Int))], h) := by
  refine R_intro hE.fn ?_
  rw [set_Set_Without_eq, bit_R hE.c19, c1_ok, asI_ok, show E.glob.bandNot .u64 (s : Int) _ = _ from std_bandNot hs (bitI_lt i)]

end Jq

namespace Jq
open Go

/- math/bits.TrailingZeros64: 42 -/
set_option maxRecDepth 100000 in
theorem bits_TrailingZeros64_eq (C : CallF) (L : LoopF) (G : Glo) (a0 : Int) (h0 : AHeap) :
    bits_TrailingZeros64.body C L G [(.c (.int .u64 a0))] h0 =
    if (a0 == 0) = true then some ([(.c (.int .i64 64))], h0) else let v_1 : Int := (G.wrap .u64 ((G.band .u64 a0 (G.wrap .u64 (0 - a0))) * 285870213051353865)); if 0 ≤ (G.shr .u64 v_1 58) ∧ (G.shr .u64 v_1 58) < ((64 : Nat) : Int) then atK (G.tab 1) (0 + ((Int.toNat (G.shr .u64 v_1 58)) * 1)) fun q_2 => asI .u8 (.c q_2) fun n_3 => some ([(.c (.int .i64 (G.wrap .i64 n_3)))], h0) else none := by kernel_rfl

/- math/bits.OnesCount64: 57 -/
set_option maxRecDepth 100000 in
theorem bits_OnesCount64_eq (C : CallF) (L : LoopF) (G : Glo) (a0 : Int) (h0 : AHeap) :
    bits_OnesCount64.body C L G [(.c (.int .u64 a0))] h0 =
    let v_1 : Int := (G.band .u64 (G.shr .u64 a0 1) 6148914691236517205); let v_2 : Int := (G.wrap .u64 (v_1 + (G.band .u64 a0 6148914691236517205))); let v_3 : Int := (G.band .u64 (G.shr .u64 v_2 2) 3689348814741910323); let v_4 : Int := (G.wrap .u64 (v_3 + (G.band .u64 v_2 3689348814741910323))); let v_5 : Int := (G.band .u64 (G.wrap .u64 ((G.shr .u64 v_4 4) + v_4)) 1085102592571150095); let v_6 : Int := (G.shr .u64 (G.wrap .u64 (v_5 + (G.shr .u64 v_5 8))) 16); let v_7 : Int := (G.wrap .u64 ((G.wrap .u64 (v_5 + (G.shr .u64 v_5 8))) + v_6)); let v_8 : Int := (G.wrap .u64 (v_7 + (G.shr .u64 v_7 32))); some ([(.c (.int .i64 (G.band .i64 (G.wrap .i64 v_8) 127)))], h0) := by kernel_rfl


end Jq

/- Bits counted, and the lowest one: what math/bits comes to. -/
namespace Jq
open Go

/-- How many of the first k bits are set. -/
def pcN : Nat → Nat → Nat
  | 0, _ => 0
  | k + 1, x => x % 2 + pcN k (x / 2)

/-- How many numbers a word has. -/
def pc (x : Nat) : Nat := pcN 64 x

theorem pcN_add : ∀ (m n x : Nat), pcN (m + n) x = pcN m x + pcN n (x / 2 ^ m)
  | 0, n, x => by simp [pcN]
  | m + 1, n, x => by
    rw [show m + 1 + n = (m + n) + 1 by omega, pcN, pcN_add m n, pcN, Nat.div_div_eq_div_mul, Nat.pow_succ, Nat.mul_comm 2, Nat.add_assoc]

theorem pcN_mod : ∀ (m x : Nat), pcN m (x % 2 ^ m) = pcN m x
  | 0, _ => rfl
  | m + 1, x => by
    rw [pcN, pcN, ← pcN_mod m (x / 2), ← pcN_mod m (x % 2 ^ (m + 1) / 2)]
    have h1 : x % 2 ^ (m + 1) % 2 = x % 2 := Nat.mod_mod_of_dvd _ ⟨2 ^ m, by rw [Nat.pow_succ, Nat.mul_comm]⟩
    have h2 : x % 2 ^ (m + 1) / 2 = x / 2 % 2 ^ m := by
      rw [Nat.pow_succ, Nat.mul_comm, Nat.mod_mul_right_div_self]
    rw [h1, h2, Nat.mod_mod]

/-- A function of each byte. -/
def mapB (f : Nat → Nat) : Nat → Nat → Nat
  | 0, _ => 0
  | k + 1, x => f (x % 256) + 256 * mapB f k (x / 256)

def repB (c : Nat) : Nat → Nat
  | 0 => 0
  | k + 1 => c + 256 * repB c k

theorem land_bytes {a b m n : Nat} (ha : a < 256) (hm : m < 256) : (a + 256 * b) &&& (m + 256 * n) = (a &&& m) + 256 * (b &&& n) := by
  have h1 : ((a + 256 * b) &&& (m + 256 * n)) % 256 = a &&& m := by
    have := @Nat.and_mod_two_pow (a + 256 * b) (m + 256 * n) 8
    rw [show (2 : Nat) ^ 8 = 256 from rfl] at this
    rw [this, Nat.add_mul_mod_self_left, Nat.add_mul_mod_self_left, Nat.mod_eq_of_lt ha, Nat.mod_eq_of_lt hm]
  have h2 : ((a + 256 * b) &&& (m + 256 * n)) / 256 = b &&& n := by
    have := @Nat.and_div_two_pow (a + 256 * b) (m + 256 * n) 8
    rw [show (2 : Nat) ^ 8 = 256 from rfl] at this
    rw [this, Nat.add_mul_div_left _ _ (by omega), Nat.add_mul_div_left _ _ (by omega), Nat.div_eq_of_lt ha, Nat.div_eq_of_lt hm, Nat.zero_add, Nat.zero_add]
  omega

def fb1 (b : Nat) : Nat := ((b / 2) &&& 0x55) + (b &&& 0x55)
def fb2 (b : Nat) : Nat := ((b / 4) &&& 0x33) + (b &&& 0x33)
def fb3 (b : Nat) : Nat := (b + b / 16) &&& 0x0f

theorem fb1_lt : ∀ b, b < 256 → fb1 b < 256 ∧ fb1 b % 4 < 3 ∧ ((b / 2 + 128) &&& 0x55 = (b / 2) &&& 0x55) := by decide +kernel
theorem fb2_lt : ∀ b, b < 256 → fb2 b < 256 ∧ (∀ c, c < 4 → ((b / 4 + 64 * c) &&& 0x33 = (b / 4) &&& 0x33)) := by decide +kernel
theorem fb12_lt : ∀ b, b < 256 → fb2 (fb1 b) ≤ 68 ∧ fb2 (fb1 b) % 16 ≤ 4 ∧ fb2 (fb1 b) / 16 ≤ 4 := by decide +kernel
theorem fb3_c : ∀ b, b < 69 → ∀ c, c < 5 → (b + b / 16 + 16 * c) < 256 ∧ (b % 16 ≤ 4 → b / 16 ≤ 4 → (b + b / 16 + 16 * c) &&& 0x0f = fb3 b) := by decide +kernel
theorem fb_pc : ∀ b, b < 256 → fb3 (fb2 (fb1 b)) = pcN 8 b ∧ pcN 8 b ≤ 8 := by decide +kernel

theorem mapB_lt {f : Nat → Nat} (hf : ∀ b, b < 256 → f b < 256) : ∀ k x, mapB f k x < 256 ^ k
  | 0, _ => by simp [mapB]
  | k + 1, x => by
    have h1 := hf (x % 256) (Nat.mod_lt _ (by omega))
    have h2 := mapB_lt hf k (x / 256)
    rw [mapB, Nat.pow_succ]; omega

theorem mapB_le {f : Nat → Nat} {c : Nat} (hf : ∀ b, b < 256 → f b ≤ c) : ∀ k x, mapB f k x ≤ repB c k
  | 0, _ => by simp [mapB]
  | k + 1, x => by
    have h1 := hf (x % 256) (Nat.mod_lt _ (by omega))
    have h2 := mapB_le hf k (x / 256)
    rw [mapB, repB]; omega

theorem mapB_mod {f : Nat → Nat} (hf : ∀ b, b < 256 → f b < 256) (k x : Nat) : mapB f (k + 1) x % 256 = f (x % 256) ∧ mapB f (k + 1) x / 256 = mapB f k (x / 256) := by
  have h1 := hf (x % 256) (Nat.mod_lt _ (by omega))
  rw [mapB]; omega

theorem stage1 : ∀ k x, x < 256 ^ k → ((x / 2) &&& repB 0x55 k) + (x &&& repB 0x55 k) = mapB fb1 k x
  | 0, x, h => by simp [repB, mapB]
  | k + 1, x, h => by
    have hx : x = x % 256 + 256 * (x / 256) := by omega
    have hlt : x / 256 < 256 ^ k := by rw [Nat.pow_succ] at h; omega
    have ih := stage1 k (x / 256) hlt
    have hb : x % 256 < 256 := Nat.mod_lt _ (by omega)
    generalize hlo : x % 256 = lo at hx hb
    generalize hhi : x / 256 = hi at hx ih hlt
    have e1 : x / 2 = (lo / 2 + 128 * (hi % 2)) + 256 * (hi / 2) := by omega
    rw [repB, e1, land_bytes (by omega) (by omega), hx, land_bytes hb (by omega), ← hx, mapB, hlo, hhi, ← ih]
    have hc : (lo / 2 + 128 * (hi % 2)) &&& 0x55 = (lo / 2) &&& 0x55 := by
      rcases Nat.mod_two_eq_zero_or_one hi with h0 | h0
      · rw [h0]; simp
      · rw [h0]; exact (fb1_lt lo hb).2.2
    rw [hc]; unfold fb1; omega

theorem stage2 : ∀ k x, x < 256 ^ k → ((x / 4) &&& repB 0x33 k) + (x &&& repB 0x33 k) = mapB fb2 k x
  | 0, x, h => by simp [repB, mapB]
  | k + 1, x, h => by
    have hx : x = x % 256 + 256 * (x / 256) := by omega
    have hlt : x / 256 < 256 ^ k := by rw [Nat.pow_succ] at h; omega
    have ih := stage2 k (x / 256) hlt
    have hb : x % 256 < 256 := Nat.mod_lt _ (by omega)
    generalize hlo : x % 256 = lo at hx hb
    generalize hhi : x / 256 = hi at hx ih hlt
    have e1 : x / 4 = (lo / 4 + 64 * (hi % 4)) + 256 * (hi / 4) := by omega
    rw [repB, e1, land_bytes (by omega) (by omega), hx, land_bytes hb (by omega), ← hx, mapB, hlo, hhi, ← ih, (fb2_lt lo hb).2 (hi % 4) (Nat.mod_lt _ (by omega))]
    unfold fb2; omega

theorem mapB_comp {f g : Nat → Nat} (hg : ∀ b, b < 256 → g b < 256) : ∀ k x, mapB f k (mapB g k x) = mapB (fun b => f (g b)) k x
  | 0, _ => rfl
  | k + 1, x => by
    obtain ⟨h1, h2⟩ := mapB_mod hg k x
    rw [mapB, h1, h2, mapB_comp hg k, mapB]

theorem stage3 : ∀ k x, ((mapB (fun b => fb2 (fb1 b)) k x / 16 + mapB (fun b => fb2 (fb1 b)) k x) &&& repB 0x0f k) = mapB (fun b => fb3 (fb2 (fb1 b))) k x
  | 0, x => by simp [repB, mapB]
  | k + 1, x => by
    have hb : x % 256 < 256 := Nat.mod_lt _ (by omega)
    obtain ⟨q1, q2, q3⟩ := fb12_lt _ hb
    have ih := stage3 k (x / 256)
    have hc : mapB (fun b => fb2 (fb1 b)) k (x / 256) % 16 < 5 := by
      cases k with
      | zero => simp [mapB]
      | succ k =>
        have hb2 : x / 256 % 256 < 256 := Nat.mod_lt _ (by omega)
        have := (fb12_lt _ hb2).2.1
        rw [mapB]; omega
    rw [mapB, mapB, repB]
    generalize hhi : mapB (fun b => fb2 (fb1 b)) k (x / 256) = hi at ih hc
    try dsimp only at q1 q2 q3 ⊢
    generalize hlo : fb2 (fb1 (x % 256)) = lo at q1 q2 q3
    have e1 : (lo + 256 * hi) / 16 + (lo + 256 * hi) = (lo + lo / 16 + 16 * (hi % 16)) + 256 * (hi / 16 + hi) := by omega
    obtain ⟨r1, r2⟩ := fb3_c lo (by omega) (hi % 16) hc
    rw [e1, land_bytes r1 (by omega), r2 q2 q3, ih]

theorem bytes_pc (x : Nat) : pc x = pcN 8 (x % 256) + pcN 8 (x / 256 % 256) + pcN 8 (x / 256 / 256 % 256) + pcN 8 (x / 256 / 256 / 256 % 256) + pcN 8 (x / 256 / 256 / 256 / 256 % 256) +
    pcN 8 (x / 256 / 256 / 256 / 256 / 256 % 256) + pcN 8 (x / 256 / 256 / 256 / 256 / 256 / 256 % 256) + pcN 8 (x / 256 / 256 / 256 / 256 / 256 / 256 / 256 % 256) := by
  have h8 : ∀ y, pcN 8 (y % 256) = pcN 8 y := fun y => pcN_mod 8 y
  have s : ∀ n y, pcN (8 + n) y = pcN 8 y + pcN n (y / 256) := fun n y => pcN_add 8 n y
  simp only [h8]
  unfold pc
  rw [show 64 = 8 + 56 from rfl, s, show 56 = 8 + 48 from rfl, s, show 48 = 8 + 40 from rfl, s, show 40 = 8 + 32 from rfl, s, show 32 = 8 + 24 from rfl, s, show 24 = 8 + 16 from rfl, s, show 16 = 8 + 8 from rfl, s]
  omega

theorem dm {a b k : Nat} (hk : 0 < k) (h : a < k) : (a + k * b) / k = b := by
  rw [Nat.add_mul_div_left _ _ hk, Nat.div_eq_of_lt h, Nat.zero_add]
theorem s8a (p0 p1 p2 r3 : Nat) : p0 + 256 * (p1 + 256 * (p2 + 256 * r3)) + (p1 + 256 * (p2 + 256 * r3)) = (p0 + p1 + 256 * (p1 + p2)) + 65536 * (p2 + 256 * r3 + r3) := by omega
theorem s8b (p2 p3 p4 r5 : Nat) : p2 + 256 * (p3 + 256 * (p4 + 256 * r5)) + (p3 + 256 * (p4 + 256 * r5)) = (p2 + p3 + 256 * (p3 + p4)) + 65536 * (p4 + 256 * r5 + r5) := by omega
theorem s8c (a b c d Q : Nat) : a + 65536 * (b + 65536 * Q) + (b + 65536 * Q) = (a + b + 65536 * b) + 65536 * Q + 4294967296 * Q := by omega
theorem s8d (X c Q : Nat) : X + 65536 * (c + 65536 * Q) + 4294967296 * (c + 65536 * Q) = (X + 65536 * c) + 4294967296 * (Q + (c + 65536 * Q)) := by omega
theorem v_le (p0 p1 p2 p3 p4 p5 p6 p7 : Nat) (h0 : p0 ≤ 8) (h1 : p1 ≤ 8) (h2 : p2 ≤ 8) (h3 : p3 ≤ 8) (h4 : p4 ≤ 8) (h5 : p5 ≤ 8) (h6 : p6 ≤ 8) (h7 : p7 ≤ 8) :
    p0 + 256 * (p1 + 256 * (p2 + 256 * (p3 + 256 * (p4 + 256 * (p5 + 256 * (p6 + 256 * p7)))))) ≤ 578721382704613384 := by
  have a7 : p6 + 256 * p7 ≤ 2056 := by omega
  generalize p6 + 256 * p7 = r at *
  have a6 : p5 + 256 * r ≤ 526344 := by omega
  generalize p5 + 256 * r = r at *
  have a5 : p4 + 256 * r ≤ 134744072 := by omega
  generalize p4 + 256 * r = r at *
  have a4 : p3 + 256 * r ≤ 34494482440 := by omega
  generalize p3 + 256 * r = r at *
  have a3 : p2 + 256 * r ≤ 8830587504648 := by omega
  generalize p2 + 256 * r = r at *
  have a2 : p1 + 256 * r ≤ 2260630401189896 := by omega
  generalize p1 + 256 * r = r at *
  omega

theorem lowA {a b c : Nat} (h0 : a ≤ 8) (h1 : b ≤ 8) (h2 : c ≤ 8) : a + b + 256 * (b + c) < 65536 := by omega
theorem lowB {p0 p1 p2 p3 p4 p5 p6 : Nat} (h0 : p0 ≤ 8) (h1 : p1 ≤ 8) (h2 : p2 ≤ 8) (h3 : p3 ≤ 8) (h4 : p4 ≤ 8) (h5 : p5 ≤ 8) (h6 : p6 ≤ 8) :
    (p0 + p1 + 256 * (p1 + p2)) + (p2 + p3 + 256 * (p3 + p4)) + 65536 * (p2 + p3 + 256 * (p3 + p4)) + 65536 * (p4 + p5 + 256 * (p5 + p6)) < 4294967296 := by omega
theorem s8e (p0 p1 p2 p3 p4 p5 p6 p7 W : Nat) (hW : W = (p6 + 256 * p7 + p7) + ((p4 + p5 + 256 * (p5 + p6)) + 65536 * (p6 + 256 * p7 + p7))) :
    ((p0 + p1 + 256 * (p1 + p2)) + (p2 + p3 + 256 * (p3 + p4)) + 65536 * (p2 + p3 + 256 * (p3 + p4)) + 65536 * (p4 + p5 + 256 * (p5 + p6))) + 4294967296 * W + W =
    (p0 + p1 + p2 + p3 + p4 + p5 + p6 + p7) + 128 * (2 * ((p1 + p2) + (p3 + p4) + 256 * (p2 + p3 + 256 * (p3 + p4)) + 256 * (p4 + p5 + 256 * (p5 + p6)) + 16777216 * W + (p7 + (p5 + p6) + 256 * (p6 + 256 * p7 + p7)))) := by
  omega
theorem sum_le {p0 p1 p2 p3 p4 p5 p6 p7 : Nat} (h0 : p0 ≤ 8) (h1 : p1 ≤ 8) (h2 : p2 ≤ 8) (h3 : p3 ≤ 8) (h4 : p4 ≤ 8) (h5 : p5 ≤ 8) (h6 : p6 ≤ 8) (h7 : p7 ≤ 8) : p0 + p1 + p2 + p3 + p4 + p5 + p6 + p7 < 128 := by omega

theorem sum8 (p0 p1 p2 p3 p4 p5 p6 p7 : Nat) (h0 : p0 ≤ 8) (h1 : p1 ≤ 8) (h2 : p2 ≤ 8) (h3 : p3 ≤ 8) (h4 : p4 ≤ 8) (h5 : p5 ≤ 8) (h6 : p6 ≤ 8) (h7 : p7 ≤ 8) (v u t : Nat)
    (hv : v = p0 + 256 * (p1 + 256 * (p2 + 256 * (p3 + 256 * (p4 + 256 * (p5 + 256 * (p6 + 256 * p7))))))) (hu : u = v + v / 256) (ht : t = u + u / 65536) :
    v < 2 ^ 63 ∧ u < 2 ^ 63 ∧ t < 2 ^ 63 ∧ t + t / 4294967296 < 2 ^ 63 ∧ (t + t / 4294967296) % 128 = p0 + p1 + p2 + p3 + p4 + p5 + p6 + p7 := by
  have bv := v_le p0 p1 p2 p3 p4 p5 p6 p7 h0 h1 h2 h3 h4 h5 h6 h7
  rw [← hv] at bv
  have d1 : v / 256 ≤ v := Nat.div_le_self _ _
  have d2 : u / 65536 ≤ u := Nat.div_le_self _ _
  have d3 : t / 4294967296 ≤ t := Nat.div_le_self _ _
  have fin : (t + t / 4294967296) % 128 = p0 + p1 + p2 + p3 + p4 + p5 + p6 + p7 := by
    clear bv d1 d2 d3
    have e1 : v / 256 = p1 + 256 * (p2 + 256 * (p3 + 256 * (p4 + 256 * (p5 + 256 * (p6 + 256 * p7))))) := by rw [hv]; exact dm (by decide) (Nat.lt_of_le_of_lt h0 (by decide))
    have e2 : u = (p0 + p1 + 256 * (p1 + p2)) + 65536 * (p2 + 256 * (p3 + 256 * (p4 + 256 * (p5 + 256 * (p6 + 256 * p7)))) + (p3 + 256 * (p4 + 256 * (p5 + 256 * (p6 + 256 * p7))))) := by
      rw [hu, e1, hv]; exact s8a _ _ _ _
    have e3 : u / 65536 = p2 + 256 * (p3 + 256 * (p4 + 256 * (p5 + 256 * (p6 + 256 * p7)))) + (p3 + 256 * (p4 + 256 * (p5 + 256 * (p6 + 256 * p7)))) := by rw [e2]; exact dm (by decide) (lowA h0 h1 h2)
    have e4 : t = ((p0 + p1 + 256 * (p1 + p2)) + (p2 + p3 + 256 * (p3 + p4)) + 65536 * (p2 + p3 + 256 * (p3 + p4)) + 65536 * (p4 + p5 + 256 * (p5 + p6))) + 4294967296 * ((p6 + 256 * p7 + p7) + ((p4 + p5 + 256 * (p5 + p6)) + 65536 * (p6 + 256 * p7 + p7))) := by
      rw [ht, e3, e2, s8b p2 p3 p4, s8b p4 p5 p6, s8c _ _ 0 0, s8d]
    have e5 : t / 4294967296 = (p6 + 256 * p7 + p7) + ((p4 + p5 + 256 * (p5 + p6)) + 65536 * (p6 + 256 * p7 + p7)) := by
      rw [e4]
      exact dm (by decide) (lowB h0 h1 h2 h3 h4 h5 h6)
    rw [e5, e4, s8e _ _ _ _ _ _ _ _ _ rfl, Nat.add_mul_mod_self_left, Nat.mod_eq_of_lt (sum_le h0 h1 h2 h3 h4 h5 h6 h7)]
  clear hv h0 h1 h2 h3 h4 h5 h6 h7
  refine ⟨?_, ?_, ?_, ?_, fin⟩ <;> clear fin <;> omega

variable {E : Env}

theorem sh_by {k m : Nat} (hk : k ≤ 64) (hm : 2 ^ k = m) (y : Nat) : E.glob.shr .u64 (y : Int) (k : Int) = ((y / m : Nat) : Int) := by
  rw [g_shr hk, Nat.shiftRight_eq_div_pow, hm]

theorem OnesCount_R (hE : bits_OnesCount64_In E) {x : Nat} (hx : x < 2 ^ 64) (h : AHeap) : R E 57 [.c (.int .u64 x)] h = some ([.c (.int .i64 (pc x))], h) := by
  refine R_intro hE.fn ?_
  rw [bits_OnesCount64_eq]
  have m0 : (6148914691236517205 : Int) = ((repB 0x55 8 : Nat) : Int) := by decide
  have m1 : (3689348814741910323 : Int) = ((repB 0x33 8 : Nat) : Int) := by decide
  have m2 : (1085102592571150095 : Int) = ((repB 0x0f 8 : Nat) : Int) := by decide
  have l0 : repB 0x55 8 < 2 ^ 64 := by decide
  have l1 : repB 0x33 8 < 2 ^ 64 := by decide
  have l2 : repB 0x0f 8 < 2 ^ 64 := by decide
  have s1 := stage1 8 x hx
  have f1 := mapB_lt (fun b hb => (fb1_lt b hb).1) 8 x
  have s2 := stage2 8 (mapB fb1 8 x) f1
  have s3 := stage3 8 x
  have cm := mapB_comp (f := fb2) (fun b hb => (fb1_lt b hb).1) 8 x
  rw [cm] at s2
  have f2 : mapB (fun b => fb2 (fb1 b)) 8 x < 256 ^ 8 := mapB_lt (fun b hb => (fb2_lt _ (fb1_lt b hb).1).1) 8 x
  have sh1 : E.glob.shr .u64 (x : Int) 1 = ((x / 2 : Nat) : Int) := sh_by (k := 1) (by omega) (by decide) _
  simp only [m0, m1, m2]
  rw [sh1, g_band (x := x / 2) (by omega) l0, g_band hx l0, ← Int.natCast_add, s1, g_wrap_u64n f1]
  have sh2 : E.glob.shr .u64 ((mapB fb1 8 x : Nat) : Int) 2 = ((mapB fb1 8 x / 4 : Nat) : Int) := sh_by (k := 2) (by omega) (by decide) _
  rw [sh2, g_band (x := mapB fb1 8 x / 4) (by omega) l1, g_band f1 l1, ← Int.natCast_add, s2, g_wrap_u64n f2]
  have sh3 : E.glob.shr .u64 ((mapB (fun b => fb2 (fb1 b)) 8 x : Nat) : Int) 4 = ((mapB (fun b => fb2 (fb1 b)) 8 x / 16 : Nat) : Int) := sh_by (k := 4) (by omega) (by decide) _
  have top : mapB (fun b => fb2 (fb1 b)) 8 x / 16 + mapB (fun b => fb2 (fb1 b)) 8 x < 2 ^ 64 := by
    have h1 := mapB_le (f := fun b => fb2 (fb1 b)) (c := 68) (fun b hb => (fb12_lt b hb).1) 8 x
    rw [show repB 68 8 = 4919131752989213764 by decide] at h1
    omega
  rw [sh3, ← Int.natCast_add, g_wrap_u64n top, g_band top l2, s3]
  -- the eight counts
  have hp : ∀ y, fb3 (fb2 (fb1 (y % 256))) = pcN 8 (y % 256) ∧ pcN 8 (y % 256) ≤ 8 := fun y => fb_pc _ (Nat.mod_lt _ (by omega))
  have v5 : mapB (fun b => fb3 (fb2 (fb1 b))) 8 x = pcN 8 (x % 256) + 256 * (pcN 8 (x / 256 % 256) + 256 * (pcN 8 (x / 256 / 256 % 256) + 256 * (pcN 8 (x / 256 / 256 / 256 % 256) + 256 * (pcN 8 (x / 256 / 256 / 256 / 256 % 256) +
      256 * (pcN 8 (x / 256 / 256 / 256 / 256 / 256 % 256) + 256 * (pcN 8 (x / 256 / 256 / 256 / 256 / 256 / 256 % 256) + 256 * pcN 8 (x / 256 / 256 / 256 / 256 / 256 / 256 / 256 % 256))))))) := by
    simp only [mapB, (hp _).1, Nat.mul_zero, Nat.add_zero]
  rw [v5, bytes_pc]
  have h0 := (hp x).2
  have h1 := (hp (x / 256)).2
  have h2 := (hp (x / 256 / 256)).2
  have h3 := (hp (x / 256 / 256 / 256)).2
  have h4 := (hp (x / 256 / 256 / 256 / 256)).2
  have h5 := (hp (x / 256 / 256 / 256 / 256 / 256)).2
  have h6 := (hp (x / 256 / 256 / 256 / 256 / 256 / 256)).2
  have h7 := (hp (x / 256 / 256 / 256 / 256 / 256 / 256 / 256)).2
  generalize pcN 8 (x % 256) = p0 at *
  generalize pcN 8 (x / 256 % 256) = p1 at *
  generalize pcN 8 (x / 256 / 256 % 256) = p2 at *
  generalize pcN 8 (x / 256 / 256 / 256 % 256) = p3 at *
  generalize pcN 8 (x / 256 / 256 / 256 / 256 % 256) = p4 at *
  generalize pcN 8 (x / 256 / 256 / 256 / 256 / 256 % 256) = p5 at *
  generalize pcN 8 (x / 256 / 256 / 256 / 256 / 256 / 256 % 256) = p6 at *
  generalize pcN 8 (x / 256 / 256 / 256 / 256 / 256 / 256 / 256 % 256) = p7 at *
  clear s1 s2 s3 f1 f2 cm sh1 sh2 sh3 top v5 hp m0 m1 m2 l0 l1 l2 hx
  generalize hv : p0 + 256 * (p1 + 256 * (p2 + 256 * (p3 + 256 * (p4 + 256 * (p5 + 256 * (p6 + 256 * p7)))))) = v
  obtain ⟨c1, c2, c3, c4, c5⟩ := sum8 p0 p1 p2 p3 p4 p5 p6 p7 h0 h1 h2 h3 h4 h5 h6 h7 v _ _ hv.symm rfl rfl
  have sh8 : E.glob.shr .u64 (v : Int) 8 = ((v / 256 : Nat) : Int) := sh_by (k := 8) (by omega) (by decide) _
  have w1 : v + v / 256 < 2 ^ 64 := Nat.lt_trans c2 (by decide)
  rw [sh8, ← Int.natCast_add, g_wrap_u64n w1]
  generalize hu : v + v / 256 = u at *
  have sh16 : E.glob.shr .u64 (u : Int) 16 = ((u / 65536 : Nat) : Int) := sh_by (k := 16) (by omega) (by decide) _
  have w2 : u + u / 65536 < 2 ^ 64 := Nat.lt_trans c3 (by decide)
  rw [sh16, ← Int.natCast_add, g_wrap_u64n w2]
  generalize ht : u + u / 65536 = t at *
  have sh32 : E.glob.shr .u64 (t : Int) 32 = ((t / 4294967296 : Nat) : Int) := sh_by (k := 32) (by omega) (by decide) _
  have w3 : t + t / 4294967296 < 2 ^ 64 := Nat.lt_trans c4 (by decide)
  rw [sh32, ← Int.natCast_add, g_wrap_u64n w3]
  generalize hq : t + t / 4294967296 = q at *
  have w4 : E.glob.wrap .i64 (q : Int) = q := g_wrap_i64 (by omega) (by omega)
  rw [w4, g_band127, ← c5]
  rfl

end Jq

/- The lowest bit: what math/bits comes to. -/
namespace Jq
open Go

variable {E : Env}

theorem mul_wrap (y : Nat) : E.glob.wrap .u64 ((y : Int) * 285870213051353865) = ((y * 285870213051353865 % 18446744073709551616 : Nat) : Int) := by
  show IntKind.wrap .u64 _ = _
  simp only [IntKind.wrap, IntKind.signed, IntKind.bits, Bool.false_and, Bool.false_eq_true, if_false]; omega

theorem neg_wrap {x : Nat} (hx : x < 2 ^ 64) (h0 : x ≠ 0) : E.glob.wrap .u64 (0 - (x : Int)) = ((2 ^ 64 - x : Nat) : Int) := by
  show IntKind.wrap .u64 _ = _
  simp only [IntKind.wrap, IntKind.signed, IntKind.bits, Bool.false_and, Bool.false_eq_true, if_false]; omega

theorem shr58 (y : Nat) : E.glob.shr .u64 (y : Int) 58 = ((y / 288230376151711744 : Nat) : Int) := sh_by (k := 58) (by omega) (by decide) y

theorem getD_some {L : List Nat} {n i k : Nat} (hn : L.length = n) (hi : i < n) (hd : L.getD i 0 = k) : L[i]? = some k := by
  rw [List.getD_eq_getElem?_getD] at hd
  cases h : L[i]? with
  | none => rw [List.getElem?_eq_none_iff] at h; omega
  | some x => rw [h] at hd; exact congrArg some hd

theorem deB_len : Go.Lib.deBruijn64tab.length = 64 := by decide

/-- The lowest of them. -/
theorem TrailingZeros_R (hE : bits_TrailingZeros64_In E) (htab : ∀ k, k < 64 → (E.tab 1)[k]? = (Go.Lib.deBruijn64tab[k]?).map fun (n : Nat) => Cell.int .u8 (n : Int)) {x : Nat} (hx : x < 2 ^ 64) (h0 : x ≠ 0) (h : AHeap) :
    R E 42 [.c (.int .u64 x)] h = some ([.c (.int .i64 (Go.Lib.ctz 64 x))], h) := by
  refine R_intro hE.fn ?_
  have hne : ((x : Int) == 0) = false := by rw [beq_eq_false_iff_ne]; omega
  obtain ⟨q1, q2⟩ := Go.Lib.lowest_bit 64 x h0 hx
  rw [bits_TrailingZeros64_eq, hne, neg_wrap hx h0, g_band hx (by omega), q1, mul_wrap]
  dsimp only
  rw [shr58]
  simp only [Bool.false_eq_true, if_false]
  obtain ⟨d1, d2⟩ := Go.Lib.deBruijn64_at (Go.Lib.ctz 64 x) q2
  generalize Go.Lib.ctz 64 x = k at *
  generalize 2 ^ k * 285870213051353865 % 18446744073709551616 / 288230376151711744 = i at *
  have hc : (E.glob.tab 1)[0 + (i : Int).toNat * 1]? = some (.int .u8 (k : Int)) := by
    rw [Int.toNat_natCast, Nat.mul_one, Nat.zero_add]
    show (E.tab 1)[i]? = _
    rw [htab i d1, getD_some deB_len d1 d2]
    rfl
  have hi : 0 ≤ (i : Int) ∧ (i : Int) < ((64 : Nat) : Int) := ⟨Int.natCast_nonneg _, by exact_mod_cast d1⟩
  rw [if_pos hi, atK_ok hc, asI_ok, g_wrap_i64 (by omega) (by omega)]

end Jq

/- The numbers of a word, in order. -/
namespace Jq
open Go

/-- A word's numbers, rising. -/
def bitsL (s : Nat) : List Nat := (List.range 64).filter fun i => s.testBit i

theorem mem_bitsL {s i : Nat} : i ∈ bitsL s ↔ i < 64 ∧ s.testBit i = true := by simp [bitsL]

theorem pcN_filter (x : Nat) : ∀ k, pcN k x = ((List.range k).filter fun i => x.testBit i).length
  | 0 => rfl
  | k + 1 => by
    rw [pcN_add k 1, pcN_filter x k, List.range_succ, List.filter_append, List.length_append]
    congr 1
    rw [List.filter_cons, Nat.testBit_eq_decide_div_mod_eq]
    have := Nat.mod_two_eq_zero_or_one (x / 2 ^ k)
    by_cases hb : x / 2 ^ k % 2 = 1
    · simp [hb, pcN]
    · have h0 : x / 2 ^ k % 2 = 0 := by omega
      simp [h0, pcN]

theorem pc_bitsL (s : Nat) : pc s = (bitsL s).length := pcN_filter s 64

theorem low_form {s : Nat} (hs : s < 2 ^ 64) (h0 : s ≠ 0) : ∃ m, s = 2 ^ (Lib.ctz 64 s + 1) * m + 2 ^ Lib.ctz 64 s ∧ Lib.ctz 64 s < 64 := by
  have : Lib.ctz 64 s = Lib.ctzFrom 64 s := by unfold Lib.ctz; rw [if_neg h0]
  rw [this]
  obtain ⟨m, h1, h2⟩ := Lib.ctzFrom_spec 64 s (by omega) hs
  refine ⟨m, ?_, h2⟩
  conv => lhs; rw [h1]
  rw [Nat.mul_add, Nat.mul_one, ← Nat.mul_assoc, Nat.pow_succ]

theorem low_bit {s : Nat} (hs : s < 2 ^ 64) (h0 : s ≠ 0) : s.testBit (Lib.ctz 64 s) = true ∧ (∀ j, j < Lib.ctz 64 s → s.testBit j = false) ∧ ∀ j, (s &&& (s - 1)).testBit j = (s.testBit j && decide (j ≠ Lib.ctz 64 s)) := by
  obtain ⟨m, h1, h2⟩ := low_form hs h0
  generalize Lib.ctz 64 s = k at h1 h2
  have hp : 0 < 2 ^ k := Nat.two_pow_pos k
  have hlt : 2 ^ k < 2 ^ (k + 1) := by rw [Nat.pow_succ]; omega
  have t1 : ∀ j, s.testBit j = if j < k + 1 then decide (j = k) else m.testBit (j - (k + 1)) := by
    intro j
    rw [h1, Nat.testBit_two_pow_mul_add _ hlt]
    split
    · rw [Nat.testBit_two_pow, Bool.eq_iff_iff]; simp; exact eq_comm
    · rfl
  have t2 : ∀ j, (s - 1).testBit j = if j < k + 1 then decide (j < k) else m.testBit (j - (k + 1)) := by
    intro j
    have : s - 1 = 2 ^ (k + 1) * m + (2 ^ k - 1) := by omega
    rw [this, Nat.testBit_two_pow_mul_add _ (by omega)]
    split
    · rw [Nat.testBit_two_pow_sub_one]
    · rfl
  refine ⟨by rw [t1, if_pos (by omega)]; simp, fun j hj => by rw [t1, if_pos (by omega)]; simp; omega, fun j => ?_⟩
  rw [Nat.testBit_and, t1, t2]
  split
  · rw [Bool.eq_iff_iff]; simp; omega
  · rename_i hj
    have : decide (j ≠ k) = true := by simp; omega
    rw [this, Bool.and_self, Bool.and_true]

theorem bitsL_cons {s : Nat} (hs : s < 2 ^ 64) (h0 : s ≠ 0) : bitsL s = Lib.ctz 64 s :: bitsL (s &&& (s - 1)) := by
  obtain ⟨b1, b2, b3⟩ := low_bit hs h0
  obtain ⟨_, _, hk⟩ := low_form hs h0
  generalize Lib.ctz 64 s = k at b1 b2 b3 hk
  unfold bitsL
  have hr : List.range 64 = List.range k ++ k :: List.range' (k + 1) (64 - (k + 1)) := by
    rw [List.range_eq_range', List.range_eq_range']
    have : (64 : Nat) = k + (1 + (64 - (k + 1))) := by omega
    conv => lhs; rw [this]
    rw [List.range'_append_1.symm, Nat.zero_add, Nat.add_comm 1, List.range'_succ]
  rw [hr, List.filter_append, List.filter_append, List.filter_cons, List.filter_cons, if_pos b1, b3 k]
  have e1 : (List.range k).filter (fun i => s.testBit i) = [] := List.filter_eq_nil_iff.2 fun x hx => by rw [b2 x (by simpa using hx)]; simp
  have e2 : (List.range k).filter (fun i => (s &&& (s - 1)).testBit i) = [] := List.filter_eq_nil_iff.2 fun x hx => by rw [b3, b2 x (by simpa using hx)]; simp
  rw [e1, e2, List.nil_append, List.nil_append, if_neg (by simp)]
  congr 1
  refine List.filter_congr fun x hx => ?_
  rw [List.mem_range'_1] at hx
  rw [b3]
  have : decide (x ≠ k) = true := by simp; omega
  rw [this, Bool.and_true]

theorem and_pred_lt {s : Nat} (h0 : s ≠ 0) : s &&& (s - 1) < s := Nat.lt_of_le_of_lt Nat.and_le_right (by omega)

theorem bitsL_zero : bitsL 0 = [] := by decide

theorem bitsL_nil {s : Nat} (hs : s < 2 ^ 64) : bitsL s = [] ↔ s = 0 := by
  constructor
  · intro h
    by_cases h0 : s = 0
    · exact h0
    · rw [bitsL_cons hs h0] at h; cases h
  · rintro rfl; exact bitsL_zero

/-- The first number; none: less than nought. -/
def firstI (s : Nat) : Int := if s = 0 then -1 else Lib.ctz 64 s

/-- What math/bits reads. -/
def TabOk (E : Env) : Prop := ∀ k, k < 64 → (E.tab 1)[k]? = (Lib.deBruijn64tab[k]?).map fun (n : Nat) => Cell.int .u8 (n : Int)

variable {E : Env}

theorem Len_R (hE : set_Set_Len_In E) {s : Nat} (hs : s < 2 ^ 64) (h : AHeap) : R E 56 [.c (.int .u64 s)] h = some ([.c (.int .i64 (pc s))], h) := by
  refine R_intro hE.fn ?_
  rw [set_Set_Len_eq, OnesCount_R hE.c57 hs, c1_ok, asI_ok]

theorem First_R (hE : set_Set_First_In E) (ht : TabOk E) {s : Nat} (hs : s < 2 ^ 64) (h : AHeap) : R E 38 [.c (.int .u64 s)] h = some ([.c (.int .i64 (firstI s))], h) := by
  refine R_intro hE.fn ?_
  rw [set_Set_First_eq]
  unfold firstI
  by_cases h0 : s = 0
  · subst h0; simp
  · have hne : ((s : Int) == 0) = false := by rw [beq_eq_false_iff_ne]; omega
    rw [hne, if_neg h0]
    simp only [Bool.false_eq_true, if_false]
    rw [TrailingZeros_R hE.c42 ht hs h0, c1_ok, asI_ok]

/-- A row of natural numbers, as cells. -/
def natC (l : List Nat) : List Cell := intC .i64 (l.map fun (n : Nat) => (n : Int))

theorem natC_len (l : List Nat) : (natC l).length = l.length := by simp [natC, intC]
theorem natC_snoc (l : List Nat) (n : Nat) : natC (l ++ [n]) = natC l ++ [.int .i64 n] := by simp [natC, intC]
theorem natC_get {l : List Nat} {i n : Nat} (h : l[i]? = some n) : (natC l)[i]? = some (.int .i64 n) := by simp [natC, intC, h]

theorem List_R (hE : set_Set_List_In E) (ht : TabOk E) {s : Nat} (hs : s < 2 ^ 64) (h : AHeap) :
    ∃ x h', R E 32 [.c (.int .u64 s)] h = some ([.c x], h') ∧ Own h.length h' x 1 (natC (bitsL s)) (bitsL s).length ∧ Kp h.length h h' := by
  suffices hs' : ∃ x h', set_Set_List.body (R E) Lim E.glob [.c (.int .u64 s)] h = some ([.c x], h') ∧ Own h.length h' x 1 (natC (bitsL s)) (bitsL s).length ∧ Kp h.length h h' by
    obtain ⟨x, h', hh, hr⟩ := hs'; exact ⟨x, h', R_intro hE.fn hh, hr⟩
  obtain ⟨p, hp, x, h', rfl, ho, hk⟩ := Lim_fall (F := set_Set_List_F1 (R E) Lim E.glob) (fun st => match st.t with | .v (.c (.int _ n)) :: _ => n.toNat | _ => 0)
    (fun st => ∃ (a : Nat) (x : Cell) (h' : AHeap) (done : List Nat), st = set_Set_List_s1 a x h' ∧ a < 2 ^ 64 ∧ done ++ bitsL a = bitsL s ∧ Own h.length h' x 1 (natC done) done.length ∧ Kp h.length h h')
    (fun p => ∃ x h', p = (.exit 0, set_Set_List_x1_1 x h') ∧ Own h.length h' x 1 (natC (bitsL s)) (bitsL s).length ∧ Kp h.length h h')
    (fun st hI => by
      obtain ⟨a, x, h', done, rfl, ha, hd, ho, hk⟩ := hI
      by_cases h0 : a = 0
      · right
        subst h0
        refine ⟨_, by rw [set_Set_List_r1]; rfl, by simp, x, h', rfl, ?_, hk⟩
        rw [bitsL_zero, List.append_nil] at hd
        rw [← hd]; exact ho
      · left
        have hne : ((a : Int) != 0) = true := by rw [bne_iff_ne]; omega
        have hlen : done.length < 64 := by
          have h1 : (bitsL s).length ≤ 64 := by unfold bitsL; exact Nat.le_trans (List.length_filter_le _ _) (by simp)
          rw [← hd, bitsL_cons ha h0] at h1
          simp at h1; omega
        obtain ⟨x', h2, hap, ho', hk', _⟩ := ho.app (xs := [.int .i64 (Lib.ctz 64 a : Nat)]) (bytes := 8) hk.1 rfl (by omega) (by unfold maxBytes; omega) (by unfold maxBytes; omega)
        refine ⟨set_Set_List_s1 ((a &&& (a - 1) : Nat) : Int) x' h2, ?_, ⟨a &&& (a - 1), x', h2, done ++ [Lib.ctz 64 a], rfl, and_lt ha, ?_, ?_, hk.trans hk'⟩, ?_⟩
        · rw [set_Set_List_r1, if_pos hne, First_R hE.c38 ht ha, c1_ok, asI_ok]
          unfold firstI
          rw [if_neg h0, show splice [Cell.int .i64 0] 0 [Cell.int .i64 ((Lib.ctz 64 a : Nat) : Int)] = [.int .i64 ((Lib.ctz 64 a : Nat) : Int)] from rfl, if_pos (show (List.length [_] : Nat) = 1 * 1 from rfl), hap]
          rw [show E.glob.wrap .u64 ((a : Int) - 1) = ((a - 1 : Nat) : Int) by rw [g_wrap_u64 (by omega) (by omega)]; omega, g_band ha (by omega)]
        · rw [List.append_assoc, List.singleton_append, ← bitsL_cons ha h0, hd]
        · rw [natC_snoc, List.length_append]; exact ho'
        · have := and_pred_lt h0
          show ((a &&& (a - 1) : Nat) : Int).toNat < ((a : Nat) : Int).toNat
          omega)
    (st := set_Set_List_s1 s .nils h) ⟨s, .nils, h, [], rfl, hs, rfl, by exact Own.nil _ _ _, Kp.refl _ _⟩
  refine ⟨x, h', ?_, ho, hk⟩
  rw [set_Set_List_eq, hp, bind_ok, set_Set_List_e1_1]

/-- A word of numbers. -/
def ofL (l : List Int) : Nat := l.foldl (fun s i => s ||| bitI i) 0

theorem ofL_snoc (l : List Int) (i : Int) : ofL (l ++ [i]) = ofL l ||| bitI i := by unfold ofL; rw [List.foldl_append]; rfl

theorem ofL_lt (l : List Int) : ofL l < 2 ^ 64 := by
  have : ∀ (l : List Int) (s : Nat), s < 2 ^ 64 → l.foldl (fun s i => s ||| bitI i) s < 2 ^ 64 := by
    intro l
    induction l with
    | nil => exact fun s h => h
    | cons i l ih => exact fun s h => ih _ (or_lt h (bitI_lt i))
  exact this l 0 (by omega)

theorem ofL_bit (l : List Int) (j : Nat) : (ofL l).testBit j = true ↔ j < 64 ∧ (j : Int) ∈ l := by
  have : ∀ (l : List Int) (s : Nat), (l.foldl (fun s i => s ||| bitI i) s).testBit j = true ↔ s.testBit j = true ∨ (j < 64 ∧ (j : Int) ∈ l) := by
    intro l
    induction l with
    | nil => intro s; simp
    | cons i l ih =>
      intro s
      rw [List.foldl_cons, ih, Nat.testBit_or, Bool.or_eq_true, testBit_bitI]
      simp only [Bool.and_eq_true, decide_eq_true_eq, List.mem_cons]
      constructor
      · rintro ((h | ⟨h1, h2⟩) | ⟨h1, h2⟩)
        · exact .inl h
        · exact .inr ⟨h2, .inl h1.symm⟩
        · exact .inr ⟨h1, .inr h2⟩
      · rintro (h | ⟨h1, h2 | h2⟩)
        · exact .inl (.inl h)
        · exact .inl (.inr ⟨h2.symm, h1⟩)
        · exact .inr ⟨h1, h2⟩
  have h := this l 0
  simpa [ofL] using h

theorem OfS_R (hE : set_Of_In E) {x : Cell} {l : List Int} {h : AHeap} (hx : SlAt h x 1 (intC .i64 l) l.length) (hl : l.length < 9223372036854775807) : R E 65 [.c x] h = some ([.c (.int .u64 (ofL l))], h) := by
  refine R_intro hE.fn ?_
  rw [set_Of_eq, hx.len]
  have loop : Lim (set_Of_F1 (R E) Lim E.glob) (set_Of_s1 ((ofL (l.take 0) : Nat) : Int) x l.length ((0 : Nat) : Int) h) = some (.exit 0, set_Of_x1_1 ((ofL (l.take l.length) : Nat) : Int) h) := by
    refine Lim_count (fun i => set_Of_s1 ((ofL (l.take i) : Nat) : Int) x l.length (i : Int) h) 0 l.length (by omega) (fun i _ hi => ?_) (Lim_exit ?_)
    · obtain ⟨n, hn⟩ : ∃ n, l[i]? = some n := ⟨l[i], by simp⟩
      rw [set_Of_r1, if_pos (by simp; omega), hx.get1 hi (intC_get hn), asI_ok, With_R hE.c18 (ofL_lt _), c1_ok, asI_ok, g_succ (by omega), List.take_add_one, hn]
      rw [show (some n).toList = [n] from rfl, ofL_snoc]
    · rw [set_Of_r1, if_neg (by simp)]
  rw [List.take_length] at loop
  rw [show set_Of_s1 0 x l.length 0 h = set_Of_s1 ((ofL (l.take 0) : Nat) : Int) x l.length ((0 : Nat) : Int) h from rfl, loop, bind_ok, set_Of_e1_1]

theorem Upto_R (hE : set_Upto_In E) (a : Int) (h : AHeap) : R E 61 [.c (.int .i64 a)] h = some ([.c (.int .u64 ((2 ^ (min a.toNat 64) - 1 : Nat) : Int))], h) := by
  refine R_intro hE.fn ?_
  have hv : (if 64 < (if 0 > a then 0 else a) then 64 else (if 0 > a then 0 else a)) = ((min a.toNat 64 : Nat) : Int) := by
    split <;> split <;> omega
  rw [set_Upto_eq]
  simp only [hv]
  generalize hk : min a.toNat 64 = k
  have hk64 : k ≤ 64 := by omega
  by_cases h64 : k = 64
  · subst h64; simp
  · have hne : ((k : Int) == 64) = false := by rw [beq_eq_false_iff_ne]; omega
    have h2 : 2 ^ k < 2 ^ 64 := Nat.pow_lt_pow_right (by omega) (by omega)
    have h3 : 0 < 2 ^ k := Nat.two_pow_pos k
    rw [hne]
    simp only [Bool.false_eq_true, if_false]
    rw [g_wrap_u64n (by omega), if_neg (by omega), g_shl_one (by omega), show (((2 ^ k : Nat) : Int) - 1) = ((2 ^ k - 1 : Nat) : Int) by omega, g_wrap_u64n (by omega)]

/-- The next greater word of as many numbers. -/
def nextN (s : Nat) : Nat :=
  if s = 0 then 0 else
    let up := (s + 2 ^ Lib.ctz 64 s) % 2 ^ 64
    if up = 0 then 0 else up ||| (((s ^^^ up) >>> 2) >>> Lib.ctz 64 s)

theorem Next_R (hE : set_Set_Next_In E) (ht : TabOk E) {s : Nat} (hs : s < 2 ^ 64) (h : AHeap) : R E 60 [.c (.int .u64 s)] h = some ([.c (.int .u64 (nextN s))], h) := by
  refine R_intro hE.fn ?_
  rw [set_Set_Next_eq]
  unfold nextN
  by_cases h0 : s = 0
  · subst h0; simp
  · have hne : ((s : Int) == 0) = false := by rw [beq_eq_false_iff_ne]; omega
    rw [hne, if_neg h0]
    simp only [Bool.false_eq_true, if_false]
    obtain ⟨q1, q2⟩ := Lib.lowest_bit 64 s h0 hs
    have hneg : E.glob.wrap .u64 (0 - (s : Int)) = ((2 ^ 64 - s : Nat) : Int) := neg_wrap hs h0
    have hk2 : 2 ^ Lib.ctz 64 s < 2 ^ 64 := Nat.pow_lt_pow_right (by omega) q2
    have hkp : 0 < 2 ^ Lib.ctz 64 s := Nat.two_pow_pos _
    have hup : E.glob.wrap .u64 ((s : Int) + ((2 ^ Lib.ctz 64 s : Nat) : Int)) = (((s + 2 ^ Lib.ctz 64 s) % 2 ^ 64 : Nat) : Int) := by
      show IntKind.wrap .u64 _ = _
      simp only [IntKind.wrap, IntKind.signed, IntKind.bits, Bool.false_and, Bool.false_eq_true, if_false]; omega
    rw [hneg, g_band hs (by omega), q1, hup]
    generalize hu : (s + 2 ^ Lib.ctz 64 s) % 2 ^ 64 = up
    have hulT : up < 2 ^ 64 := by omega
    by_cases hz : up = 0
    · subst hz; simp
    · have hne2 : ((up : Int) == 0) = false := by rw [beq_eq_false_iff_ne]; omega
      rw [hne2, if_neg hz]
      simp only [Bool.false_eq_true, if_false]
      have hct : Lib.ctz 64 (2 ^ Lib.ctz 64 s) = Lib.ctz 64 s := by
        generalize Lib.ctz 64 s = k at q2
        have : ∀ k, k < 64 → Lib.ctz 64 (2 ^ k) = k := by decide +kernel
        exact this k q2
      have hfi : firstI (2 ^ Lib.ctz 64 s) = ((Lib.ctz 64 s : Nat) : Int) := by
        unfold firstI; rw [if_neg (Nat.ne_of_gt hkp), hct]
      rw [First_R hE.c38 ht hk2, c1_ok, asI_ok, hfi, g_wrap_u64n (Nat.lt_trans q2 (by decide)), if_neg (by omega), g_bxor hs hulT, show (2 : Int) = ((2 : Nat) : Int) from rfl, g_shr (by omega), g_shr (by omega)]
      have hx := xor_lt hs hulT
      have hx2 : ((s ^^^ up) >>> 2) >>> Lib.ctz 64 s < 2 ^ 64 := by
        rw [Nat.shiftRight_eq_div_pow, Nat.shiftRight_eq_div_pow]
        exact Nat.lt_of_le_of_lt (Nat.div_le_self _ _) (Nat.lt_of_le_of_lt (Nat.div_le_self _ _) hx)
      rw [g_bor hulT hx2]

end Jq

/- The seat: where the functions that are reached lie in the given program, and that each is the given one. -/
namespace Go.Proofs.YtfecllgnajhkmabDoor.LNamesNumbers
open Go Jq

def seatFn : Nat → Nat
  | 42 => 19
  | 43 => 4
  | 44 => 5
  | 45 => 6
  | 46 => 7
  | 47 => 8
  | 48 => 9
  | 49 => 10
  | 50 => 11
  | 51 => 12
  | 54 => 18
  | 208 => 17
  | 209 => 3
  | 253 => 16
  | _ => 0

def envFn : Nat → Option Jq.Fn
  | 42 => some bits_TrailingZeros64
  | 43 => some jacquardlaw0_all
  | 44 => some api_Errno_Error
  | 45 => some strconv_Itoa
  | 46 => some istrconv_Itoa
  | 47 => some istrconv_FormatInt
  | 48 => some istrconv_small
  | 50 => some istrconv_formatBase10
  | 51 => some istrconv_formatBits
  | 208 => some bits_TrailingZeros
  | 209 => some jacquardlaw0_NamesNumbers
  | 253 => some istrconv_isPowerOfTwo
  | _ => none

def seatTab : Nat → List Cell := fun _ => []
noncomputable def seat : Seat := { P := Tryd.prog, fn := seatFn, gl := fun _ => 2, tab := seatTab }
def env : Env := { fn := envFn, tab := seatTab }

theorem mixed : true = true → seat.P.follows .mixedOrders = true := fun _ => by kernel_rfl

theorem ok_42 : FnOk seat 42 bits_TrailingZeros64 := ⟨⟨Tryd.f19, _, drK seat true, Tryd.func19, rfl, by kernel_rfl, by kernel_rfl, by kernel_rfl, by kernel_rfl, fun _ _ h => draw_sound mixed h⟩⟩
theorem ok_43 : FnOk seat 43 jacquardlaw0_all := ⟨⟨Tryd.f4, _, drK seat true, Tryd.func4, rfl, by kernel_rfl, by kernel_rfl, by kernel_rfl, by kernel_rfl, fun _ _ h => draw_sound mixed h⟩⟩
theorem ok_44 : FnOk seat 44 api_Errno_Error := ⟨⟨Tryd.f5, _, drK seat true, Tryd.func5, rfl, by kernel_rfl, by kernel_rfl, by kernel_rfl, by kernel_rfl, fun _ _ h => draw_sound mixed h⟩⟩
theorem ok_45 : FnOk seat 45 strconv_Itoa := ⟨⟨Tryd.f6, _, drK seat true, Tryd.func6, rfl, by kernel_rfl, by kernel_rfl, by kernel_rfl, by kernel_rfl, fun _ _ h => draw_sound mixed h⟩⟩
theorem ok_46 : FnOk seat 46 istrconv_Itoa := ⟨⟨Tryd.f7, _, drK seat true, Tryd.func7, rfl, by kernel_rfl, by kernel_rfl, by kernel_rfl, by kernel_rfl, fun _ _ h => draw_sound mixed h⟩⟩
theorem ok_47 : FnOk seat 47 istrconv_FormatInt := ⟨⟨Tryd.f8, _, drK seat true, Tryd.func8, rfl, by kernel_rfl, by kernel_rfl, by kernel_rfl, by kernel_rfl, fun _ _ h => draw_sound mixed h⟩⟩
theorem ok_48 : FnOk seat 48 istrconv_small := ⟨⟨Tryd.f9, _, drK seat true, Tryd.func9, rfl, by kernel_rfl, by kernel_rfl, by kernel_rfl, by kernel_rfl, fun _ _ h => draw_sound mixed h⟩⟩
theorem ok_50 : FnOk seat 50 istrconv_formatBase10 := ⟨⟨Tryd.f11, _, drK seat true, Tryd.func11, rfl, by kernel_rfl, by kernel_rfl, by kernel_rfl, by kernel_rfl, fun _ _ h => draw_sound mixed h⟩⟩
theorem ok_51 : FnOk seat 51 istrconv_formatBits := ⟨⟨Tryd.f12, _, drK seat true, Tryd.func12, rfl, by kernel_rfl, by kernel_rfl, by kernel_rfl, by kernel_rfl, fun _ _ h => draw_sound mixed h⟩⟩
theorem ok_208 : FnOk seat 208 bits_TrailingZeros := ⟨⟨Tryd.f17, _, drK seat true, Tryd.func17, rfl, by kernel_rfl, by kernel_rfl, by kernel_rfl, by kernel_rfl, fun _ _ h => draw_sound mixed h⟩⟩
theorem ok_209 : FnOk seat 209 jacquardlaw0_NamesNumbers := ⟨⟨Tryd.f3, _, drK seat true, Tryd.func3, rfl, by kernel_rfl, by kernel_rfl, by kernel_rfl, by kernel_rfl, fun _ _ h => draw_sound mixed h⟩⟩
theorem ok_253 : FnOk seat 253 istrconv_isPowerOfTwo := ⟨⟨Tryd.f16, _, drK seat true, Tryd.func16, rfl, by kernel_rfl, by kernel_rfl, by kernel_rfl, by kernel_rfl, fun _ _ h => draw_sound mixed h⟩⟩

theorem allOk : ∀ g fn, env.fn g = some fn → FnOk seat g fn := by
  intro g fn h
  unfold env envFn at h
  dsimp only at h
  split at h
  · cases h; exact ok_42
  · cases h; exact ok_43
  · cases h; exact ok_44
  · cases h; exact ok_45
  · cases h; exact ok_46
  · cases h; exact ok_47
  · cases h; exact ok_48
  · cases h; exact ok_50
  · cases h; exact ok_51
  · cases h; exact ok_208
  · cases h; exact ok_209
  · cases h; exact ok_253
  · cases h

theorem in_43 : jacquardlaw0_all_In env := { fn := rfl }
theorem in_48 : istrconv_small_In env := { fn := rfl }
theorem in_50 : istrconv_formatBase10_In env := { fn := rfl }
theorem in_42 : bits_TrailingZeros64_In env := { fn := rfl }
theorem in_208 : bits_TrailingZeros_In env := { fn := rfl, c42 := in_42 }
theorem in_253 : istrconv_isPowerOfTwo_In env := { fn := rfl }
theorem in_51 : istrconv_formatBits_In env := { fn := rfl, c208 := in_208, c253 := in_253 }
theorem in_47 : istrconv_FormatInt_In env := { fn := rfl, c48 := in_48, c50 := in_50, c51 := in_51 }
theorem in_46 : istrconv_Itoa_In env := { fn := rfl, c47 := in_47 }
theorem in_45 : strconv_Itoa_In env := { fn := rfl, c46 := in_46 }
theorem in_44 : api_Errno_Error_In env := { fn := rfl, c45 := in_45 }
theorem in_209 : jacquardlaw0_NamesNumbers_In env := { fn := rfl, c43 := in_43, c44 := in_44 }

end Go.Proofs.YtfecllgnajhkmabDoor.LNamesNumbers

