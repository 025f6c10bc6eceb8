/- YtldfafaiappibaaProgStepsA: a part of the proof; no conditions of its own. -/
import Derived.Test.YtldfafaiappibaaRows
import Derived.KernelRfl
import Derived.Lib.TrailingZeros
import Derived.Test.YtldfafaiappibaaCoreC
set_option linter.unusedVariables false
set_option linter.unusedSimpArgs false

namespace Jq
open Go

/- jacquard/jacquardlaw3.Small: 97 -/
def jacquardlaw3_Small_p8 : IC :=
  (.cond (.t 108)
  (.seq (.reg 35 false (.op (some 113) .mov [(.t 12)]
    (.op (some 114) .mov [(.t 17)]
    (.op (some 115) .mov [(.t 15)]
    (.op (some 116) (.build (List.replicate 9 (Cell.int .i64 0)) [(0, 1), (1, 1), (2, 1)]) [(.k (.c (.int .i64 2))), (.t 114), (.t 115)]
    (.op (some 117) (.lit 9 1 (List.replicate 9 (Cell.int .i64 0)) [(0, 9)]) [(.t 116)]
    (.op (some 118) (.app 9 72) [(.t 113), (.t 117)]
    (.op (some 12) .mov [(.t 118)]
    .nil))))))))
  (.reg 36 false (.op (some 119) .mov [(.t 10)]
    (.op (some 120) (.bin .add) [(.t 119), (.k (.c (.int .i64 1)))]
    (.op (some 10) .mov [(.t 120)]
    .nil)))))
  (.seq (.reg 37 false (.op (some 122) (.bin .eql) [(.t 83), (.k (.c (.int .i64 8)))]
    (.op (some 121) .mov [(.t 122)]
    .nil)))
  (.cond (.t 121)
  (.reg 38 false (.op (some 123) .mov [(.t 12)]
    (.op (some 124) (.build (List.replicate 9 (Cell.int .i64 0)) [(0, 1)]) [(.k (.c (.int .i64 3)))]
    (.op (some 125) (.lit 9 1 (List.replicate 9 (Cell.int .i64 0)) [(0, 9)]) [(.t 124)]
    (.op (some 126) (.app 9 72) [(.t 123), (.t 125)]
    (.op (some 12) .mov [(.t 126)]
    .nil))))))
  (.seq (.reg 39 false (.op (some 128) (.bin .eql) [(.t 83), (.k (.c (.int .i64 9)))]
    (.op (some 127) .mov [(.t 128)]
    .nil)))
  (.cond (.t 127)
  (.seq (.reg 40 false (.op (some 129) .mov [(.t 12)]
    (.op (some 130) .mov [(.t 17)]
    (.op (some 131) .mov [(.t 15)]
    (.op (some 132) (.ldAll (.slot 2) 2) [(.t 16)]
    (.op (some 133) (.build ([Cell.int .i64 0, Cell.int .i64 0]) [(0, 1), (1, 1)]) [(.k (.c (.int .i64 (-1)))), (.k (.c (.int .i64 1)))]
    (.op (some 134) (.build (List.replicate 9 (Cell.int .i64 0)) [(0, 1), (1, 1), (2, 1), (3, 2), (6, 2)]) [(.k (.c (.int .i64 4))), (.t 130), (.t 131), (.t 132), (.t 133)]
    (.op (some 135) (.lit 9 1 (List.replicate 9 (Cell.int .i64 0)) [(0, 9)]) [(.t 134)]
    (.op (some 136) (.app 9 72) [(.t 129), (.t 135)]
    (.op (some 12) .mov [(.t 136)]
    .nil))))))))))
  (.reg 41 false (.op (some 137) .mov [(.t 10)]
    (.op (some 138) (.bin .add) [(.t 137), (.k (.c (.int .i64 1)))]
    (.op (some 10) .mov [(.t 138)]
    .nil)))))
  (.seq (.reg 42 false (.op (some 140) (.bin .eql) [(.t 83), (.k (.c (.int .i64 10)))]
    (.op (some 139) .mov [(.t 140)]
    .nil)))
  (.cond (.t 139)
  (.reg 43 false (.op (some 141) .mov [(.t 12)]
    (.op (some 142) .mov [(.t 17)]
    (.op (some 143) (.ldAll (.slot 2) 2) [(.t 16)]
    (.op (some 144) (.build ([Cell.int .i64 0, Cell.int .i64 0]) [(0, 1), (1, 1)]) [(.k (.c (.int .i64 (-1)))), (.k (.c (.int .i64 1)))]
    (.op (some 145) (.build (List.replicate 9 (Cell.int .i64 0)) [(0, 1), (1, 1), (3, 2), (5, 1), (6, 2)]) [(.k (.c (.int .i64 5))), (.t 142), (.t 143), (.k (.c (.int .i64 6))), (.t 144)]
    (.op (some 146) (.lit 9 1 (List.replicate 9 (Cell.int .i64 0)) [(0, 9)]) [(.t 145)]
    (.op (some 147) (.app 9 72) [(.t 141), (.t 146)]
    (.op (some 12) .mov [(.t 147)]
    .nil)))))))))
  (.seq (.reg 23 false (.op (some 84) .mov [(.t 12)]
    (.op (some 85) (.ldAll (.slot 2) 2) [(.t 16)]
    (.op (some 86) (.build ([Cell.int .i64 0, Cell.int .i64 0]) [(0, 1)]) [(.k (.c (.int .i64 (-1))))]
    (.op (some 87) (.build (List.replicate 9 (Cell.int .i64 0)) [(0, 1), (3, 2), (6, 2), (8, 1)]) [(.k (.c (.int .i64 6))), (.t 85), (.t 86), (.k (.c (.int .i64 1)))]
    (.op (some 88) .mov [(.t 15)]
    (.op (some 89) (.build ([Cell.int .i64 0, Cell.int .i64 0]) [(0, 1), (1, 1)]) [(.k (.c (.int .i64 (-1)))), (.k (.c (.int .i64 2)))]
    (.op (some 90) (.build (List.replicate 9 (Cell.int .i64 0)) [(0, 1), (2, 1), (3, 2)]) [(.k (.c (.int .i64 1))), (.t 88), (.t 89)]
    (.op (some 91) (.lit 9 2 (List.replicate 18 (Cell.int .i64 0)) [(0, 9), (9, 9)]) [(.t 87), (.t 90)]
    (.op (some 92) (.app 9 72) [(.t 84), (.t 91)]
    (.op (some 12) .mov [(.t 92)]
    .nil)))))))))))
  (.reg 24 false (.op (some 93) .mov [(.t 10)]
    (.op (some 94) (.bin .add) [(.t 93), (.k (.c (.int .i64 1)))]
    (.op (some 10) .mov [(.t 94)]
    .nil))))))))))))
def jacquardlaw3_Small_p7 : IC :=
  (.cond (.t 95)
  (.seq (.reg 29 false (.op (some 100) .mov [(.t 12)]
    (.op (some 101) .mov [(.t 15)]
    (.op (some 102) (.ldAll (.slot 2) 2) [(.t 16)]
    (.op (some 103) (.build (List.replicate 9 (Cell.int .i64 0)) [(0, 1), (2, 1), (3, 2)]) [(.k (.c (.int .i64 1))), (.t 101), (.t 102)]
    (.op (some 104) (.lit 9 1 (List.replicate 9 (Cell.int .i64 0)) [(0, 9)]) [(.t 103)]
    (.op (some 105) (.app 9 72) [(.t 100), (.t 104)]
    (.op (some 12) .mov [(.t 105)]
    .nil))))))))
  (.reg 30 false (.op (some 106) .mov [(.t 10)]
    (.op (some 107) (.bin .add) [(.t 106), (.k (.c (.int .i64 1)))]
    (.op (some 10) .mov [(.t 107)]
    .nil)))))
  (.cut [1, 4, 5, 7, 8, 9, 10, 11, 12, 13, 15, 16, 17, 83, 108] [0, 1, 2] [] (.seq (.reg 31 false (.op (some 109) (.bin .eql) [(.t 83), (.k (.c (.int .i64 4)))]
    (.op (some 108) .mov [(.t 109)]
    .nil)))
  (.cond (.t 108)
  .skip
  (.seq (.reg 32 false (.op (some 110) (.bin .eql) [(.t 83), (.k (.c (.int .i64 5)))]
    (.op (some 108) .mov [(.t 110)]
    .nil)))
  (.cond (.t 108)
  .skip
  (.seq (.reg 33 false (.op (some 111) (.bin .eql) [(.t 83), (.k (.c (.int .i64 6)))]
    (.op (some 108) .mov [(.t 111)]
    .nil)))
  (.cond (.t 108)
  .skip
  (.reg 34 false (.op (some 112) (.bin .eql) [(.t 83), (.k (.c (.int .i64 7)))]
    (.op (some 108) .mov [(.t 112)]
    .nil)))))))))
  jacquardlaw3_Small_p8))
def jacquardlaw3_Small_p6 : IC :=
  (.seq (.reg 21 false (.op (some 79) .mov [(.t 14)]
    (.op (some 80) (.bin .shr) [(.t 79), (.k (.c (.int .u64 11)))]
    (.op (some 81) (.bin .and) [(.t 80), (.k (.c (.int .i64 1)))]
    (.op (some 17) .mov [(.t 81)]
    .nil)))))
  (.seq (.reg 22 false (.op (some 82) .mov [(.t 14)]
    (.op (some 83) (.bin .rem) [(.t 82), (.k (.c (.int .i64 12)))]
    .nil)))
  (.blk 4 (.cut [1, 4, 5, 7, 8, 9, 10, 11, 12, 13, 15, 16, 17, 83, 95] [0, 1, 2] [] (.seq (.reg 25 false (.op (some 96) (.bin .eql) [(.t 83), (.k (.c (.int .i64 0)))]
    (.op (some 95) .mov [(.t 96)]
    .nil)))
  (.cond (.t 95)
  .skip
  (.seq (.reg 26 false (.op (some 97) (.bin .eql) [(.t 83), (.k (.c (.int .i64 1)))]
    (.op (some 95) .mov [(.t 97)]
    .nil)))
  (.cond (.t 95)
  .skip
  (.seq (.reg 27 false (.op (some 98) (.bin .eql) [(.t 83), (.k (.c (.int .i64 2)))]
    (.op (some 95) .mov [(.t 98)]
    .nil)))
  (.cond (.t 95)
  .skip
  (.reg 28 false (.op (some 99) (.bin .eql) [(.t 83), (.k (.c (.int .i64 3)))]
    (.op (some 95) .mov [(.t 99)]
    .nil)))))))))
  jacquardlaw3_Small_p7))))
def jacquardlaw3_Small_p5 : IC :=
  (.reg 15 false (.op (some 58) .mov [(.t 13)]
    (.op (some 59) (.bin .sub) [(.t 58), (.k (.c (.int .i64 1)))]
    (.op (some 13) .mov [(.t 59)]
    .nil))))
def jacquardlaw3_Small_b1 : IC :=
  (.seq (.seq (.reg 14 false (.op (some 51) .mov [(.t 13)]
    (.op (some 52) (.bin .gtr) [(.t 51), (.k (.c (.int .i64 0)))]
    (.op (some 53) .mov [(.t 52)]
    (.sc 53 true (.op (some 54) .mov [(.t 10)]
    (.op (some 55) .mov [(.t 1)]
    (.op (some 56) (.bin .lss) [(.t 54), (.t 55)]
    .nil))) 56 57 false
    .nil)))))
  (.cond (.t 57)
  .skip
  (.exit 2)))
  (.seq (.blk 3 (.seq (.reg 16 false (.op (some 60) .mov [(.t 7)]
    (.op (some 61) (.callv [(.i .i64)]) [(.t 60)]
    (.op (some 14) .mov [(.t 61)]
    .nil))))
  (.seq (.reg 17 false (.op (some 62) .mov [(.t 14)]
    (.op (some 63) (.bin .shr) [(.t 62), (.k (.c (.int .u64 4)))]
    (.op (some 64) .mov [(.t 9)]
    (.op (some 65) (.bin .rem) [(.t 63), (.t 64)]
    (.op (some 66) (.bin .add) [(.k (.c (.int .i64 120))), (.t 65)]
    (.op (some 15) .mov [(.t 66)]
    .nil)))))))
  (.seq (.reg 18 false (.op (some 67) .mov [(.t 14)]
    (.op (some 68) (.bin .shr) [(.t 67), (.k (.c (.int .u64 6)))]
    (.op (some 69) (.bin .rem) [(.t 68), (.k (.c (.int .i64 3)))]
    (.op (some 70) (.build ([Cell.int .i64 0, Cell.int .i64 0]) [(0, 1), (1, 1)]) [(.k (.c (.int .i64 (-1)))), (.t 69)]
    (.al 16 2 ([Cell.int .i64 0, Cell.int .i64 0])
    (.op none (.stAll (.slot 2) 2) [(.t 16), (.t 70)]
    .nil)))))))
  (.cut [1, 4, 5, 7, 8, 9, 10, 11, 12, 13, 14, 15, 16] [0, 1, 2] [] (.seq (.reg 19 false (.op (some 71) .mov [(.t 14)]
    (.op (some 72) (.bin .shr) [(.t 71), (.k (.c (.int .u64 8)))]
    (.op (some 73) (.bin .rem) [(.t 72), (.k (.c (.int .i64 3)))]
    (.op (some 74) (.bin .eql) [(.t 73), (.k (.c (.int .i64 0)))]
    .nil)))))
  (.cond (.t 74)
  (.reg 20 false (.op (some 75) .mov [(.t 14)]
    (.op (some 76) (.bin .shr) [(.t 75), (.k (.c (.int .u64 10)))]
    (.op (some 77) (.bin .and) [(.t 76), (.k (.c (.int .i64 1)))]
    (.op (some 78) (.build ([Cell.int .i64 0, Cell.int .i64 0]) [(0, 1)]) [(.t 77)]
    (.op none (.stAll (.slot 2) 2) [(.t 16), (.t 78)]
    .nil))))))
  .skip))
  jacquardlaw3_Small_p6)))))
  jacquardlaw3_Small_p5))
def jacquardlaw3_Small_p4 : IC :=
  (.reg 44 false (.op (some 148) (.addr 2) [(.t 5)]
    (.op (some 149) (.ld (.slot 1) .any) [(.t 148)]
    (.op (some 150) .mov [(.t 12)]
    (.op (some 151) (.lit 1 1 ([Cell.nils]) [(0, 1)]) [(.t 150)]
    (.op (some 152) (.app 1 24) [(.t 149), (.t 151)]
    (.op (some 153) (.addr 2) [(.t 5)]
    (.op none (.st (.slot 1)) [(.t 153), (.t 152)]
    .nil))))))))
def jacquardlaw3_Small_p3 : IC :=
  (.reg 11 false (.op (some 45) .mov [(.t 11)]
    (.op (some 46) (.bin .add) [(.t 45), (.k (.c (.int .i64 1)))]
    (.op (some 11) .mov [(.t 46)]
    .nil))))
def jacquardlaw3_Small_b2 : IC :=
  (.seq (.seq (.reg 10 false (.op (some 42) .mov [(.t 11)]
    (.op (some 43) .mov [(.t 8)]
    (.op (some 44) (.bin .lss) [(.t 42), (.t 43)]
    .nil))))
  (.cond (.t 44)
  .skip
  (.exit 0)))
  (.seq (.blk 1 (.seq (.reg 12 false (.op (some 12) .mov [(.k (.c .nils))]
    .nil))
  (.seq (.seq (.reg 13 false (.op (some 47) .mov [(.t 7)]
    (.op (some 48) (.callv [(.i .i64)]) [(.t 47)]
    (.op (some 49) (.bin .rem) [(.t 48), (.k (.c (.int .i64 3)))]
    (.op (some 50) (.bin .add) [(.t 49), (.k (.c (.int .i64 1)))]
    (.op (some 13) .mov [(.t 50)]
    .nil))))))
  (.blk 2 (.loop [1, 4, 5, 7, 8, 9, 10, 11, 12, 13] [0, 1] [(3, [1, 4, 5, 7, 8, 9, 10, 11, 12], [0, 1])] jacquardlaw3_Small_b1)))
  jacquardlaw3_Small_p4)))
  jacquardlaw3_Small_p3))
def jacquardlaw3_Small_p2 : IC :=
  (.seq (.seq (.reg 45 false (.op (some 154) .mov [(.t 7)]
    (.op (some 155) (.callv [(.i .i64)]) [(.t 154)]
    (.op (some 18) .mov [(.t 155)]
    .nil))))
  (.seq (.reg 46 false (.op (some 156) .mov [(.t 18)]
    (.op (some 157) (.bin .rem) [(.t 156), (.k (.c (.int .i64 3)))]
    (.op (some 158) (.bin .eql) [(.t 157), (.k (.c (.int .i64 0)))]
    .nil))))
  (.cond (.t 158)
  (.reg 47 false (.op (some 159) .mov [(.t 18)]
    (.op (some 160) (.bin .quo) [(.t 159), (.k (.c (.int .i64 3)))]
    (.op (some 161) (.bin .rem) [(.t 160), (.k (.c (.int .i64 2)))]
    (.op (some 162) (.bin .add) [(.t 161), (.k (.c (.int .i64 1)))]
    (.op (some 163) .mov [(.t 18)]
    (.op (some 164) (.bin .shr) [(.t 163), (.k (.c (.int .u64 3)))]
    (.op (some 165) (.bin .and) [(.t 164), (.k (.c (.int .i64 1)))]
    (.op (some 166) .mov [(.t 18)]
    (.op (some 167) (.bin .shr) [(.t 166), (.k (.c (.int .u64 4)))]
    (.op (some 168) (.bin .and) [(.t 167), (.k (.c (.int .i64 1)))]
    (.op (some 169) (.build ([Cell.int .i64 0, Cell.int .i64 0, Cell.int .i64 0, Cell.int .i64 0]) [(0, 1), (1, 1), (3, 1)]) [(.k (.c (.int .i64 0))), (.t 165), (.t 168)]
    (.op (some 170) (.bslice 4 1 ([Cell.int .i64 0, Cell.int .i64 0, Cell.int .i64 0, Cell.int .i64 0]) [(0, 4)]) [(.t 169)]
    (.op (some 171) .mov [(.t 18)]
    (.op (some 172) (.bin .shr) [(.t 171), (.k (.c (.int .u64 5)))]
    (.op (some 173) (.bin .rem) [(.t 172), (.k (.c (.int .i64 3)))]
    (.op (some 174) (.build ([Cell.int .i64 0, Cell.int .i64 0, Cell.int .i64 0, Cell.int .i64 0]) [(0, 1), (2, 1), (3, 1)]) [(.k (.c (.int .i64 (-1)))), (.k (.c (.int .i64 120))), (.t 173)]
    (.op (some 175) .mov [(.t 18)]
    (.op (some 176) (.bin .shr) [(.t 175), (.k (.c (.int .u64 7)))]
    (.op (some 177) (.bin .and) [(.t 176), (.k (.c (.int .i64 1)))]
    (.op (some 178) (.build ([Cell.int .i64 0, Cell.int .i64 0, Cell.int .i64 0, Cell.int .i64 0]) [(0, 1), (1, 1), (3, 1)]) [(.k (.c (.int .i64 1))), (.k (.c (.int .i64 0))), (.t 177)]
    (.op (some 179) (.bslice 4 2 (List.replicate 8 (Cell.int .i64 0)) [(0, 4), (4, 4)]) [(.t 174), (.t 178)]
    (.op (some 180) (.bslice 1 2 ([Cell.nils, Cell.nils]) [(0, 1), (1, 1)]) [(.t 170), (.t 179)]
    (.op (some 181) (.build ([Cell.int .i64 0, Cell.nils]) [(0, 1), (1, 1)]) [(.t 162), (.t 180)]
    (.op (some 182) (.addr 3) [(.t 5)]
    (.op none (.stN (.slot 1) 2) [(.t 182), (.t 181)]
    .nil))))))))))))))))))))))))))
  .skip)))
  (.seq (.reg 48 false (.op (some 183) (.ldAll (.slot 1) 5) [(.t 5)]
    (.op none (.stAll (.slot 0) 5) [(.t 4), (.t 183)]
    .nil)))
  .ret))
def jacquardlaw3_Small_p1 : IC :=
  (.seq (.reg 8 false (.op (some 10) .mov [(.k (.c (.int .i64 0)))]
    .nil))
  (.seq (.seq (.reg 9 false (.op (some 11) .mov [(.k (.c (.int .i64 0)))]
    .nil))
  (.blk 0 (.loop [1, 4, 5, 7, 8, 9, 10, 11] [0, 1] [(1, [4, 5, 7], [0, 1])] jacquardlaw3_Small_b2)))
  jacquardlaw3_Small_p2))
def jacquardlaw3_Small : Fn := { np := 2, nt := 184, ns := 3, res := [.all (.slot 0) 4 5], gc := false, code :=
  (.seq (.reg 0 false (.op (some 2) .boxH [(.t 0)]
    (.al 4 0 ([Cell.str (ByteArray.mk #[]), Cell.nils, Cell.nils, Cell.int .i64 0, Cell.nils])
    .nil)))
  (.seq (.reg 1 false (.op (some 19) (.build ([Cell.str (ByteArray.mk #[]), Cell.nils, Cell.nils, Cell.int .i64 0, Cell.nils]) [(0, 1)]) [(.k (.c (.str (ByteArray.mk #[116]))))]
    (.al 5 1 ([Cell.str (ByteArray.mk #[]), Cell.nils, Cell.nils, Cell.int .i64 0, Cell.nils])
    (.op none (.stAll (.slot 1) 5) [(.t 5), (.t 19)]
    .nil))))
  (.seq (.reg 2 false (.op (some 6) (.allocH ([Cell.int .i64 0])) []
    (.op none (.st .heap) [(.t 6), (.k (.c (.int .i64 0)))]
    .nil)))
  (.seq (.reg 3 false (.op (some 20) (.mkfn 115) [(.t 6), (.t 2)]
    (.op (some 7) .mov [(.t 20)]
    .nil)))
  (.seq (.reg 4 false (.op (some 21) .mov [(.t 7)]
    (.op (some 22) (.callv [(.i .i64)]) [(.t 21)]
    (.op (some 23) (.bin .rem) [(.t 22), (.k (.c (.int .i64 2)))]
    (.op (some 24) (.bin .add) [(.t 23), (.k (.c (.int .i64 2)))]
    (.op (some 8) .mov [(.t 24)]
    .nil))))))
  (.seq (.reg 5 false (.op (some 25) .mov [(.t 7)]
    (.op (some 26) (.callv [(.i .i64)]) [(.t 25)]
    (.op (some 27) (.bin .rem) [(.t 26), (.k (.c (.int .i64 2)))]
    (.op (some 28) (.bin .add) [(.t 27), (.k (.c (.int .i64 2)))]
    (.op (some 9) .mov [(.t 28)]
    .nil))))))
  (.cut [1, 4, 5, 7, 8, 9] [0, 1] [] (.seq (.reg 6 false (.op (some 29) .mov [(.t 7)]
    (.op (some 30) (.callv [(.i .i64)]) [(.t 29)]
    (.op (some 31) (.bin .rem) [(.t 30), (.k (.c (.int .i64 4)))]
    (.op (some 32) (.bin .eql) [(.t 31), (.k (.c (.int .i64 0)))]
    .nil)))))
  (.cond (.t 32)
  (.reg 7 true (.op (some 33) (.addr 1) [(.t 5)]
    (.op (some 34) (.ld (.slot 1) .any) [(.t 33)]
    (.op (some 35) .mov [(.t 7)]
    (.op (some 36) (.callv [(.i .i64)]) [(.t 35)]
    (.op (some 37) (.bin .rem) [(.t 36), (.k (.c (.int .i64 3)))]
    (.op (some 38) (.build ([Cell.int .i64 0, Cell.int .i64 0]) [(0, 1), (1, 1)]) [(.k (.c (.int .i64 120))), (.t 37)]
    (.op (some 39) (.lit 2 1 ([Cell.int .i64 0, Cell.int .i64 0]) [(0, 2)]) [(.t 38)]
    (.op (some 40) (.app 2 16) [(.t 34), (.t 39)]
    (.op (some 41) (.addr 1) [(.t 5)]
    (.op none (.st (.slot 1)) [(.t 41), (.t 40)]
    .nil)))))))))))
  .skip))
  jacquardlaw3_Small_p1))))))) }

/- jacquard/jacquardlaw3.Small$1: 115 -/
def jacquardlaw3_Small_1 : Fn := { np := 2, nt := 15, ns := 0, res := [.t 2 (.i .i64)], gc := false, code :=
  (.seq (.reg 0 false (.op (some 2) .mov [(.k (.c (.int .i64 0)))]
    .nil))
  (.seq (.reg 1 false (.op (some 3) (.ld .heap (.i .i64)) [(.t 0)]
    (.op (some 4) (.bin .add) [(.t 3), (.k (.c (.int .i64 1)))]
    (.op none (.st .heap) [(.t 0), (.t 4)]
    .nil))))
  (.seq (.seq (.reg 2 false (.op (some 5) (.ld .heap (.i .i64)) [(.t 0)]
    (.op (some 6) (.ld .heap .any) [(.t 1)]
    (.op (some 7) .len [(.t 6)]
    (.op (some 8) (.bin .gtr) [(.t 5), (.t 7)]
    .nil)))))
  (.cond (.t 8)
  (.seq (.reg 3 false (.op (some 2) .mov [(.k (.c (.int .i64 0)))]
    .nil))
  .ret)
  .skip))
  (.seq (.reg 4 false (.op (some 9) (.ld .heap .any) [(.t 1)]
    (.op (some 10) (.ld .heap (.i .i64)) [(.t 0)]
    (.op (some 11) (.bin .sub) [(.t 10), (.k (.c (.int .i64 1)))]
    (.op (some 12) (.idxS 1) [(.t 9), (.t 11)]
    (.op (some 13) (.ld .heap (.i .i64)) [(.t 12)]
    (.op (some 14) (.bin .and) [(.t 13), (.k (.c (.int .i64 65535)))]
    (.op (some 2) .mov [(.t 14)]
    .nil))))))))
  .ret)))) }


end Jq

/- What a function needs of an environment. -/
namespace Jq
open Go

structure jacquardlaw3_Small_1_In (E : Env) : Prop where
  fn : E.fn 115 = some jacquardlaw3_Small_1

structure jacquardlaw3_Small_In (E : Env) : Prop where
  fn : E.fn 97 = some jacquardlaw3_Small
  c115 : jacquardlaw3_Small_1_In E

end Jq

namespace Jq
open Go

/- jacquard/jacquardlaw4.Few: 96 -/
def jacquardlaw4_Few_b1 : IC :=
  (.seq (.seq (.reg 4 false (.op (some 28) .mov [(.t 3)]
    (.op (some 29) (.addr 2) [(.t 1)]
    (.op (some 30) (.ld (.slot 0) .any) [(.t 29)]
    (.op (some 31) .len [(.t 30)]
    (.op (some 32) (.bin .lss) [(.t 28), (.t 31)]
    .nil))))))
  (.cond (.t 32)
  .skip
  (.exit 0)))
  (.seq (.blk 1 (.seq (.reg 6 false (.op (some 35) (.addr 2) [(.t 1)]
    (.op (some 36) (.ld (.slot 0) .any) [(.t 35)]
    (.op (some 37) .mov [(.t 3)]
    (.op (some 38) (.idxS 1) [(.t 36), (.t 37)]
    (.op (some 39) (.ld .heap .any) [(.t 38)]
    (.op (some 40) .len [(.t 39)]
    (.op (some 41) (.bin .gtr) [(.t 40), (.k (.c (.int .i64 30)))]
    .nil))))))))
  (.cond (.t 41)
  (.seq (.reg 7 false (.op (some 2) .mov [(.k (.c (.bool false)))]
    .nil))
  .ret)
  .skip)))
  (.reg 5 false (.op (some 33) .mov [(.t 3)]
    (.op (some 34) (.bin .add) [(.t 33), (.k (.c (.int .i64 1)))]
    (.op (some 3) .mov [(.t 34)]
    .nil))))))
def jacquardlaw4_Few_b2 : IC :=
  (.seq (.seq (.reg 9 false (.op (some 42) .mov [(.t 4)]
    (.op (some 43) (.addr 3) [(.t 1)]
    (.op (some 44) (.addr 1) [(.t 43)]
    (.op (some 45) (.ld (.slot 0) .any) [(.t 44)]
    (.op (some 46) .len [(.t 45)]
    (.op (some 47) (.bin .lss) [(.t 42), (.t 46)]
    .nil)))))))
  (.cond (.t 47)
  .skip
  (.exit 2)))
  (.seq (.blk 3 (.seq (.reg 11 false (.op (some 50) (.addr 3) [(.t 1)]
    (.op (some 51) (.addr 1) [(.t 50)]
    (.op (some 52) (.ld (.slot 0) .any) [(.t 51)]
    (.op (some 53) .mov [(.t 4)]
    (.op (some 54) (.idxS 1) [(.t 52), (.t 53)]
    (.op (some 55) (.ld .heap .any) [(.t 54)]
    (.op (some 56) .len [(.t 55)]
    (.op (some 57) (.bin .gtr) [(.t 56), (.k (.c (.int .i64 12)))]
    .nil)))))))))
  (.cond (.t 57)
  (.seq (.reg 12 false (.op (some 2) .mov [(.k (.c (.bool false)))]
    .nil))
  .ret)
  .skip)))
  (.reg 10 false (.op (some 48) .mov [(.t 4)]
    (.op (some 49) (.bin .add) [(.t 48), (.k (.c (.int .i64 1)))]
    (.op (some 4) .mov [(.t 49)]
    .nil))))))
def jacquardlaw4_Few_p2 : IC :=
  (.seq (.reg 13 false (.op (some 2) .mov [(.k (.c (.bool true)))]
    .nil))
  .ret)
def jacquardlaw4_Few_p1 : IC :=
  (.seq (.seq (.reg 8 false (.op (some 4) .mov [(.k (.c (.int .i64 0)))]
    .nil))
  (.blk 2 (.loop [1, 4] [0] [(0, [2], []), (3, [], [])] jacquardlaw4_Few_b2)))
  jacquardlaw4_Few_p2)
def jacquardlaw4_Few : Fn := { np := 1, nt := 58, ns := 1, res := [.t 2 .b], gc := false, code :=
  (.seq (.reg 0 false (.box 1 0 (.t 0)
    (.op (some 2) .mov [(.k (.c (.bool false)))]
    .nil)))
  (.seq (.seq (.reg 1 false (.op (some 5) (.addr 2) [(.t 1)]
    (.op (some 6) (.ld (.slot 0) .any) [(.t 5)]
    (.op (some 7) .len [(.t 6)]
    (.op (some 8) (.bin .gtr) [(.t 7), (.k (.c (.int .i64 6)))]
    (.op (some 9) .mov [(.t 8)]
    (.sc 9 false (.op (some 10) (.addr 1) [(.t 1)]
    (.op (some 11) (.ld (.slot 0) .any) [(.t 10)]
    (.op (some 12) .len [(.t 11)]
    (.op (some 13) (.bin .gtr) [(.t 12), (.k (.c (.int .i64 40)))]
    .nil)))) 13 14 true
    (.op (some 15) .mov [(.t 14)]
    (.sc 15 false (.op (some 16) (.addr 0) [(.t 1)]
    (.op (some 17) (.ld (.slot 0) .s) [(.t 16)]
    (.op (some 18) .lenStr [(.t 17)]
    (.op (some 19) (.bin .gtr) [(.t 18), (.k (.c (.int .i64 60)))]
    .nil)))) 19 20 true
    (.op (some 21) .mov [(.t 20)]
    (.sc 21 false (.op (some 22) (.addr 3) [(.t 1)]
    (.op (some 23) (.addr 1) [(.t 22)]
    (.op (some 24) (.ld (.slot 0) .any) [(.t 23)]
    (.op (some 25) .len [(.t 24)]
    (.op (some 26) (.bin .gtr) [(.t 25), (.k (.c (.int .i64 12)))]
    .nil))))) 26 27 true
    .nil)))))))))))
  (.cond (.t 27)
  (.seq (.reg 2 false (.op (some 2) .mov [(.k (.c (.bool false)))]
    .nil))
  .ret)
  .skip))
  (.seq (.seq (.reg 3 false (.op (some 3) .mov [(.k (.c (.int .i64 0)))]
    .nil))
  (.blk 0 (.loop [1, 3] [0] [(0, [2], []), (1, [1], [0])] jacquardlaw4_Few_b1)))
  jacquardlaw4_Few_p1))) }


end Jq

/- What a function needs of an environment. -/
namespace Jq
open Go

structure jacquardlaw4_Few_In (E : Env) : Prop where
  fn : E.fn 96 = some jacquardlaw4_Few

end Jq

namespace Jq
open Go

/- jacquard/jacquardlaw6.awake: 95 -/
def jacquardlaw6_awake : Fn := { np := 0, nt := 54, ns := 4, res := [.t 0 .b], gc := true, code :=
  (.seq (.reg 0 false (.op (some 0) .mov [(.k (.c (.bool false)))]
    .nil))
  (.seq (.reg 1 false (.op (some 7) (.build ([Cell.int .i64 0, Cell.int .i64 0]) [(0, 1), (1, 1)]) [(.k (.c (.int .i64 (-1)))), (.k (.c (.int .i64 1)))]
    (.op (some 8) (.build ([Cell.int .i64 0, Cell.int .i64 0]) [(0, 1)]) [(.k (.c (.int .i64 (-1))))]
    (.op (some 9) (.build (List.replicate 9 (Cell.int .i64 0)) [(0, 1), (3, 2), (6, 2)]) [(.k (.c (.int .i64 5))), (.t 7), (.t 8)]
    (.op (some 10) (.build ([Cell.int .i64 0, Cell.int .i64 0]) []) []
    (.op (some 11) (.build (List.replicate 9 (Cell.int .i64 0)) [(0, 1), (2, 1), (3, 2)]) [(.k (.c (.int .i64 1))), (.k (.c (.int .i64 120))), (.t 10)]
    (.op (some 12) (.bslice 9 2 (List.replicate 18 (Cell.int .i64 0)) [(0, 9), (9, 9)]) [(.t 9), (.t 11)]
    (.op (some 13) (.bslice 1 1 ([Cell.nils]) [(0, 1)]) [(.t 12)]
    (.op (some 14) (.build ([Cell.str (ByteArray.mk #[]), Cell.nils, Cell.nils, Cell.int .i64 0, Cell.nils]) [(0, 1), (2, 1)]) [(.k (.c (.str (ByteArray.mk #[97])))), (.t 13)]
    (.al 1 0 ([Cell.str (ByteArray.mk #[]), Cell.nils, Cell.nils, Cell.int .i64 0, Cell.nils])
    (.op none (.stAll (.slot 0) 5) [(.t 1), (.t 14)]
    .nil)))))))))))
  (.seq (.reg 2 false (.op (some 16) (.ldAll (.slot 0) 5) [(.t 1)]
    (.op (some 17) (.call 98 [.agg, (.i .i64)]) [(.t 16)]
    (.op (some 15) .mov [(.t 17)]
    (.op (some 18) (.ext 0) [(.t 15)]
    (.op (some 19) (.ext 1) [(.t 15)]
    (.al 2 1 ([Cell.nils, Cell.nils, Cell.nils])
    (.op none (.stAll (.slot 1) 3) [(.t 2), (.t 18)]
    (.op (some 3) .mov [(.t 19)]
    .nil)))))))))
  (.seq (.reg 3 false (.op (some 20) (.ldAll (.slot 1) 3) [(.t 2)]
    (.op (some 21) (.call 94 [.agg]) [(.t 20), (.k (.c (.int .i64 0)))]
    (.al 4 2 ([Cell.int .i64 0, Cell.int .i64 0, Cell.int .i64 0, Cell.int .i64 0, Cell.int .i64 0])
    (.op none (.stAll (.slot 2) 5) [(.t 4), (.t 21)]
    .nil)))))
  (.seq (.reg 4 false (.op (some 23) (.ldAll (.slot 1) 3) [(.t 2)]
    (.op (some 24) (.ldAll (.slot 2) 5) [(.t 4)]
    (.op (some 25) (.call 105 [.agg, .b]) [(.t 23), (.k (.c (.int .i64 0))), (.t 24)]
    (.op (some 22) .mov [(.t 25)]
    (.op (some 26) (.ext 0) [(.t 22)]
    (.op (some 27) (.ext 1) [(.t 22)]
    (.al 5 3 (List.replicate 9 (Cell.int .i64 0))
    (.op none (.stAll (.slot 3) 9) [(.t 5), (.t 26)]
    (.op (some 6) .mov [(.t 27)]
    .nil))))))))))
  (.seq (.reg 5 false (.op (some 28) .mov [(.t 3)]
    (.op (some 29) (.bin .eql) [(.t 28), (.k (.c (.int .i64 0)))]
    (.op (some 30) .mov [(.t 29)]
    (.sc 30 true (.op (some 31) (.addr 0) [(.t 4)]
    (.op (some 32) (.ld (.slot 2) (.i .i64)) [(.t 31)]
    (.op (some 33) (.bin .eql) [(.t 32), (.k (.c (.int .i64 1)))]
    .nil))) 33 34 false
    (.op (some 35) .mov [(.t 34)]
    (.sc 35 true (.op (some 36) (.addr 1) [(.t 4)]
    (.op (some 37) (.idxA 4 1) [(.t 36), (.k (.c (.int .i64 0)))]
    (.op (some 38) (.ld (.slot 2) (.i .i64)) [(.t 37)]
    (.op (some 39) (.bin .eql) [(.t 38), (.k (.c (.int .i64 1)))]
    .nil)))) 39 40 false
    (.op (some 41) .mov [(.t 40)]
    (.sc 41 true (.op (some 42) .mov [(.t 6)]
    .nil) 42 43 false
    (.op (some 44) .mov [(.t 43)]
    (.sc 44 true (.op (some 45) (.addr 0) [(.t 5)]
    (.op (some 46) (.ld (.slot 3) (.i .i64)) [(.t 45)]
    (.op (some 47) (.bin .eql) [(.t 46), (.k (.c (.int .i64 1)))]
    .nil))) 47 48 false
    (.op (some 49) .mov [(.t 48)]
    (.sc 49 true (.op (some 50) (.ldAll (.slot 1) 3) [(.t 2)]
    (.op (some 51) (.call 102 [(.i .i64)]) [(.t 50)]
    (.op (some 52) (.bin .eql) [(.t 51), (.k (.c (.int .i64 2)))]
    .nil))) 52 53 false
    (.op (some 0) .mov [(.t 53)]
    .nil))))))))))))))
  .ret)))))) }

/- jacquard/jacquardlaw6.ProgSteps: 232 -/
def jacquardlaw6_ProgSteps_b1 : IC :=
  (.seq (.seq (.reg 8 false (.op (some 46) .mov [(.t 14)]
    (.op (some 47) (.bin .lss) [(.t 46), (.k (.c (.int .i64 12)))]
    .nil)))
  (.cond (.t 47)
  .skip
  (.exit 0)))
  (.seq (.blk 1 (.seq (.reg 10 false (.op (some 51) (.ldAll (.slot 2) 3) [(.t 11)]
    (.op (some 52) .mov [(.t 2)]
    (.op (some 53) (.ldAll (.slot 3) 5) [(.t 12)]
    (.op (some 54) (.call 105 [.agg, .b]) [(.t 51), (.t 52), (.t 53)]
    (.op (some 50) .mov [(.t 54)]
    (.op (some 55) (.ext 0) [(.t 50)]
    (.op (some 56) (.ext 1) [(.t 50)]
    (.al 15 5 (List.replicate 9 (Cell.int .i64 0))
    (.op none (.stAll (.slot 5) 9) [(.t 15), (.t 55)]
    (.op (some 16) .mov [(.t 56)]
    .nil)))))))))))
  (.seq (.reg 11 false (.op (some 58) (.ldAll (.slot 2) 3) [(.t 11)]
    (.op (some 59) .mov [(.t 2)]
    (.op (some 60) (.ldAll (.slot 4) 5) [(.t 13)]
    (.op (some 61) (.call 81 [.agg, .b]) [(.t 58), (.t 59), (.t 60)]
    (.op (some 57) .mov [(.t 61)]
    (.op (some 62) (.ext 0) [(.t 57)]
    (.op (some 63) (.ext 1) [(.t 57)]
    (.al 17 6 (List.replicate 9 (Cell.int .i64 0))
    (.op none (.stAll (.slot 6) 9) [(.t 17), (.t 62)]
    (.op (some 18) .mov [(.t 63)]
    .nil)))))))))))
  (.seq (.seq (.reg 12 false (.op (some 64) (.ldAll (.slot 5) 9) [(.t 15)]
    (.op (some 65) (.ldAll (.slot 6) 9) [(.t 17)]
    (.op (some 66) (.eqA true (List.replicate 9 (Cell.int .i64 0))) [(.t 64), (.t 65)]
    (.op (some 67) .mov [(.t 66)]
    (.sc 67 false (.op (some 68) .mov [(.t 16)]
    (.op (some 69) .mov [(.t 18)]
    (.op (some 70) (.eqB true) [(.t 68), (.t 69)]
    .nil))) 70 71 true
    .nil))))))
  (.cond (.t 71)
  (.seq (.reg 13 false (.op (some 10) .mov [(.k (.c (.bool false)))]
    .nil))
  .ret)
  .skip))
  (.seq (.reg 14 false (.op (some 19) .mov [(.k (.c (.int .i64 0)))]
    .nil))
  (.seq (.seq (.reg 15 false (.op (some 72) .mov [(.t 14)]
    (.op (some 73) .mov [(.t 3)]
    (.op (some 74) .len [(.t 73)]
    (.op (some 75) (.bin .lss) [(.t 72), (.t 74)]
    .nil)))))
  (.cond (.t 75)
  (.reg 16 false (.op (some 76) .mov [(.t 3)]
    (.op (some 77) .mov [(.t 14)]
    (.op (some 78) (.idxS 1) [(.t 76), (.t 77)]
    (.op (some 79) (.ld .heap (.i .i64)) [(.t 78)]
    (.op (some 19) .mov [(.t 79)]
    .nil))))))
  .skip))
  (.seq (.reg 17 true (.op (some 80) (.ldAll (.slot 2) 3) [(.t 11)]
    (.op (some 81) .mov [(.t 2)]
    (.op (some 82) (.ldAll (.slot 3) 5) [(.t 12)]
    (.op (some 83) .mov [(.t 19)]
    (.op (some 84) (.qcall 106 [.agg]) [(.t 80), (.t 81), (.t 82), (.t 83)]
    (.op (some 85) (.ldAll (.slot 2) 3) [(.t 11)]
    (.op (some 86) .mov [(.t 2)]
    (.op (some 87) (.ldAll (.slot 4) 5) [(.t 13)]
    (.op (some 88) .mov [(.t 19)]
    (.op (some 89) (.qcall 107 [.agg]) [(.t 85), (.t 86), (.t 87), (.t 88)]
    (.op none (.stAll (.slot 3) 5) [(.t 12), (.t 84)]
    (.op none (.stAll (.slot 4) 5) [(.t 13), (.t 89)]
    .nil)))))))))))))
  (.seq (.reg 18 false (.op (some 90) (.ldAll (.slot 3) 5) [(.t 12)]
    (.op (some 91) (.ldAll (.slot 4) 5) [(.t 13)]
    (.op (some 92) (.eqA true ([Cell.int .i64 0, Cell.int .i64 0, Cell.int .i64 0, Cell.int .i64 0, Cell.int .i64 0])) [(.t 90), (.t 91)]
    .nil))))
  (.cond (.t 92)
  (.seq (.reg 19 false (.op (some 10) .mov [(.k (.c (.bool false)))]
    .nil))
  .ret)
  .skip)))))))))
  (.reg 9 false (.op (some 48) .mov [(.t 14)]
    (.op (some 49) (.bin .add) [(.t 48), (.k (.c (.int .i64 1)))]
    (.op (some 14) .mov [(.t 49)]
    .nil))))))
def jacquardlaw6_ProgSteps_p2 : IC :=
  (.seq (.reg 20 false (.op (some 94) (.ldAll (.slot 2) 3) [(.t 11)]
    (.op (some 95) .mov [(.t 2)]
    (.op (some 96) (.ldAll (.slot 1) 5) [(.t 9)]
    (.op (some 97) (.call 105 [.agg, .b]) [(.t 94), (.t 95), (.t 96)]
    (.op (some 93) .mov [(.t 97)]
    (.op (some 98) (.ext 0) [(.t 93)]
    (.op (some 99) (.ext 1) [(.t 93)]
    (.al 20 7 (List.replicate 9 (Cell.int .i64 0))
    (.op none (.stAll (.slot 7) 9) [(.t 20), (.t 98)]
    (.op (some 21) .mov [(.t 99)]
    .nil)))))))))))
  (.seq (.reg 21 false (.op (some 101) (.ldAll (.slot 2) 3) [(.t 11)]
    (.op (some 102) .mov [(.t 2)]
    (.op (some 103) (.ldAll (.slot 1) 5) [(.t 9)]
    (.op (some 104) (.call 81 [.agg, .b]) [(.t 101), (.t 102), (.t 103)]
    (.op (some 100) .mov [(.t 104)]
    (.op (some 105) (.ext 0) [(.t 100)]
    (.op (some 106) (.ext 1) [(.t 100)]
    (.al 22 8 (List.replicate 9 (Cell.int .i64 0))
    (.op none (.stAll (.slot 8) 9) [(.t 22), (.t 105)]
    (.op (some 23) .mov [(.t 106)]
    .nil)))))))))))
  (.seq (.reg 22 false (.op (some 107) .mov [(.t 2)]
    (.op (some 108) (.bin .and) [(.t 107), (.k (.c (.int .i64 3)))]
    (.op (some 109) (.build ([Cell.int .i64 0, Cell.int .i64 0]) [(0, 1)]) [(.t 108)]
    (.al 24 9 ([Cell.int .i64 0, Cell.int .i64 0])
    (.op none (.stAll (.slot 9) 2) [(.t 24), (.t 109)]
    .nil))))))
  (.seq (.reg 23 true (.op (some 110) (.ldAll (.slot 7) 9) [(.t 20)]
    (.op (some 111) (.ldAll (.slot 8) 9) [(.t 22)]
    (.op (some 112) (.eqA false (List.replicate 9 (Cell.int .i64 0))) [(.t 110), (.t 111)]
    (.op (some 113) .mov [(.t 112)]
    (.sc 113 true (.op (some 114) .mov [(.t 21)]
    (.op (some 115) .mov [(.t 23)]
    (.op (some 116) (.eqB false) [(.t 114), (.t 115)]
    .nil))) 116 117 false
    (.op (some 118) .mov [(.t 117)]
    (.sc 118 true (.op (some 119) (.ldAll (.slot 9) 2) [(.t 24)]
    (.op (some 120) (.ldAll (.slot 1) 5) [(.t 9)]
    (.op (some 121) (.qcall 108 [(.i .i64)]) [(.t 119), (.t 120)]
    (.op (some 122) .mov [(.t 2)]
    (.op (some 123) (.bin .and) [(.t 122), (.k (.c (.int .i64 3)))]
    (.op (some 124) (.addr 1) [(.t 9)]
    (.op (some 125) (.idxA 4 1) [(.t 124), (.t 123)]
    (.op (some 126) (.ld (.slot 1) (.i .i64)) [(.t 125)]
    (.op (some 127) (.bin .eql) [(.t 121), (.t 126)]
    .nil))))))))) 127 128 false
    (.op (some 129) .mov [(.t 128)]
    (.sc 129 true (.op (some 130) (.build ([Cell.int .i64 0, Cell.int .i64 0]) [(0, 1), (1, 1)]) [(.k (.c (.int .i64 (-1)))), (.k (.c (.int .i64 9)))]
    (.op (some 131) (.ldAll (.slot 1) 5) [(.t 9)]
    (.op (some 132) (.qcall 108 [(.i .i64)]) [(.t 130), (.t 131)]
    (.op (some 133) (.bin .eql) [(.t 132), (.k (.c (.int .i64 9)))]
    .nil)))) 133 134 false
    (.op (some 135) .mov [(.t 134)]
    (.sc 135 true (.op (some 136) (.qcall 95 [.b]) []
    .nil) 136 137 false
    (.op (some 10) .mov [(.t 137)]
    .nil)))))))))))))
  .ret))))
def jacquardlaw6_ProgSteps_p1 : IC :=
  (.seq (.reg 3 false (.op (some 35) (.ldAll (.slot 0) 5) [(.t 5)]
    (.op (some 36) (.call 101 [.agg]) [(.t 35)]
    (.al 11 2 ([Cell.nils, Cell.nils, Cell.nils])
    (.op none (.stAll (.slot 2) 3) [(.t 11), (.t 36)]
    .nil)))))
  (.seq (.reg 4 true (.op (some 37) (.ldAll (.slot 2) 3) [(.t 11)]
    (.op (some 38) .mov [(.t 2)]
    (.op (some 39) (.qcall 94 [.agg]) [(.t 37), (.t 38)]
    (.op (some 40) (.ldAll (.slot 2) 3) [(.t 11)]
    (.op (some 41) .mov [(.t 2)]
    (.op (some 42) (.qcall 104 [.agg]) [(.t 40), (.t 41)]
    (.al 12 3 ([Cell.int .i64 0, Cell.int .i64 0, Cell.int .i64 0, Cell.int .i64 0, Cell.int .i64 0])
    (.al 13 4 ([Cell.int .i64 0, Cell.int .i64 0, Cell.int .i64 0, Cell.int .i64 0, Cell.int .i64 0])
    (.op none (.stAll (.slot 3) 5) [(.t 12), (.t 39)]
    (.op none (.stAll (.slot 4) 5) [(.t 13), (.t 42)]
    .nil)))))))))))
  (.seq (.seq (.reg 5 false (.op (some 43) (.ldAll (.slot 3) 5) [(.t 12)]
    (.op (some 44) (.ldAll (.slot 4) 5) [(.t 13)]
    (.op (some 45) (.eqA true ([Cell.int .i64 0, Cell.int .i64 0, Cell.int .i64 0, Cell.int .i64 0, Cell.int .i64 0])) [(.t 43), (.t 44)]
    .nil))))
  (.cond (.t 45)
  (.seq (.reg 6 false (.op (some 10) .mov [(.k (.c (.bool false)))]
    .nil))
  .ret)
  .skip))
  (.seq (.seq (.reg 7 false (.op (some 14) .mov [(.k (.c (.int .i64 0)))]
    .nil))
  (.blk 0 (.loop [2, 3, 9, 11, 12, 13, 14] [1, 2, 3, 4] [(0, [10], []), (1, [2, 9, 11], [1, 2])] jacquardlaw6_ProgSteps_b1)))
  jacquardlaw6_ProgSteps_p2))))
def jacquardlaw6_ProgSteps : Fn := { np := 5, nt := 138, ns := 10, res := [.t 10 .b], gc := false, code :=
  (.seq (.reg 0 false (.box 5 0 (.t 0)
    (.box 9 1 (.t 4)
    (.op (some 10) .mov [(.k (.c (.bool false)))]
    .nil))))
  (.cut [2, 3, 5, 9] [0, 1] [] (.seq (.reg 1 false (.op (some 25) (.ldAll (.slot 0) 5) [(.t 5)]
    (.op (some 26) (.call 96 [.b]) [(.t 25)]
    (.op (some 27) (.un .not) [(.t 26)]
    (.op (some 28) .mov [(.t 27)]
    (.sc 28 false (.op (some 29) (.ldAll (.slot 0) 5) [(.t 5)]
    (.op (some 30) (.call 99 [(.i .i64)]) [(.t 29)]
    (.op (some 31) (.bin .neq) [(.t 30), (.k (.c (.int .i64 0)))]
    .nil))) 31 32 true
    .nil))))))
  (.cond (.t 32)
  (.reg 2 false (.op (some 33) .mov [(.t 1)]
    (.op (some 34) (.call 97 [.agg]) [(.t 33), (.k (.c (.int .i64 12)))]
    (.op none (.stAll (.slot 0) 5) [(.t 5), (.t 34)]
    .nil))))
  .skip))
  jacquardlaw6_ProgSteps_p1)) }


end Jq

namespace Jq
open Go

/- jacquard/jacquardref2.Do: 93 -/
def jacquardref2_Do : Fn := { np := 3, nt := 81, ns := 0, res := [.t 6 (.i .i64), .t 7 .b], gc := false, code :=
  (.seq (.reg 0 false (.op (some 6) .mov [(.k (.c (.int .i64 0)))]
    (.op (some 7) .mov [(.k (.c (.bool false)))]
    .nil)))
  (.seq (.reg 1 false (.op (some 10) .mov [(.t 2)]
    (.op (some 11) (.conv .u64) [(.t 10)]
    (.op (some 12) (.bin .rem) [(.t 11), (.k (.c (.int .u64 64)))]
    (.op (some 8) .mov [(.t 12)]
    .nil)))))
  (.seq (.reg 2 false (.op (some 9) .mov [(.k (.c (.bool false)))]
    .nil))
  (.seq (.seq (.reg 3 false (.op (some 13) .mov [(.t 0)]
    .nil))
  (.blk 0 (.seq (.reg 5 false (.op (some 15) (.bin .eql) [(.t 13), (.k (.c (.int .i64 1)))]
    (.op (some 14) .mov [(.t 15)]
    .nil)))
  (.cond (.t 14)
  (.seq (.reg 6 false (.op (some 16) .mov [(.t 1)]
    (.op (some 17) (.conv .u64) [(.t 16)]
    (.op (some 18) .mov [(.t 2)]
    (.op (some 19) (.conv .u64) [(.t 18)]
    (.op (some 20) (.bin .add) [(.t 17), (.t 19)]
    (.op (some 21) (.conv .i64) [(.t 20)]
    (.op (some 6) .mov [(.t 21)]
    (.op (some 7) .mov [(.k (.c (.bool true)))]
    .nil)))))))))
  .ret)
  (.seq (.reg 7 false (.op (some 23) (.bin .eql) [(.t 13), (.k (.c (.int .i64 2)))]
    (.op (some 22) .mov [(.t 23)]
    .nil)))
  (.cond (.t 22)
  (.seq (.reg 8 false (.op (some 24) .mov [(.t 1)]
    (.op (some 25) (.conv .u64) [(.t 24)]
    (.op (some 26) .mov [(.t 2)]
    (.op (some 27) (.conv .u64) [(.t 26)]
    (.op (some 28) (.bin .sub) [(.t 25), (.t 27)]
    (.op (some 29) (.conv .i64) [(.t 28)]
    (.op (some 6) .mov [(.t 29)]
    (.op (some 7) .mov [(.k (.c (.bool true)))]
    .nil)))))))))
  .ret)
  (.seq (.reg 9 false (.op (some 31) (.bin .eql) [(.t 13), (.k (.c (.int .i64 3)))]
    (.op (some 30) .mov [(.t 31)]
    .nil)))
  (.cond (.t 30)
  (.seq (.reg 10 false (.op (some 32) .mov [(.t 1)]
    (.op (some 33) (.conv .u64) [(.t 32)]
    (.op (some 34) .mov [(.t 2)]
    (.op (some 35) (.conv .u64) [(.t 34)]
    (.op (some 36) (.bin .mul) [(.t 33), (.t 35)]
    (.op (some 37) (.conv .i64) [(.t 36)]
    (.op (some 6) .mov [(.t 37)]
    (.op (some 7) .mov [(.k (.c (.bool true)))]
    .nil)))))))))
  .ret)
  (.seq (.reg 11 false (.op (some 39) (.bin .eql) [(.t 13), (.k (.c (.int .i64 4)))]
    (.op (some 38) .mov [(.t 39)]
    .nil)))
  (.cond (.t 38)
  (.seq (.reg 12 false (.op (some 40) .mov [(.t 1)]
    (.op (some 41) .mov [(.t 2)]
    (.op (some 42) (.bin .and) [(.t 40), (.t 41)]
    (.op (some 6) .mov [(.t 42)]
    (.op (some 7) .mov [(.k (.c (.bool true)))]
    .nil))))))
  .ret)
  (.seq (.reg 13 false (.op (some 44) (.bin .eql) [(.t 13), (.k (.c (.int .i64 5)))]
    (.op (some 43) .mov [(.t 44)]
    .nil)))
  (.cond (.t 43)
  (.seq (.reg 14 false (.op (some 45) .mov [(.t 1)]
    (.op (some 46) .mov [(.t 2)]
    (.op (some 47) (.bin .or) [(.t 45), (.t 46)]
    (.op (some 6) .mov [(.t 47)]
    (.op (some 7) .mov [(.k (.c (.bool true)))]
    .nil))))))
  .ret)
  (.seq (.reg 15 false (.op (some 49) (.bin .eql) [(.t 13), (.k (.c (.int .i64 6)))]
    (.op (some 48) .mov [(.t 49)]
    .nil)))
  (.cond (.t 48)
  (.seq (.reg 16 false (.op (some 50) .mov [(.t 1)]
    (.op (some 51) .mov [(.t 2)]
    (.op (some 52) (.bin .xor) [(.t 50), (.t 51)]
    (.op (some 6) .mov [(.t 52)]
    (.op (some 7) .mov [(.k (.c (.bool true)))]
    .nil))))))
  .ret)
  (.seq (.reg 17 false (.op (some 54) (.bin .eql) [(.t 13), (.k (.c (.int .i64 7)))]
    (.op (some 53) .mov [(.t 54)]
    .nil)))
  (.cond (.t 53)
  (.seq (.reg 18 false (.op (some 55) .mov [(.t 1)]
    (.op (some 56) (.conv .u64) [(.t 55)]
    (.op (some 57) .mov [(.t 8)]
    (.op (some 58) (.bin .shl) [(.t 56), (.t 57)]
    (.op (some 59) (.conv .i64) [(.t 58)]
    (.op (some 6) .mov [(.t 59)]
    (.op (some 7) .mov [(.k (.c (.bool true)))]
    .nil))))))))
  .ret)
  (.seq (.reg 19 false (.op (some 61) (.bin .eql) [(.t 13), (.k (.c (.int .i64 8)))]
    (.op (some 60) .mov [(.t 61)]
    .nil)))
  (.cond (.t 60)
  (.seq (.reg 20 false (.op (some 62) .mov [(.t 1)]
    (.op (some 63) .mov [(.t 8)]
    (.op (some 64) (.bin .shr) [(.t 62), (.t 63)]
    (.op (some 6) .mov [(.t 64)]
    (.op (some 7) .mov [(.k (.c (.bool true)))]
    .nil))))))
  .ret)
  (.seq (.reg 21 false (.op (some 66) (.bin .eql) [(.t 13), (.k (.c (.int .i64 9)))]
    (.op (some 65) .mov [(.t 66)]
    .nil)))
  (.cond (.t 65)
  (.reg 22 false (.op (some 67) .mov [(.t 1)]
    (.op (some 68) .mov [(.t 2)]
    (.op (some 69) (.bin .eql) [(.t 67), (.t 68)]
    (.op (some 9) .mov [(.t 69)]
    .nil)))))
  (.seq (.reg 23 false (.op (some 71) (.bin .eql) [(.t 13), (.k (.c (.int .i64 10)))]
    (.op (some 70) .mov [(.t 71)]
    .nil)))
  (.cond (.t 70)
  (.reg 24 false (.op (some 72) .mov [(.t 1)]
    (.op (some 73) .mov [(.t 2)]
    (.op (some 74) (.bin .neq) [(.t 72), (.t 73)]
    (.op (some 9) .mov [(.t 74)]
    .nil)))))
  (.seq (.reg 25 false (.op (some 76) (.bin .eql) [(.t 13), (.k (.c (.int .i64 11)))]
    (.op (some 75) .mov [(.t 76)]
    .nil)))
  (.cond (.t 75)
  (.reg 26 false (.op (some 77) .mov [(.t 1)]
    (.op (some 78) .mov [(.t 2)]
    (.op (some 79) (.bin .lss) [(.t 77), (.t 78)]
    (.op (some 9) .mov [(.t 79)]
    .nil)))))
  (.seq (.reg 4 false (.op (some 6) .mov [(.k (.c (.int .i64 0)))]
    (.op (some 7) .mov [(.k (.c (.bool false)))]
    .nil)))
  .ret)))))))))))))))))))))))))
  (.seq (.seq (.reg 27 false (.op (some 80) .mov [(.t 9)]
    .nil))
  (.cond (.t 80)
  (.seq (.reg 28 false (.op (some 6) .mov [(.k (.c (.int .i64 1)))]
    (.op (some 7) .mov [(.k (.c (.bool true)))]
    .nil)))
  .ret)
  .skip))
  (.seq (.reg 29 false (.op (some 6) .mov [(.k (.c (.int .i64 0)))]
    (.op (some 7) .mov [(.k (.c (.bool true)))]
    .nil)))
  .ret)))))) }

/- jacquard/jacquardref2.Check: 99 -/
def jacquardref2_Check_b1 : IC :=
  (.seq (.seq (.reg 6 false (.op (some 46) .mov [(.t 5)]
    (.op (some 47) (.addr 2) [(.t 1)]
    (.op (some 48) (.ld (.slot 0) .any) [(.t 47)]
    (.op (some 49) .len [(.t 48)]
    (.op (some 50) (.bin .lss) [(.t 46), (.t 49)]
    (.op (some 51) .mov [(.t 50)]
    (.sc 51 true (.op (some 52) .mov [(.t 5)]
    (.op (some 53) (.bin .lss) [(.t 52), (.k (.c (.int .i64 5)))]
    .nil)) 53 54 false
    .nil))))))))
  (.cond (.t 54)
  .skip
  (.exit 0)))
  (.seq (.blk 1 (.seq (.reg 8 false (.op (some 57) .mov [(.t 4)]
    (.op (some 58) .mov [(.t 57)]
    (.sc 58 false (.op (some 59) (.addr 2) [(.t 1)]
    (.op (some 60) (.ld (.slot 0) .any) [(.t 59)]
    (.op (some 61) .mov [(.t 5)]
    (.op (some 62) (.idxS 1) [(.t 60), (.t 61)]
    (.op (some 63) (.ld .heap .any) [(.t 62)]
    (.op (some 64) .len [(.t 63)]
    (.op (some 65) (.bin .gtr) [(.t 64), (.k (.c (.int .i64 10)))]
    .nil))))))) 65 66 true
    (.op (some 4) .mov [(.t 66)]
    .nil)))))
  (.reg 9 false (.op (some 67) .mov [(.t 3)]
    (.op (some 68) (.addr 2) [(.t 1)]
    (.op (some 69) (.ld (.slot 0) .any) [(.t 68)]
    (.op (some 70) .mov [(.t 5)]
    (.op (some 71) (.idxS 1) [(.t 69), (.t 70)]
    (.op (some 72) (.ld .heap .any) [(.t 71)]
    (.op (some 73) .len [(.t 72)]
    (.op (some 74) .mn [(.t 73), (.k (.c (.int .i64 100)))]
    (.op (some 75) (.bin .add) [(.t 67), (.t 74)]
    (.op (some 3) .mov [(.t 75)]
    .nil)))))))))))))
  (.reg 7 false (.op (some 55) .mov [(.t 5)]
    (.op (some 56) (.bin .add) [(.t 55), (.k (.c (.int .i64 1)))]
    (.op (some 5) .mov [(.t 56)]
    .nil))))))
def jacquardref2_Check_b2 : IC :=
  (.seq (.seq (.reg 11 false (.op (some 76) .mov [(.t 6)]
    (.op (some 77) (.addr 3) [(.t 1)]
    (.op (some 78) (.addr 1) [(.t 77)]
    (.op (some 79) (.ld (.slot 0) .any) [(.t 78)]
    (.op (some 80) .len [(.t 79)]
    (.op (some 81) (.bin .lss) [(.t 76), (.t 80)]
    .nil)))))))
  (.cond (.t 81)
  .skip
  (.exit 2)))
  (.seq (.blk 3 (.reg 13 false (.op (some 84) .mov [(.t 4)]
    (.op (some 85) .mov [(.t 84)]
    (.sc 85 false (.op (some 86) (.addr 3) [(.t 1)]
    (.op (some 87) (.addr 1) [(.t 86)]
    (.op (some 88) (.ld (.slot 0) .any) [(.t 87)]
    (.op (some 89) .mov [(.t 6)]
    (.op (some 90) (.idxS 1) [(.t 88), (.t 89)]
    (.op (some 91) (.ld .heap .any) [(.t 90)]
    (.op (some 92) .len [(.t 91)]
    (.op (some 93) (.bin .gtr) [(.t 92), (.k (.c (.int .i64 8)))]
    .nil)))))))) 93 94 true
    (.op (some 4) .mov [(.t 94)]
    .nil))))))
  (.reg 12 false (.op (some 82) .mov [(.t 6)]
    (.op (some 83) (.bin .add) [(.t 82), (.k (.c (.int .i64 1)))]
    (.op (some 6) .mov [(.t 83)]
    .nil))))))
def jacquardref2_Check_b3 : IC :=
  (.seq (.seq (.reg 20 false (.op (some 107) .mov [(.t 8)]
    (.op (some 108) .mov [(.t 7)]
    (.op (some 109) (.bin .lss) [(.t 107), (.t 108)]
    .nil))))
  (.cond (.t 109)
  .skip
  (.exit 6)))
  (.seq (.blk 7 (.seq (.reg 22 true (.op (some 112) (.addr 1) [(.t 1)]
    (.op (some 113) (.ld (.slot 0) .any) [(.t 112)]
    (.op (some 114) .mov [(.t 7)]
    (.op (some 115) (.idxS 2) [(.t 113), (.t 114)]
    (.op (some 116) (.addr 0) [(.t 115)]
    (.op (some 117) (.ld .heap (.i .i64)) [(.t 116)]
    (.op (some 118) (.addr 1) [(.t 1)]
    (.op (some 119) (.ld (.slot 0) .any) [(.t 118)]
    (.op (some 120) .mov [(.t 8)]
    (.op (some 121) (.idxS 2) [(.t 119), (.t 120)]
    (.op (some 122) (.addr 0) [(.t 121)]
    (.op (some 123) (.ld .heap (.i .i64)) [(.t 122)]
    (.op (some 124) (.bin .eql) [(.t 117), (.t 123)]
    .nil))))))))))))))
  (.cond (.t 124)
  (.seq (.reg 23 false (.op (some 2) .mov [(.k (.c (.int .i64 9)))]
    .nil))
  .ret)
  .skip)))
  (.reg 21 false (.op (some 110) .mov [(.t 8)]
    (.op (some 111) (.bin .add) [(.t 110), (.k (.c (.int .i64 1)))]
    (.op (some 8) .mov [(.t 111)]
    .nil))))))
def jacquardref2_Check_p4 : IC :=
  (.reg 18 false (.op (some 105) .mov [(.t 7)]
    (.op (some 106) (.bin .add) [(.t 105), (.k (.c (.int .i64 1)))]
    (.op (some 7) .mov [(.t 106)]
    .nil))))
def jacquardref2_Check_b4 : IC :=
  (.seq (.seq (.reg 17 false (.op (some 100) .mov [(.t 7)]
    (.op (some 101) (.addr 1) [(.t 1)]
    (.op (some 102) (.ld (.slot 0) .any) [(.t 101)]
    (.op (some 103) .len [(.t 102)]
    (.op (some 104) (.bin .lss) [(.t 100), (.t 103)]
    .nil))))))
  (.cond (.t 104)
  .skip
  (.exit 4)))
  (.seq (.blk 5 (.seq (.reg 19 false (.op (some 8) .mov [(.k (.c (.int .i64 0)))]
    .nil))
  (.blk 6 (.loop [1, 7, 8] [0] [(0, [2], []), (7, [1, 7], [0])] jacquardref2_Check_b3))))
  jacquardref2_Check_p4))
def jacquardref2_Check_b5 : IC :=
  (.seq (.seq (.reg 28 false (.op (some 132) .mov [(.t 10)]
    (.op (some 133) (.addr 2) [(.t 1)]
    (.op (some 134) (.ld (.slot 0) .any) [(.t 133)]
    (.op (some 135) .mov [(.t 9)]
    (.op (some 136) (.idxS 1) [(.t 134), (.t 135)]
    (.op (some 137) (.ld .heap .any) [(.t 136)]
    (.op (some 138) .len [(.t 137)]
    (.op (some 139) (.bin .lss) [(.t 132), (.t 138)]
    .nil)))))))))
  (.cond (.t 139)
  .skip
  (.exit 10)))
  (.seq (.blk 11 (.seq (.reg 30 false (.op (some 142) (.addr 2) [(.t 1)]
    (.op (some 143) (.ld (.slot 0) .any) [(.t 142)]
    (.op (some 144) .mov [(.t 9)]
    (.op (some 145) (.idxS 1) [(.t 143), (.t 144)]
    (.op (some 146) (.ld .heap .any) [(.t 145)]
    (.op (some 147) .mov [(.t 10)]
    (.op (some 148) (.idxS 9) [(.t 146), (.t 147)]
    (.op (some 149) (.ldN .heap 9) [(.t 148)]
    (.al 11 1 (List.replicate 9 (Cell.int .i64 0))
    (.op none (.stAll (.slot 1) 9) [(.t 11), (.t 149)]
    .nil)))))))))))
  (.seq (.reg 31 true (.op (some 150) (.addr 0) [(.t 11)]
    (.op (some 151) (.ld (.slot 1) (.i .i64)) [(.t 150)]
    (.op (some 152) (.bin .eql) [(.t 151), (.k (.c (.int .i64 6)))]
    (.op (some 153) .mov [(.t 152)]
    (.sc 153 true (.op (some 154) (.addr 8) [(.t 11)]
    (.op (some 155) (.ld (.slot 1) (.i .i64)) [(.t 154)]
    (.op (some 156) (.bin .eql) [(.t 155), (.k (.c (.int .i64 0)))]
    (.op (some 157) .mov [(.t 156)]
    (.sc 157 false (.op (some 158) (.addr 8) [(.t 11)]
    (.op (some 159) (.ld (.slot 1) (.i .i64)) [(.t 158)]
    (.op (some 160) (.addr 2) [(.t 1)]
    (.op (some 161) (.ld (.slot 0) .any) [(.t 160)]
    (.op (some 162) .mov [(.t 9)]
    (.op (some 163) (.idxS 1) [(.t 161), (.t 162)]
    (.op (some 164) (.ld .heap .any) [(.t 163)]
    (.op (some 165) .len [(.t 164)]
    (.op (some 166) .mov [(.t 10)]
    (.op (some 167) (.bin .sub) [(.t 165), (.t 166)]
    (.op (some 168) (.bin .geq) [(.t 159), (.t 167)]
    .nil))))))))))) 168 169 true
    .nil))))) 169 170 false
    .nil))))))
  (.cond (.t 170)
  (.seq (.reg 32 false (.op (some 2) .mov [(.k (.c (.int .i64 10)))]
    .nil))
  .ret)
  .skip))))
  (.reg 29 false (.op (some 140) .mov [(.t 10)]
    (.op (some 141) (.bin .add) [(.t 140), (.k (.c (.int .i64 1)))]
    (.op (some 10) .mov [(.t 141)]
    .nil))))))
def jacquardref2_Check_p6 : IC :=
  (.reg 26 false (.op (some 130) .mov [(.t 9)]
    (.op (some 131) (.bin .add) [(.t 130), (.k (.c (.int .i64 1)))]
    (.op (some 9) .mov [(.t 131)]
    .nil))))
def jacquardref2_Check_b6 : IC :=
  (.seq (.seq (.reg 25 false (.op (some 125) .mov [(.t 9)]
    (.op (some 126) (.addr 2) [(.t 1)]
    (.op (some 127) (.ld (.slot 0) .any) [(.t 126)]
    (.op (some 128) .len [(.t 127)]
    (.op (some 129) (.bin .lss) [(.t 125), (.t 128)]
    .nil))))))
  (.cond (.t 129)
  .skip
  (.exit 8)))
  (.seq (.blk 9 (.seq (.reg 27 false (.op (some 10) .mov [(.k (.c (.int .i64 0)))]
    .nil))
  (.blk 10 (.loop [1, 9, 10] [0] [(0, [2], []), (11, [1, 9], [0])] jacquardref2_Check_b5))))
  jacquardref2_Check_p6))
def jacquardref2_Check_b7 : IC :=
  (.seq (.seq (.reg 37 false (.op (some 179) .mov [(.t 13)]
    (.op (some 180) (.addr 3) [(.t 1)]
    (.op (some 181) (.addr 1) [(.t 180)]
    (.op (some 182) (.ld (.slot 0) .any) [(.t 181)]
    (.op (some 183) .mov [(.t 12)]
    (.op (some 184) (.idxS 1) [(.t 182), (.t 183)]
    (.op (some 185) (.ld .heap .any) [(.t 184)]
    (.op (some 186) .len [(.t 185)]
    (.op (some 187) (.bin .lss) [(.t 179), (.t 186)]
    .nil))))))))))
  (.cond (.t 187)
  .skip
  (.exit 14)))
  (.seq (.blk 15 (.seq (.reg 39 true (.op (some 190) (.addr 3) [(.t 1)]
    (.op (some 191) (.addr 1) [(.t 190)]
    (.op (some 192) (.ld (.slot 0) .any) [(.t 191)]
    (.op (some 193) .mov [(.t 12)]
    (.op (some 194) (.idxS 1) [(.t 192), (.t 193)]
    (.op (some 195) (.ld .heap .any) [(.t 194)]
    (.op (some 196) .mov [(.t 13)]
    (.op (some 197) (.idxS 4) [(.t 195), (.t 196)]
    (.op (some 198) (.addr 0) [(.t 197)]
    (.op (some 199) (.ld .heap (.i .i64)) [(.t 198)]
    (.op (some 200) (.addr 2) [(.t 1)]
    (.op (some 201) (.ld (.slot 0) .any) [(.t 200)]
    (.op (some 202) .len [(.t 201)]
    (.op (some 203) (.bin .geq) [(.t 199), (.t 202)]
    .nil)))))))))))))))
  (.cond (.t 203)
  (.seq (.reg 40 false (.op (some 2) .mov [(.k (.c (.int .i64 10)))]
    .nil))
  .ret)
  .skip)))
  (.reg 38 false (.op (some 188) .mov [(.t 13)]
    (.op (some 189) (.bin .add) [(.t 188), (.k (.c (.int .i64 1)))]
    (.op (some 13) .mov [(.t 189)]
    .nil))))))
def jacquardref2_Check_p8 : IC :=
  (.reg 35 false (.op (some 177) .mov [(.t 12)]
    (.op (some 178) (.bin .add) [(.t 177), (.k (.c (.int .i64 1)))]
    (.op (some 12) .mov [(.t 178)]
    .nil))))
def jacquardref2_Check_b8 : IC :=
  (.seq (.seq (.reg 34 false (.op (some 171) .mov [(.t 12)]
    (.op (some 172) (.addr 3) [(.t 1)]
    (.op (some 173) (.addr 1) [(.t 172)]
    (.op (some 174) (.ld (.slot 0) .any) [(.t 173)]
    (.op (some 175) .len [(.t 174)]
    (.op (some 176) (.bin .lss) [(.t 171), (.t 175)]
    .nil)))))))
  (.cond (.t 176)
  .skip
  (.exit 12)))
  (.seq (.blk 13 (.seq (.reg 36 false (.op (some 13) .mov [(.k (.c (.int .i64 0)))]
    .nil))
  (.blk 14 (.loop [1, 12, 13] [0] [(0, [2], []), (15, [1, 12], [0])] jacquardref2_Check_b7))))
  jacquardref2_Check_p8))
def jacquardref2_Check_p7 : IC :=
  (.seq (.reg 41 false (.op (some 2) .mov [(.k (.c (.int .i64 0)))]
    .nil))
  .ret)
def jacquardref2_Check_p5 : IC :=
  (.seq (.seq (.reg 33 false (.op (some 12) .mov [(.k (.c (.int .i64 0)))]
    .nil))
  (.blk 12 (.loop [1, 12] [0] [(0, [2], []), (13, [], [])] jacquardref2_Check_b8)))
  jacquardref2_Check_p7)
def jacquardref2_Check_p3 : IC :=
  (.seq (.seq (.reg 24 false (.op (some 9) .mov [(.k (.c (.int .i64 0)))]
    .nil))
  (.blk 8 (.loop [1, 9] [0] [(0, [2], []), (9, [1], [0])] jacquardref2_Check_b6)))
  jacquardref2_Check_p5)
def jacquardref2_Check_p2 : IC :=
  (.seq (.seq (.reg 14 false (.op (some 95) .mov [(.t 4)]
    (.op (some 96) .mov [(.t 95)]
    (.sc 96 false (.op (some 97) .mov [(.t 3)]
    (.op (some 98) (.bin .gtr) [(.t 97), (.k (.c (.int .i64 24)))]
    .nil)) 98 99 true
    .nil))))
  (.cond (.t 99)
  (.seq (.reg 15 false (.op (some 2) .mov [(.k (.c (.int .i64 8)))]
    .nil))
  .ret)
  .skip))
  (.seq (.seq (.reg 16 false (.op (some 7) .mov [(.k (.c (.int .i64 0)))]
    .nil))
  (.blk 4 (.loop [1, 7] [0] [(0, [2], []), (5, [1], [0])] jacquardref2_Check_b4)))
  jacquardref2_Check_p3))
def jacquardref2_Check_p1 : IC :=
  (.seq (.seq (.reg 10 false (.op (some 6) .mov [(.k (.c (.int .i64 0)))]
    .nil))
  (.blk 2 (.loop [1, 3, 4, 6] [0] [(3, [1, 3, 4], [0])] jacquardref2_Check_b2)))
  jacquardref2_Check_p2)
def jacquardref2_Check : Fn := { np := 1, nt := 204, ns := 2, res := [.t 2 (.i .i64)], gc := false, code :=
  (.seq (.reg 0 false (.box 1 0 (.t 0)
    (.op (some 2) .mov [(.k (.c (.int .i64 0)))]
    .nil)))
  (.seq (.seq (.reg 1 false (.op (some 14) (.ldAll (.slot 0) 5) [(.t 1)]
    (.op (some 15) (.call 120 [.b]) [(.t 14)]
    (.op (some 16) (.un .not) [(.t 15)]
    .nil))))
  (.cond (.t 16)
  (.seq (.reg 2 false (.op (some 2) .mov [(.k (.c (.int .i64 1)))]
    .nil))
  .ret)
  .skip))
  (.seq (.reg 3 false (.op (some 3) .mov [(.k (.c (.int .i64 0)))]
    .nil))
  (.seq (.reg 4 false (.op (some 17) (.addr 2) [(.t 1)]
    (.op (some 18) (.ld (.slot 0) .any) [(.t 17)]
    (.op (some 19) .len [(.t 18)]
    (.op (some 20) (.bin .lss) [(.t 19), (.k (.c (.int .i64 1)))]
    (.op (some 21) .mov [(.t 20)]
    (.sc 21 false (.op (some 22) (.addr 2) [(.t 1)]
    (.op (some 23) (.ld (.slot 0) .any) [(.t 22)]
    (.op (some 24) .len [(.t 23)]
    (.op (some 25) (.bin .gtr) [(.t 24), (.k (.c (.int .i64 4)))]
    .nil)))) 25 26 true
    (.op (some 27) .mov [(.t 26)]
    (.sc 27 false (.op (some 28) (.addr 0) [(.t 1)]
    (.op (some 29) (.ld (.slot 0) .s) [(.t 28)]
    (.op (some 30) .lenStr [(.t 29)]
    (.op (some 31) (.bin .gtr) [(.t 30), (.k (.c (.int .i64 20)))]
    .nil)))) 31 32 true
    (.op (some 33) .mov [(.t 32)]
    (.sc 33 false (.op (some 34) (.addr 3) [(.t 1)]
    (.op (some 35) (.addr 1) [(.t 34)]
    (.op (some 36) (.ld (.slot 0) .any) [(.t 35)]
    (.op (some 37) .len [(.t 36)]
    (.op (some 38) (.bin .gtr) [(.t 37), (.k (.c (.int .i64 8)))]
    .nil))))) 38 39 true
    (.op (some 40) .mov [(.t 39)]
    (.sc 40 false (.op (some 41) (.ldAll (.slot 0) 5) [(.t 1)]
    (.op (some 42) (.call 121 [.any]) [(.t 41)]
    (.op (some 43) .len [(.t 42)]
    (.op (some 44) (.bin .gtr) [(.t 43), (.k (.c (.int .i64 4)))]
    .nil)))) 44 45 true
    (.op (some 4) .mov [(.t 45)]
    .nil))))))))))))))
  (.seq (.seq (.reg 5 false (.op (some 5) .mov [(.k (.c (.int .i64 0)))]
    .nil))
  (.blk 0 (.loop [1, 3, 4, 5] [0] [(1, [1, 3, 4], [0])] jacquardref2_Check_b1)))
  jacquardref2_Check_p1))))) }

/- jacquard/jacquardref2.TestOk: 120 -/
def jacquardref2_TestOk_b1 : IC :=
  (.seq (.seq (.reg 4 false (.op (some 16) .mov [(.t 3)]
    (.op (some 17) (.addr 1) [(.t 1)]
    (.op (some 18) (.ld (.slot 0) .any) [(.t 17)]
    (.op (some 19) .len [(.t 18)]
    (.op (some 20) (.bin .lss) [(.t 16), (.t 19)]
    .nil))))))
  (.cond (.t 20)
  .skip
  (.exit 0)))
  (.seq (.blk 1 (.seq (.reg 6 false (.op (some 23) (.addr 1) [(.t 1)]
    (.op (some 24) (.ld (.slot 0) .any) [(.t 23)]
    (.op (some 25) .mov [(.t 3)]
    (.op (some 26) (.idxS 2) [(.t 24), (.t 25)]
    (.op (some 27) (.addr 0) [(.t 26)]
    (.op (some 28) (.ld .heap (.i .i64)) [(.t 27)]
    (.op (some 29) (.call 137 [.b]) [(.t 28)]
    (.op (some 30) (.un .not) [(.t 29)]
    .nil)))))))))
  (.cond (.t 30)
  (.seq (.reg 7 false (.op (some 2) .mov [(.k (.c (.bool false)))]
    .nil))
  .ret)
  .skip)))
  (.reg 5 false (.op (some 21) .mov [(.t 3)]
    (.op (some 22) (.bin .add) [(.t 21), (.k (.c (.int .i64 1)))]
    (.op (some 3) .mov [(.t 22)]
    .nil))))))
def jacquardref2_TestOk_b2 : IC :=
  (.seq (.seq (.reg 12 false (.op (some 38) .mov [(.t 5)]
    (.op (some 39) (.addr 2) [(.t 1)]
    (.op (some 40) (.ld (.slot 0) .any) [(.t 39)]
    (.op (some 41) .mov [(.t 4)]
    (.op (some 42) (.idxS 1) [(.t 40), (.t 41)]
    (.op (some 43) (.ld .heap .any) [(.t 42)]
    (.op (some 44) .len [(.t 43)]
    (.op (some 45) (.bin .lss) [(.t 38), (.t 44)]
    .nil)))))))))
  (.cond (.t 45)
  .skip
  (.exit 4)))
  (.seq (.blk 5 (.seq (.reg 14 false (.op (some 48) (.addr 2) [(.t 1)]
    (.op (some 49) (.ld (.slot 0) .any) [(.t 48)]
    (.op (some 50) .mov [(.t 4)]
    (.op (some 51) (.idxS 1) [(.t 49), (.t 50)]
    (.op (some 52) (.ld .heap .any) [(.t 51)]
    (.op (some 53) .mov [(.t 5)]
    (.op (some 54) (.idxS 9) [(.t 52), (.t 53)]
    (.op (some 55) (.ldN .heap 9) [(.t 54)]
    (.op (some 56) (.call 138 [.b]) [(.t 55)]
    (.op (some 57) (.un .not) [(.t 56)]
    .nil)))))))))))
  (.cond (.t 57)
  (.seq (.reg 15 false (.op (some 2) .mov [(.k (.c (.bool false)))]
    .nil))
  .ret)
  .skip)))
  (.reg 13 false (.op (some 46) .mov [(.t 5)]
    (.op (some 47) (.bin .add) [(.t 46), (.k (.c (.int .i64 1)))]
    (.op (some 5) .mov [(.t 47)]
    .nil))))))
def jacquardref2_TestOk_p3 : IC :=
  (.reg 10 false (.op (some 36) .mov [(.t 4)]
    (.op (some 37) (.bin .add) [(.t 36), (.k (.c (.int .i64 1)))]
    (.op (some 4) .mov [(.t 37)]
    .nil))))
def jacquardref2_TestOk_b3 : IC :=
  (.seq (.seq (.reg 9 false (.op (some 31) .mov [(.t 4)]
    (.op (some 32) (.addr 2) [(.t 1)]
    (.op (some 33) (.ld (.slot 0) .any) [(.t 32)]
    (.op (some 34) .len [(.t 33)]
    (.op (some 35) (.bin .lss) [(.t 31), (.t 34)]
    .nil))))))
  (.cond (.t 35)
  .skip
  (.exit 2)))
  (.seq (.blk 3 (.seq (.reg 11 false (.op (some 5) .mov [(.k (.c (.int .i64 0)))]
    .nil))
  (.blk 4 (.loop [1, 4, 5] [0] [(0, [2], []), (5, [1, 4], [0])] jacquardref2_TestOk_b2))))
  jacquardref2_TestOk_p3))
def jacquardref2_TestOk_p2 : IC :=
  (.seq (.reg 16 false (.op (some 2) .mov [(.k (.c (.bool true)))]
    .nil))
  .ret)
def jacquardref2_TestOk_p1 : IC :=
  (.seq (.seq (.reg 8 false (.op (some 4) .mov [(.k (.c (.int .i64 0)))]
    .nil))
  (.blk 2 (.loop [1, 4] [0] [(0, [2], []), (3, [], [])] jacquardref2_TestOk_b3)))
  jacquardref2_TestOk_p2)
def jacquardref2_TestOk : Fn := { np := 1, nt := 58, ns := 1, res := [.t 2 .b], gc := false, code :=
  (.seq (.reg 0 false (.box 1 0 (.t 0)
    (.op (some 2) .mov [(.k (.c (.bool false)))]
    .nil)))
  (.seq (.seq (.reg 1 false (.op (some 6) (.addr 0) [(.t 1)]
    (.op (some 7) (.ld (.slot 0) .s) [(.t 6)]
    (.op (some 8) (.call 135 [.b]) [(.t 7)]
    (.op (some 9) (.un .not) [(.t 8)]
    (.op (some 10) .mov [(.t 9)]
    (.sc 10 false (.op (some 11) (.addr 3) [(.t 1)]
    (.op (some 12) (.ldN (.slot 0) 2) [(.t 11)]
    (.op (some 13) (.call 136 [.b]) [(.t 12)]
    (.op (some 14) (.un .not) [(.t 13)]
    .nil)))) 14 15 true
    .nil)))))))
  (.cond (.t 15)
  (.seq (.reg 2 false (.op (some 2) .mov [(.k (.c (.bool false)))]
    .nil))
  .ret)
  .skip))
  (.seq (.seq (.reg 3 false (.op (some 3) .mov [(.k (.c (.int .i64 0)))]
    .nil))
  (.blk 0 (.loop [1, 3] [0] [(0, [2], []), (1, [1], [0])] jacquardref2_TestOk_b1)))
  jacquardref2_TestOk_p1))) }

/- jacquard/jacquardref2.Locs: 121 -/
def jacquardref2_Locs_b1 : IC :=
  (.seq (.seq (.reg 3 false (.op (some 11) .mov [(.t 4)]
    (.op (some 12) (.addr 1) [(.t 1)]
    (.op (some 13) (.ld (.slot 0) .any) [(.t 12)]
    (.op (some 14) .len [(.t 13)]
    (.op (some 15) (.bin .lss) [(.t 11), (.t 14)]
    .nil))))))
  (.cond (.t 15)
  .skip
  (.exit 0)))
  (.seq (.blk 1 (.reg 5 false (.op (some 18) (.addr 1) [(.t 1)]
    (.op (some 19) (.ld (.slot 0) .any) [(.t 18)]
    (.op (some 20) .mov [(.t 4)]
    (.op (some 21) (.idxS 2) [(.t 19), (.t 20)]
    (.op (some 22) (.addr 0) [(.t 21)]
    (.op (some 23) (.ld .heap (.i .i64)) [(.t 22)]
    (.op (some 24) (.bin .and) [(.t 23), (.k (.c (.int .i64 255)))]
    (.op (some 25) (.idxA 256 1) [(.t 3), (.t 24)]
    (.op none (.st (.slot 1)) [(.t 25), (.k (.c (.bool true)))]
    .nil)))))))))))
  (.reg 4 false (.op (some 16) .mov [(.t 4)]
    (.op (some 17) (.bin .add) [(.t 16), (.k (.c (.int .i64 1)))]
    (.op (some 4) .mov [(.t 17)]
    .nil))))))
def jacquardref2_Locs_b2 : IC :=
  (.seq (.seq (.reg 10 false (.op (some 33) .mov [(.t 6)]
    (.op (some 34) (.addr 2) [(.t 1)]
    (.op (some 35) (.ld (.slot 0) .any) [(.t 34)]
    (.op (some 36) .mov [(.t 5)]
    (.op (some 37) (.idxS 1) [(.t 35), (.t 36)]
    (.op (some 38) (.ld .heap .any) [(.t 37)]
    (.op (some 39) .len [(.t 38)]
    (.op (some 40) (.bin .lss) [(.t 33), (.t 39)]
    .nil)))))))))
  (.cond (.t 40)
  .skip
  (.exit 4)))
  (.seq (.blk 5 (.reg 12 false (.op (some 43) (.addr 2) [(.t 1)]
    (.op (some 44) (.ld (.slot 0) .any) [(.t 43)]
    (.op (some 45) .mov [(.t 5)]
    (.op (some 46) (.idxS 1) [(.t 44), (.t 45)]
    (.op (some 47) (.ld .heap .any) [(.t 46)]
    (.op (some 48) .mov [(.t 6)]
    (.op (some 49) (.idxS 9) [(.t 47), (.t 48)]
    (.op (some 50) (.addr 2) [(.t 49)]
    (.op (some 51) (.ld .heap (.i .i64)) [(.t 50)]
    (.op (some 52) (.bin .and) [(.t 51), (.k (.c (.int .i64 255)))]
    (.op (some 53) (.idxA 256 1) [(.t 3), (.t 52)]
    (.op none (.st (.slot 1)) [(.t 53), (.k (.c (.bool true)))]
    .nil))))))))))))))
  (.reg 11 false (.op (some 41) .mov [(.t 6)]
    (.op (some 42) (.bin .add) [(.t 41), (.k (.c (.int .i64 1)))]
    (.op (some 6) .mov [(.t 42)]
    .nil))))))
def jacquardref2_Locs_p3 : IC :=
  (.reg 8 false (.op (some 31) .mov [(.t 5)]
    (.op (some 32) (.bin .add) [(.t 31), (.k (.c (.int .i64 1)))]
    (.op (some 5) .mov [(.t 32)]
    .nil))))
def jacquardref2_Locs_b3 : IC :=
  (.seq (.seq (.reg 7 false (.op (some 26) .mov [(.t 5)]
    (.op (some 27) (.addr 2) [(.t 1)]
    (.op (some 28) (.ld (.slot 0) .any) [(.t 27)]
    (.op (some 29) .len [(.t 28)]
    (.op (some 30) (.bin .lss) [(.t 26), (.t 29)]
    .nil))))))
  (.cond (.t 30)
  .skip
  (.exit 2)))
  (.seq (.blk 3 (.seq (.reg 9 false (.op (some 6) .mov [(.k (.c (.int .i64 0)))]
    .nil))
  (.blk 4 (.loop [1, 3, 5, 6] [0, 1] [(5, [1, 3, 5], [0, 1])] jacquardref2_Locs_b2))))
  jacquardref2_Locs_p3))
def jacquardref2_Locs_b4 : IC :=
  (.seq (.seq (.reg 17 false (.op (some 62) .mov [(.t 8)]
    (.op (some 63) (.addr 3) [(.t 1)]
    (.op (some 64) (.addr 1) [(.t 63)]
    (.op (some 65) (.ld (.slot 0) .any) [(.t 64)]
    (.op (some 66) .mov [(.t 7)]
    (.op (some 67) (.idxS 1) [(.t 65), (.t 66)]
    (.op (some 68) (.ld .heap .any) [(.t 67)]
    (.op (some 69) .len [(.t 68)]
    (.op (some 70) (.bin .lss) [(.t 62), (.t 69)]
    .nil))))))))))
  (.cond (.t 70)
  .skip
  (.exit 8)))
  (.seq (.blk 9 (.reg 19 false (.op (some 73) (.addr 3) [(.t 1)]
    (.op (some 74) (.addr 1) [(.t 73)]
    (.op (some 75) (.ld (.slot 0) .any) [(.t 74)]
    (.op (some 76) .mov [(.t 7)]
    (.op (some 77) (.idxS 1) [(.t 75), (.t 76)]
    (.op (some 78) (.ld .heap .any) [(.t 77)]
    (.op (some 79) .mov [(.t 8)]
    (.op (some 80) (.idxS 4) [(.t 78), (.t 79)]
    (.op (some 81) (.addr 2) [(.t 80)]
    (.op (some 82) (.ld .heap (.i .i64)) [(.t 81)]
    (.op (some 83) (.bin .and) [(.t 82), (.k (.c (.int .i64 255)))]
    (.op (some 84) (.idxA 256 1) [(.t 3), (.t 83)]
    (.op none (.st (.slot 1)) [(.t 84), (.k (.c (.bool true)))]
    .nil)))))))))))))))
  (.reg 18 false (.op (some 71) .mov [(.t 8)]
    (.op (some 72) (.bin .add) [(.t 71), (.k (.c (.int .i64 1)))]
    (.op (some 8) .mov [(.t 72)]
    .nil))))))
def jacquardref2_Locs_p5 : IC :=
  (.reg 15 false (.op (some 60) .mov [(.t 7)]
    (.op (some 61) (.bin .add) [(.t 60), (.k (.c (.int .i64 1)))]
    (.op (some 7) .mov [(.t 61)]
    .nil))))
def jacquardref2_Locs_b5 : IC :=
  (.seq (.seq (.reg 14 false (.op (some 54) .mov [(.t 7)]
    (.op (some 55) (.addr 3) [(.t 1)]
    (.op (some 56) (.addr 1) [(.t 55)]
    (.op (some 57) (.ld (.slot 0) .any) [(.t 56)]
    (.op (some 58) .len [(.t 57)]
    (.op (some 59) (.bin .lss) [(.t 54), (.t 58)]
    .nil)))))))
  (.cond (.t 59)
  .skip
  (.exit 6)))
  (.seq (.blk 7 (.seq (.reg 16 false (.op (some 8) .mov [(.k (.c (.int .i64 0)))]
    .nil))
  (.blk 8 (.loop [1, 3, 7, 8] [0, 1] [(9, [1, 3, 7], [0, 1])] jacquardref2_Locs_b4))))
  jacquardref2_Locs_p5))
def jacquardref2_Locs_b6 : IC :=
  (.seq (.seq (.reg 22 false (.op (some 85) .mov [(.t 10)]
    (.op (some 86) (.bin .leq) [(.t 85), (.k (.c (.int .i32 122)))]
    .nil)))
  (.cond (.t 86)
  .skip
  (.exit 10)))
  (.seq (.blk 11 (.seq (.reg 24 false (.op (some 89) .mov [(.t 10)]
    (.op (some 90) (.idxA 256 1) [(.t 3), (.t 89)]
    (.op (some 91) (.ld (.slot 1) .b) [(.t 90)]
    .nil))))
  (.cond (.t 91)
  (.reg 25 false (.op (some 92) .mov [(.t 9)]
    (.op (some 93) .mov [(.t 10)]
    (.op (some 94) (.conv .u8) [(.t 93)]
    (.op (some 95) (.lit 1 1 ([Cell.int .u8 0]) [(0, 1)]) [(.t 94)]
    (.op (some 96) (.app 1 1) [(.t 92), (.t 95)]
    (.op (some 9) .mov [(.t 96)]
    .nil)))))))
  .skip)))
  (.reg 23 false (.op (some 87) .mov [(.t 10)]
    (.op (some 88) (.bin .add) [(.t 87), (.k (.c (.int .i32 1)))]
    (.op (some 10) .mov [(.t 88)]
    .nil))))))
def jacquardref2_Locs_p6 : IC :=
  (.seq (.reg 26 false (.op (some 97) .mov [(.t 9)]
    (.op (some 2) .mov [(.t 97)]
    .nil)))
  .ret)
def jacquardref2_Locs_p4 : IC :=
  (.seq (.reg 20 false (.op (some 9) .mov [(.k (.c .nils))]
    .nil))
  (.seq (.seq (.reg 21 false (.op (some 10) .mov [(.k (.c (.int .i32 97)))]
    .nil))
  (.blk 10 (.loop [3, 9, 10] [1] [(11, [9], [])] jacquardref2_Locs_b6)))
  jacquardref2_Locs_p6))
def jacquardref2_Locs_p2 : IC :=
  (.seq (.seq (.reg 13 false (.op (some 7) .mov [(.k (.c (.int .i64 0)))]
    .nil))
  (.blk 6 (.loop [1, 3, 7] [0, 1] [(7, [3], [1])] jacquardref2_Locs_b5)))
  jacquardref2_Locs_p4)
def jacquardref2_Locs_p1 : IC :=
  (.seq (.seq (.reg 6 false (.op (some 5) .mov [(.k (.c (.int .i64 0)))]
    .nil))
  (.blk 2 (.loop [1, 3, 5] [0, 1] [(3, [1, 3], [0, 1])] jacquardref2_Locs_b3)))
  jacquardref2_Locs_p2)
def jacquardref2_Locs : Fn := { np := 1, nt := 98, ns := 2, res := [.t 2 .any], gc := false, code :=
  (.seq (.reg 0 false (.box 1 0 (.t 0)
    (.op (some 2) .mov [(.k (.c .nils))]
    .nil)))
  (.seq (.reg 1 false (.al 3 1 (List.replicate 256 (Cell.bool false))
    .nil))
  (.seq (.seq (.reg 2 false (.op (some 4) .mov [(.k (.c (.int .i64 0)))]
    .nil))
  (.blk 0 (.loop [1, 3, 4] [0, 1] [(1, [1, 3], [0, 1])] jacquardref2_Locs_b1)))
  jacquardref2_Locs_p1))) }

/- jacquard/jacquardref2.word: 135 -/
def jacquardref2_word_b1 : IC :=
  (.seq (.seq (.reg 2 false (.op (some 4) .mov [(.t 3)]
    (.op (some 5) .mov [(.t 0)]
    (.op (some 6) .lenStr [(.t 5)]
    (.op (some 7) (.bin .lss) [(.t 4), (.t 6)]
    .nil)))))
  (.cond (.t 7)
  .skip
  (.exit 0)))
  (.seq (.blk 1 (.seq (.reg 4 false (.op (some 10) .mov [(.t 0)]
    (.op (some 11) .mov [(.t 3)]
    (.op (some 12) .idxStr [(.t 10), (.t 11)]
    (.op (some 13) (.call 151 [.b]) [(.t 12)]
    (.op (some 14) (.un .not) [(.t 13)]
    (.op (some 15) .mov [(.t 14)]
    (.sc 15 true (.op (some 16) .mov [(.t 3)]
    (.op (some 17) (.bin .gtr) [(.t 16), (.k (.c (.int .i64 0)))]
    (.op (some 18) .mov [(.t 17)]
    (.sc 18 true (.op (some 19) .mov [(.t 0)]
    (.op (some 20) .mov [(.t 3)]
    (.op (some 21) .idxStr [(.t 19), (.t 20)]
    (.op (some 22) (.call 152 [.b]) [(.t 21)]
    .nil)))) 22 23 false
    (.op (some 24) (.un .not) [(.t 23)]
    .nil))))) 24 25 false
    .nil))))))))
  (.cond (.t 25)
  (.seq (.reg 5 false (.op (some 2) .mov [(.k (.c (.bool false)))]
    .nil))
  .ret)
  .skip)))
  (.reg 3 false (.op (some 8) .mov [(.t 3)]
    (.op (some 9) (.bin .add) [(.t 8), (.k (.c (.int .i64 1)))]
    (.op (some 3) .mov [(.t 9)]
    .nil))))))
def jacquardref2_word_p1 : IC :=
  (.seq (.reg 6 false (.op (some 26) .mov [(.t 0)]
    (.op (some 27) (.bin .neq) [(.t 26), (.k (.c (.str (ByteArray.mk #[]))))]
    (.op (some 2) .mov [(.t 27)]
    .nil))))
  .ret)
def jacquardref2_word : Fn := { np := 1, nt := 28, ns := 0, res := [.t 2 .b], gc := false, code :=
  (.seq (.reg 0 false (.op (some 2) .mov [(.k (.c (.bool false)))]
    .nil))
  (.seq (.seq (.reg 1 false (.op (some 3) .mov [(.k (.c (.int .i64 0)))]
    .nil))
  (.blk 0 (.loop [0, 3] [] [(0, [2], []), (1, [0], [])] jacquardref2_word_b1)))
  jacquardref2_word_p1)) }

/- jacquard/jacquardref2.CondOk: 136 -/
def jacquardref2_CondOk_b1 : IC :=
  (.seq (.seq (.reg 11 false (.op (some 43) .mov [(.t 4)]
    (.op (some 44) (.addr 1) [(.t 1)]
    (.op (some 45) (.ld (.slot 0) .any) [(.t 44)]
    (.op (some 46) .mov [(.t 3)]
    (.op (some 47) (.idxS 1) [(.t 45), (.t 46)]
    (.op (some 48) (.ld .heap .any) [(.t 47)]
    (.op (some 49) .len [(.t 48)]
    (.op (some 50) (.bin .lss) [(.t 43), (.t 49)]
    .nil)))))))))
  (.cond (.t 50)
  .skip
  (.exit 2)))
  (.seq (.blk 3 (.seq (.reg 13 false (.op (some 53) (.addr 1) [(.t 1)]
    (.op (some 54) (.ld (.slot 0) .any) [(.t 53)]
    (.op (some 55) .mov [(.t 3)]
    (.op (some 56) (.idxS 1) [(.t 54), (.t 55)]
    (.op (some 57) (.ld .heap .any) [(.t 56)]
    (.op (some 58) .mov [(.t 4)]
    (.op (some 59) (.idxS 4) [(.t 57), (.t 58)]
    (.op (some 60) (.ldN .heap 4) [(.t 59)]
    (.al 5 1 ([Cell.int .i64 0, Cell.int .i64 0, Cell.int .i64 0, Cell.int .i64 0])
    (.op none (.stAll (.slot 1) 4) [(.t 5), (.t 60)]
    .nil)))))))))))
  (.seq (.reg 14 false (.op (some 61) (.addr 0) [(.t 5)]
    (.op (some 62) (.ld (.slot 1) (.i .i64)) [(.t 61)]
    (.op (some 63) (.bin .eql) [(.t 62), (.k (.c (.int .i64 (-1))))]
    (.op (some 64) .mov [(.t 63)]
    (.sc 64 true (.op (some 65) (.addr 1) [(.t 5)]
    (.op (some 66) (.ld (.slot 1) (.i .i64)) [(.t 65)]
    (.op (some 67) (.bin .eql) [(.t 66), (.k (.c (.int .i64 0)))]
    .nil))) 67 68 false
    (.op (some 69) .mov [(.t 68)]
    (.sc 69 true (.op (some 70) (.addr 2) [(.t 5)]
    (.op (some 71) (.ld (.slot 1) (.i .i64)) [(.t 70)]
    (.op (some 72) (.call 137 [.b]) [(.t 71)]
    .nil))) 72 73 false
    (.op (some 6) .mov [(.t 73)]
    .nil)))))))))
  (.seq (.reg 15 false (.op (some 74) (.addr 0) [(.t 5)]
    (.op (some 75) (.ld (.slot 1) (.i .i64)) [(.t 74)]
    (.op (some 76) (.bin .geq) [(.t 75), (.k (.c (.int .i64 0)))]
    (.op (some 77) .mov [(.t 76)]
    (.sc 77 true (.op (some 78) (.addr 0) [(.t 5)]
    (.op (some 79) (.ld (.slot 1) (.i .i64)) [(.t 78)]
    (.op (some 80) (.bin .leq) [(.t 79), (.k (.c (.int .i64 9)))]
    .nil))) 80 81 false
    (.op (some 82) .mov [(.t 81)]
    (.sc 82 true (.op (some 83) (.addr 1) [(.t 5)]
    (.op (some 84) (.ld (.slot 1) (.i .i64)) [(.t 83)]
    (.op (some 85) (.bin .geq) [(.t 84), (.k (.c (.int .i64 0)))]
    .nil))) 85 86 false
    (.op (some 87) .mov [(.t 86)]
    (.sc 87 true (.op (some 88) (.addr 1) [(.t 5)]
    (.op (some 89) (.ld (.slot 1) (.i .i64)) [(.t 88)]
    (.op (some 90) (.bin .leq) [(.t 89), (.k (.c (.int .i64 3)))]
    .nil))) 90 91 false
    (.op (some 92) .mov [(.t 91)]
    (.sc 92 true (.op (some 93) (.addr 2) [(.t 5)]
    (.op (some 94) (.ld (.slot 1) (.i .i64)) [(.t 93)]
    (.op (some 95) (.bin .eql) [(.t 94), (.k (.c (.int .i64 0)))]
    .nil))) 95 96 false
    (.op (some 7) .mov [(.t 96)]
    .nil)))))))))))))
  (.seq (.reg 16 false (.op (some 97) .mov [(.t 6)]
    (.op (some 98) (.un .not) [(.t 97)]
    (.op (some 99) .mov [(.t 98)]
    (.sc 99 true (.op (some 100) .mov [(.t 7)]
    (.op (some 101) (.un .not) [(.t 100)]
    .nil)) 101 102 false
    .nil)))))
  (.cond (.t 102)
  (.seq (.reg 17 false (.op (some 2) .mov [(.k (.c (.bool false)))]
    .nil))
  .ret)
  .skip))))))
  (.reg 12 false (.op (some 51) .mov [(.t 4)]
    (.op (some 52) (.bin .add) [(.t 51), (.k (.c (.int .i64 1)))]
    (.op (some 4) .mov [(.t 52)]
    .nil))))))
def jacquardref2_CondOk_p2 : IC :=
  (.reg 7 false (.op (some 34) .mov [(.t 3)]
    (.op (some 35) (.bin .add) [(.t 34), (.k (.c (.int .i64 1)))]
    (.op (some 3) .mov [(.t 35)]
    .nil))))
def jacquardref2_CondOk_b2 : IC :=
  (.seq (.seq (.reg 6 false (.op (some 29) .mov [(.t 3)]
    (.op (some 30) (.addr 1) [(.t 1)]
    (.op (some 31) (.ld (.slot 0) .any) [(.t 30)]
    (.op (some 32) .len [(.t 31)]
    (.op (some 33) (.bin .lss) [(.t 29), (.t 32)]
    .nil))))))
  (.cond (.t 33)
  .skip
  (.exit 0)))
  (.seq (.blk 1 (.seq (.seq (.reg 8 false (.op (some 36) (.addr 1) [(.t 1)]
    (.op (some 37) (.ld (.slot 0) .any) [(.t 36)]
    (.op (some 38) .mov [(.t 3)]
    (.op (some 39) (.idxS 1) [(.t 37), (.t 38)]
    (.op (some 40) (.ld .heap .any) [(.t 39)]
    (.op (some 41) .len [(.t 40)]
    (.op (some 42) (.bin .eql) [(.t 41), (.k (.c (.int .i64 0)))]
    .nil))))))))
  (.cond (.t 42)
  (.seq (.reg 9 false (.op (some 2) .mov [(.k (.c (.bool false)))]
    .nil))
  .ret)
  .skip))
  (.seq (.reg 10 false (.op (some 4) .mov [(.k (.c (.int .i64 0)))]
    .nil))
  (.blk 2 (.loop [1, 3, 4] [0] [(0, [2], []), (3, [1, 3], [0])] jacquardref2_CondOk_b1)))))
  jacquardref2_CondOk_p2))
def jacquardref2_CondOk_p1 : IC :=
  (.seq (.reg 18 false (.op (some 2) .mov [(.k (.c (.bool true)))]
    .nil))
  .ret)
def jacquardref2_CondOk : Fn := { np := 1, nt := 103, ns := 2, res := [.t 2 .b], gc := false, code :=
  (.seq (.reg 0 false (.box 1 0 (.t 0)
    (.op (some 2) .mov [(.k (.c (.bool false)))]
    .nil)))
  (.seq (.seq (.reg 1 false (.op (some 8) (.addr 0) [(.t 1)]
    (.op (some 9) (.ld (.slot 0) (.i .i64)) [(.t 8)]
    (.op (some 10) (.bin .eql) [(.t 9), (.k (.c (.int .i64 0)))]
    .nil))))
  (.cond (.t 10)
  (.seq (.reg 2 false (.op (some 11) (.addr 1) [(.t 1)]
    (.op (some 12) (.ld (.slot 0) .any) [(.t 11)]
    (.op (some 13) .len [(.t 12)]
    (.op (some 14) (.bin .eql) [(.t 13), (.k (.c (.int .i64 0)))]
    (.op (some 2) .mov [(.t 14)]
    .nil))))))
  .ret)
  .skip))
  (.seq (.seq (.reg 3 false (.op (some 15) (.addr 0) [(.t 1)]
    (.op (some 16) (.ld (.slot 0) (.i .i64)) [(.t 15)]
    (.op (some 17) (.bin .lss) [(.t 16), (.k (.c (.int .i64 0)))]
    (.op (some 18) .mov [(.t 17)]
    (.sc 18 false (.op (some 19) (.addr 0) [(.t 1)]
    (.op (some 20) (.ld (.slot 0) (.i .i64)) [(.t 19)]
    (.op (some 21) (.bin .gtr) [(.t 20), (.k (.c (.int .i64 2)))]
    .nil))) 21 22 true
    (.op (some 23) .mov [(.t 22)]
    (.sc 23 false (.op (some 24) (.addr 1) [(.t 1)]
    (.op (some 25) (.ld (.slot 0) .any) [(.t 24)]
    (.op (some 26) .len [(.t 25)]
    (.op (some 27) (.bin .eql) [(.t 26), (.k (.c (.int .i64 0)))]
    .nil)))) 27 28 true
    .nil))))))))
  (.cond (.t 28)
  (.seq (.reg 4 false (.op (some 2) .mov [(.k (.c (.bool false)))]
    .nil))
  .ret)
  .skip))
  (.seq (.seq (.reg 5 false (.op (some 3) .mov [(.k (.c (.int .i64 0)))]
    .nil))
  (.blk 0 (.loop [1, 3] [0] [(0, [2], []), (1, [], [])] jacquardref2_CondOk_b2)))
  jacquardref2_CondOk_p1)))) }

/- jacquard/jacquardref2.named: 137 -/
def jacquardref2_named : Fn := { np := 1, nt := 9, ns := 0, res := [.t 2 .b], gc := false, code :=
  (.seq (.reg 0 false (.op (some 2) .mov [(.k (.c (.bool false)))]
    .nil))
  (.seq (.reg 1 false (.op (some 3) .mov [(.t 0)]
    (.op (some 4) (.bin .geq) [(.t 3), (.k (.c (.int .i64 97)))]
    (.op (some 5) .mov [(.t 4)]
    (.sc 5 true (.op (some 6) .mov [(.t 0)]
    (.op (some 7) (.bin .leq) [(.t 6), (.k (.c (.int .i64 122)))]
    .nil)) 7 8 false
    (.op (some 2) .mov [(.t 8)]
    .nil))))))
  .ret)) }

/- jacquard/jacquardref2.InsOk: 138 -/
def jacquardref2_InsOk : Fn := { np := 1, nt := 194, ns := 2, res := [.t 2 .b], gc := false, code :=
  (.seq (.reg 0 false (.box 1 0 (.t 0)
    (.op (some 2) .mov [(.k (.c (.bool false)))]
    .nil)))
  (.seq (.reg 1 false (.op (some 4) (.build ([Cell.int .i64 0, Cell.int .i64 0]) []) []
    (.al 3 1 ([Cell.int .i64 0, Cell.int .i64 0])
    (.op none (.stAll (.slot 1) 2) [(.t 3), (.t 4)]
    .nil))))
  (.seq (.seq (.reg 2 false (.op (some 5) (.addr 0) [(.t 1)]
    (.op (some 6) (.ld (.slot 0) (.i .i64)) [(.t 5)]
    .nil)))
  (.blk 0 (.seq (.reg 3 false (.op (some 8) (.bin .eql) [(.t 6), (.k (.c (.int .i64 1)))]
    (.op (some 7) .mov [(.t 8)]
    .nil)))
  (.cond (.t 7)
  (.seq (.reg 4 false (.op (some 9) (.addr 1) [(.t 1)]
    (.op (some 10) (.ld (.slot 0) (.i .i64)) [(.t 9)]
    (.op (some 11) (.bin .eql) [(.t 10), (.k (.c (.int .i64 0)))]
    (.op (some 12) .mov [(.t 11)]
    (.sc 12 true (.op (some 13) (.addr 2) [(.t 1)]
    (.op (some 14) (.ld (.slot 0) (.i .i64)) [(.t 13)]
    (.op (some 15) (.call 137 [.b]) [(.t 14)]
    .nil))) 15 16 false
    (.op (some 17) .mov [(.t 16)]
    (.sc 17 true (.op (some 18) (.addr 3) [(.t 1)]
    (.op (some 19) (.ldN (.slot 0) 2) [(.t 18)]
    (.op (some 20) (.call 153 [.b]) [(.t 19)]
    .nil))) 20 21 false
    (.op (some 22) .mov [(.t 21)]
    (.sc 22 true (.op (some 23) (.addr 5) [(.t 1)]
    (.op (some 24) (.ld (.slot 0) (.i .i64)) [(.t 23)]
    (.op (some 25) (.bin .eql) [(.t 24), (.k (.c (.int .i64 0)))]
    .nil))) 25 26 false
    (.op (some 27) .mov [(.t 26)]
    (.sc 27 true (.op (some 28) (.addr 6) [(.t 1)]
    (.op (some 29) (.ldN (.slot 0) 2) [(.t 28)]
    (.op (some 30) (.ldAll (.slot 1) 2) [(.t 3)]
    (.op (some 31) (.eqA false ([Cell.int .i64 0, Cell.int .i64 0])) [(.t 29), (.t 30)]
    .nil)))) 31 32 false
    (.op (some 33) .mov [(.t 32)]
    (.sc 33 true (.op (some 34) (.addr 8) [(.t 1)]
    (.op (some 35) (.ld (.slot 0) (.i .i64)) [(.t 34)]
    (.op (some 36) (.bin .eql) [(.t 35), (.k (.c (.int .i64 0)))]
    .nil))) 36 37 false
    (.op (some 2) .mov [(.t 37)]
    .nil)))))))))))))))
  .ret)
  (.seq (.reg 5 false (.op (some 39) (.bin .eql) [(.t 6), (.k (.c (.int .i64 2)))]
    (.op (some 38) .mov [(.t 39)]
    .nil)))
  (.cond (.t 38)
  (.seq (.reg 6 false (.op (some 40) (.addr 1) [(.t 1)]
    (.op (some 41) (.ld (.slot 0) (.i .i64)) [(.t 40)]
    (.op (some 42) (.bin .geq) [(.t 41), (.k (.c (.int .i64 0)))]
    (.op (some 43) .mov [(.t 42)]
    (.sc 43 true (.op (some 44) (.addr 1) [(.t 1)]
    (.op (some 45) (.ld (.slot 0) (.i .i64)) [(.t 44)]
    (.op (some 46) (.bin .leq) [(.t 45), (.k (.c (.int .i64 3)))]
    .nil))) 46 47 false
    (.op (some 48) .mov [(.t 47)]
    (.sc 48 true (.op (some 49) (.addr 2) [(.t 1)]
    (.op (some 50) (.ld (.slot 0) (.i .i64)) [(.t 49)]
    (.op (some 51) (.call 137 [.b]) [(.t 50)]
    .nil))) 51 52 false
    (.op (some 53) .mov [(.t 52)]
    (.sc 53 true (.op (some 54) (.addr 3) [(.t 1)]
    (.op (some 55) (.ldN (.slot 0) 2) [(.t 54)]
    (.op (some 56) (.ldAll (.slot 1) 2) [(.t 3)]
    (.op (some 57) (.eqA false ([Cell.int .i64 0, Cell.int .i64 0])) [(.t 55), (.t 56)]
    .nil)))) 57 58 false
    (.op (some 59) .mov [(.t 58)]
    (.sc 59 true (.op (some 60) (.addr 5) [(.t 1)]
    (.op (some 61) (.ld (.slot 0) (.i .i64)) [(.t 60)]
    (.op (some 62) (.bin .eql) [(.t 61), (.k (.c (.int .i64 0)))]
    .nil))) 62 63 false
    (.op (some 64) .mov [(.t 63)]
    (.sc 64 true (.op (some 65) (.addr 6) [(.t 1)]
    (.op (some 66) (.ldN (.slot 0) 2) [(.t 65)]
    (.op (some 67) (.ldAll (.slot 1) 2) [(.t 3)]
    (.op (some 68) (.eqA false ([Cell.int .i64 0, Cell.int .i64 0])) [(.t 66), (.t 67)]
    .nil)))) 68 69 false
    (.op (some 70) .mov [(.t 69)]
    (.sc 70 true (.op (some 71) (.addr 8) [(.t 1)]
    (.op (some 72) (.ld (.slot 0) (.i .i64)) [(.t 71)]
    (.op (some 73) (.bin .eql) [(.t 72), (.k (.c (.int .i64 0)))]
    .nil))) 73 74 false
    (.op (some 2) .mov [(.t 74)]
    .nil)))))))))))))))))
  .ret)
  (.seq (.reg 7 false (.op (some 76) (.bin .eql) [(.t 6), (.k (.c (.int .i64 3)))]
    (.op (some 75) .mov [(.t 76)]
    .nil)))
  (.cond (.t 75)
  (.seq (.reg 8 false (.op (some 77) (.ldAll (.slot 0) 9) [(.t 1)]
    (.op (some 78) (.build (List.replicate 9 (Cell.int .i64 0)) [(0, 1)]) [(.k (.c (.int .i64 3)))]
    (.op (some 79) (.eqA false (List.replicate 9 (Cell.int .i64 0))) [(.t 77), (.t 78)]
    (.op (some 2) .mov [(.t 79)]
    .nil)))))
  .ret)
  (.seq (.reg 9 false (.op (some 81) (.bin .eql) [(.t 6), (.k (.c (.int .i64 4)))]
    (.op (some 80) .mov [(.t 81)]
    .nil)))
  (.cond (.t 80)
  (.seq (.reg 10 false (.op (some 82) (.addr 1) [(.t 1)]
    (.op (some 83) (.ld (.slot 0) (.i .i64)) [(.t 82)]
    (.op (some 84) (.bin .geq) [(.t 83), (.k (.c (.int .i64 0)))]
    (.op (some 85) .mov [(.t 84)]
    (.sc 85 true (.op (some 86) (.addr 1) [(.t 1)]
    (.op (some 87) (.ld (.slot 0) (.i .i64)) [(.t 86)]
    (.op (some 88) (.bin .leq) [(.t 87), (.k (.c (.int .i64 3)))]
    .nil))) 88 89 false
    (.op (some 90) .mov [(.t 89)]
    (.sc 90 true (.op (some 91) (.addr 2) [(.t 1)]
    (.op (some 92) (.ld (.slot 0) (.i .i64)) [(.t 91)]
    (.op (some 93) (.call 137 [.b]) [(.t 92)]
    .nil))) 93 94 false
    (.op (some 95) .mov [(.t 94)]
    (.sc 95 true (.op (some 96) (.addr 3) [(.t 1)]
    (.op (some 97) (.ldN (.slot 0) 2) [(.t 96)]
    (.op (some 98) (.call 153 [.b]) [(.t 97)]
    .nil))) 98 99 false
    (.op (some 100) .mov [(.t 99)]
    (.sc 100 true (.op (some 101) (.addr 5) [(.t 1)]
    (.op (some 102) (.ld (.slot 0) (.i .i64)) [(.t 101)]
    (.op (some 103) (.bin .eql) [(.t 102), (.k (.c (.int .i64 0)))]
    .nil))) 103 104 false
    (.op (some 105) .mov [(.t 104)]
    (.sc 105 true (.op (some 106) (.addr 6) [(.t 1)]
    (.op (some 107) (.ldN (.slot 0) 2) [(.t 106)]
    (.op (some 108) (.call 153 [.b]) [(.t 107)]
    .nil))) 108 109 false
    (.op (some 110) .mov [(.t 109)]
    (.sc 110 true (.op (some 111) (.addr 8) [(.t 1)]
    (.op (some 112) (.ld (.slot 0) (.i .i64)) [(.t 111)]
    (.op (some 113) (.bin .eql) [(.t 112), (.k (.c (.int .i64 0)))]
    .nil))) 113 114 false
    (.op (some 2) .mov [(.t 114)]
    .nil)))))))))))))))))
  .ret)
  (.seq (.reg 11 false (.op (some 116) (.bin .eql) [(.t 6), (.k (.c (.int .i64 5)))]
    (.op (some 115) .mov [(.t 116)]
    .nil)))
  (.cond (.t 115)
  (.seq (.seq (.reg 12 false (.op (some 117) (.addr 5) [(.t 1)]
    (.op (some 118) (.ld (.slot 0) (.i .i64)) [(.t 117)]
    (.op (some 119) (.bin .eql) [(.t 118), (.k (.c (.int .i64 0)))]
    (.op (some 120) .mov [(.t 119)]
    (.sc 120 true (.op (some 121) (.addr 6) [(.t 1)]
    (.op (some 122) (.ldN (.slot 0) 2) [(.t 121)]
    (.op (some 123) (.build ([Cell.int .i64 0, Cell.int .i64 0]) [(0, 1)]) [(.k (.c (.int .i64 (-1))))]
    (.op (some 124) (.eqA true ([Cell.int .i64 0, Cell.int .i64 0])) [(.t 122), (.t 123)]
    .nil)))) 124 125 false
    .nil))))))
  (.cond (.t 125)
  (.seq (.reg 13 false (.op (some 2) .mov [(.k (.c (.bool false)))]
    .nil))
  .ret)
  .skip))
  (.seq (.reg 14 false (.op (some 126) (.addr 1) [(.t 1)]
    (.op (some 127) (.ld (.slot 0) (.i .i64)) [(.t 126)]
    (.op (some 128) (.bin .geq) [(.t 127), (.k (.c (.int .i64 0)))]
    (.op (some 129) .mov [(.t 128)]
    (.sc 129 true (.op (some 130) (.addr 1) [(.t 1)]
    (.op (some 131) (.ld (.slot 0) (.i .i64)) [(.t 130)]
    (.op (some 132) (.bin .leq) [(.t 131), (.k (.c (.int .i64 3)))]
    .nil))) 132 133 false
    (.op (some 134) .mov [(.t 133)]
    (.sc 134 true (.op (some 135) (.addr 2) [(.t 1)]
    (.op (some 136) (.ld (.slot 0) (.i .i64)) [(.t 135)]
    (.op (some 137) (.bin .eql) [(.t 136), (.k (.c (.int .i64 0)))]
    .nil))) 137 138 false
    (.op (some 139) .mov [(.t 138)]
    (.sc 139 true (.op (some 140) (.addr 3) [(.t 1)]
    (.op (some 141) (.ldN (.slot 0) 2) [(.t 140)]
    (.op (some 142) (.call 153 [.b]) [(.t 141)]
    .nil))) 142 143 false
    (.op (some 144) .mov [(.t 143)]
    (.sc 144 true (.op (some 145) (.addr 5) [(.t 1)]
    (.op (some 146) (.ld (.slot 0) (.i .i64)) [(.t 145)]
    (.op (some 147) (.bin .geq) [(.t 146), (.k (.c (.int .i64 0)))]
    .nil))) 147 148 false
    (.op (some 149) .mov [(.t 148)]
    (.sc 149 true (.op (some 150) (.addr 5) [(.t 1)]
    (.op (some 151) (.ld (.slot 0) (.i .i64)) [(.t 150)]
    (.op (some 152) (.bin .leq) [(.t 151), (.k (.c (.int .i64 11)))]
    .nil))) 152 153 false
    (.op (some 154) .mov [(.t 153)]
    (.sc 154 true (.op (some 155) (.addr 6) [(.t 1)]
    (.op (some 156) (.ldN (.slot 0) 2) [(.t 155)]
    (.op (some 157) (.call 153 [.b]) [(.t 156)]
    .nil))) 157 158 false
    (.op (some 159) .mov [(.t 158)]
    (.sc 159 true (.op (some 160) (.addr 8) [(.t 1)]
    (.op (some 161) (.ld (.slot 0) (.i .i64)) [(.t 160)]
    (.op (some 162) (.bin .eql) [(.t 161), (.k (.c (.int .i64 0)))]
    .nil))) 162 163 false
    (.op (some 2) .mov [(.t 163)]
    .nil)))))))))))))))))))
  .ret))
  (.seq (.reg 15 false (.op (some 165) (.bin .eql) [(.t 6), (.k (.c (.int .i64 6)))]
    (.op (some 164) .mov [(.t 165)]
    .nil)))
  (.cond (.t 164)
  (.seq (.reg 16 false (.op (some 166) (.addr 1) [(.t 1)]
    (.op (some 167) (.ld (.slot 0) (.i .i64)) [(.t 166)]
    (.op (some 168) (.bin .eql) [(.t 167), (.k (.c (.int .i64 0)))]
    (.op (some 169) .mov [(.t 168)]
    (.sc 169 true (.op (some 170) (.addr 2) [(.t 1)]
    (.op (some 171) (.ld (.slot 0) (.i .i64)) [(.t 170)]
    (.op (some 172) (.bin .eql) [(.t 171), (.k (.c (.int .i64 0)))]
    .nil))) 172 173 false
    (.op (some 174) .mov [(.t 173)]
    (.sc 174 true (.op (some 175) (.addr 3) [(.t 1)]
    (.op (some 176) (.ldN (.slot 0) 2) [(.t 175)]
    (.op (some 177) (.call 153 [.b]) [(.t 176)]
    .nil))) 177 178 false
    (.op (some 179) .mov [(.t 178)]
    (.sc 179 true (.op (some 180) (.addr 5) [(.t 1)]
    (.op (some 181) (.ld (.slot 0) (.i .i64)) [(.t 180)]
    (.op (some 182) (.bin .eql) [(.t 181), (.k (.c (.int .i64 0)))]
    .nil))) 182 183 false
    (.op (some 184) .mov [(.t 183)]
    (.sc 184 true (.op (some 185) (.addr 6) [(.t 1)]
    (.op (some 186) (.ldN (.slot 0) 2) [(.t 185)]
    (.op (some 187) (.call 153 [.b]) [(.t 186)]
    .nil))) 187 188 false
    (.op (some 189) .mov [(.t 188)]
    (.sc 189 true (.op (some 190) (.addr 8) [(.t 1)]
    (.op (some 191) (.ld (.slot 0) (.i .i64)) [(.t 190)]
    (.op (some 192) (.bin .geq) [(.t 191), (.k (.c (.int .i64 0)))]
    .nil))) 192 193 false
    (.op (some 2) .mov [(.t 193)]
    .nil)))))))))))))))
  .ret)
  .skip))))))))))))))
  (.seq (.reg 17 false (.op (some 2) .mov [(.k (.c (.bool false)))]
    .nil))
  .ret)))) }

/- jacquard/jacquardref2.letter: 151 -/
def jacquardref2_letter : Fn := { np := 1, nt := 9, ns := 0, res := [.t 2 .b], gc := false, code :=
  (.seq (.reg 0 false (.op (some 2) .mov [(.k (.c (.bool false)))]
    .nil))
  (.seq (.reg 1 false (.op (some 3) .mov [(.t 0)]
    (.op (some 4) (.bin .geq) [(.t 3), (.k (.c (.int .u8 97)))]
    (.op (some 5) .mov [(.t 4)]
    (.sc 5 true (.op (some 6) .mov [(.t 0)]
    (.op (some 7) (.bin .leq) [(.t 6), (.k (.c (.int .u8 122)))]
    .nil)) 7 8 false
    (.op (some 2) .mov [(.t 8)]
    .nil))))))
  .ret)) }

/- jacquard/jacquardref2.digit: 152 -/
def jacquardref2_digit : Fn := { np := 1, nt := 9, ns := 0, res := [.t 2 .b], gc := false, code :=
  (.seq (.reg 0 false (.op (some 2) .mov [(.k (.c (.bool false)))]
    .nil))
  (.seq (.reg 1 false (.op (some 3) .mov [(.t 0)]
    (.op (some 4) (.bin .geq) [(.t 3), (.k (.c (.int .u8 48)))]
    (.op (some 5) .mov [(.t 4)]
    (.sc 5 true (.op (some 6) .mov [(.t 0)]
    (.op (some 7) (.bin .leq) [(.t 6), (.k (.c (.int .u8 57)))]
    .nil)) 7 8 false
    (.op (some 2) .mov [(.t 8)]
    .nil))))))
  .ret)) }

/- jacquard/jacquardref2.operandOk: 153 -/
def jacquardref2_operandOk : Fn := { np := 1, nt := 21, ns := 1, res := [.t 2 .b], gc := false, code :=
  (.seq (.reg 0 false (.box 1 0 (.t 0)
    (.op (some 2) .mov [(.k (.c (.bool false)))]
    .nil)))
  (.seq (.reg 1 false (.op (some 3) (.addr 0) [(.t 1)]
    (.op (some 4) (.ld (.slot 0) (.i .i64)) [(.t 3)]
    (.op (some 5) (.bin .eql) [(.t 4), (.k (.c (.int .i64 (-1))))]
    (.op (some 6) .mov [(.t 5)]
    (.sc 6 false (.op (some 7) (.addr 0) [(.t 1)]
    (.op (some 8) (.ld (.slot 0) (.i .i64)) [(.t 7)]
    (.op (some 9) (.bin .geq) [(.t 8), (.k (.c (.int .i64 0)))]
    (.op (some 10) .mov [(.t 9)]
    (.sc 10 true (.op (some 11) (.addr 0) [(.t 1)]
    (.op (some 12) (.ld (.slot 0) (.i .i64)) [(.t 11)]
    (.op (some 13) (.bin .leq) [(.t 12), (.k (.c (.int .i64 3)))]
    .nil))) 13 14 false
    (.op (some 15) .mov [(.t 14)]
    (.sc 15 true (.op (some 16) (.addr 1) [(.t 1)]
    (.op (some 17) (.ld (.slot 0) (.i .i64)) [(.t 16)]
    (.op (some 18) (.bin .eql) [(.t 17), (.k (.c (.int .i64 0)))]
    .nil))) 18 19 false
    .nil))))))) 19 20 true
    (.op (some 2) .mov [(.t 20)]
    .nil)))))))
  .ret)) }


end Jq

/- What a function needs of an environment. -/
namespace Jq
open Go

structure jacquardref2_Locs_In (E : Env) : Prop where
  fn : E.fn 121 = some jacquardref2_Locs

structure jacquardref2_Do_In (E : Env) : Prop where
  fn : E.fn 93 = some jacquardref2_Do

structure jacquardref2_letter_In (E : Env) : Prop where
  fn : E.fn 151 = some jacquardref2_letter

structure jacquardref2_digit_In (E : Env) : Prop where
  fn : E.fn 152 = some jacquardref2_digit

structure jacquardref2_word_In (E : Env) : Prop where
  fn : E.fn 135 = some jacquardref2_word
  c151 : jacquardref2_letter_In E
  c152 : jacquardref2_digit_In E

structure jacquardref2_named_In (E : Env) : Prop where
  fn : E.fn 137 = some jacquardref2_named

structure jacquardref2_CondOk_In (E : Env) : Prop where
  fn : E.fn 136 = some jacquardref2_CondOk
  c137 : jacquardref2_named_In E

structure jacquardref2_operandOk_In (E : Env) : Prop where
  fn : E.fn 153 = some jacquardref2_operandOk

structure jacquardref2_InsOk_In (E : Env) : Prop where
  fn : E.fn 138 = some jacquardref2_InsOk
  c137 : jacquardref2_named_In E
  c153 : jacquardref2_operandOk_In E

structure jacquardref2_TestOk_In (E : Env) : Prop where
  fn : E.fn 120 = some jacquardref2_TestOk
  c135 : jacquardref2_word_In E
  c136 : jacquardref2_CondOk_In E
  c137 : jacquardref2_named_In E
  c138 : jacquardref2_InsOk_In E

structure jacquardref2_Check_In (E : Env) : Prop where
  fn : E.fn 99 = some jacquardref2_Check
  c120 : jacquardref2_TestOk_In E
  c121 : jacquardref2_Locs_In E

end Jq

namespace Jq
open Go

/- jacquard/jacquardref6.Next: 81 -/
def jacquardref6_Next : Fn := { np := 3, nt := 49, ns := 4, res := [.all (.slot 2) 6 9, .t 7 .b], gc := false, code :=
  (.seq (.reg 0 false (.box 3 0 (.t 0)
    (.box 5 1 (.t 2)
    (.al 6 2 (List.replicate 9 (Cell.int .i64 0))
    (.op (some 7) .mov [(.k (.c (.bool false)))]
    .nil)))))
  (.seq (.seq (.reg 1 true (.op (some 9) (.ldAll (.slot 0) 3) [(.t 3)]
    (.op (some 10) .mov [(.t 1)]
    (.op (some 11) (.qcall 110 [.b]) [(.t 9), (.t 10)]
    (.op (some 12) (.un .not) [(.t 11)]
    (.op (some 13) .mov [(.t 12)]
    (.sc 13 false (.op (some 14) (.addr 0) [(.t 5)]
    (.op (some 15) (.ld (.slot 1) (.i .i64)) [(.t 14)]
    (.op (some 16) (.bin .lss) [(.t 15), (.k (.c (.int .i64 0)))]
    .nil))) 16 17 true
    (.op (some 18) .mov [(.t 17)]
    (.sc 18 false (.op (some 19) (.addr 0) [(.t 5)]
    (.op (some 20) (.ld (.slot 1) (.i .i64)) [(.t 19)]
    (.op (some 21) (.addr 2) [(.t 3)]
    (.op (some 22) (.ld (.slot 0) .any) [(.t 21)]
    (.op (some 23) .mov [(.t 1)]
    (.op (some 24) (.idxS 1) [(.t 22), (.t 23)]
    (.op (some 25) (.ld .heap .any) [(.t 24)]
    (.op (some 26) .len [(.t 25)]
    (.op (some 27) (.bin .geq) [(.t 20), (.t 26)]
    .nil))))))))) 27 28 true
    .nil)))))))))
  (.cond (.t 28)
  (.seq (.reg 2 false (.op (some 29) (.build (List.replicate 9 (Cell.int .i64 0)) []) []
    (.op none (.stAll (.slot 2) 9) [(.t 6), (.t 29)]
    (.op (some 7) .mov [(.k (.c (.bool false)))]
    .nil))))
  .ret)
  .skip))
  (.seq (.reg 3 true (.op (some 30) (.addr 2) [(.t 3)]
    (.op (some 31) (.ld (.slot 0) .any) [(.t 30)]
    (.op (some 32) .mov [(.t 1)]
    (.op (some 33) (.idxS 1) [(.t 31), (.t 32)]
    (.op (some 34) (.ld .heap .any) [(.t 33)]
    (.op (some 35) (.addr 0) [(.t 5)]
    (.op (some 36) (.ld (.slot 1) (.i .i64)) [(.t 35)]
    (.op (some 37) (.idxS 9) [(.t 34), (.t 36)]
    (.op (some 38) (.ldN .heap 9) [(.t 37)]
    (.al 8 3 (List.replicate 9 (Cell.int .i64 0))
    (.op none (.stAll (.slot 3) 9) [(.t 8), (.t 38)]
    .nil))))))))))))
  (.seq (.seq (.reg 4 false (.op (some 39) (.addr 0) [(.t 8)]
    (.op (some 40) (.ld (.slot 3) (.i .i64)) [(.t 39)]
    (.op (some 41) (.bin .eql) [(.t 40), (.k (.c (.int .i64 5)))]
    (.op (some 42) .mov [(.t 41)]
    (.sc 42 false (.op (some 43) (.addr 0) [(.t 8)]
    (.op (some 44) (.ld (.slot 3) (.i .i64)) [(.t 43)]
    (.op (some 45) (.bin .eql) [(.t 44), (.k (.c (.int .i64 6)))]
    .nil))) 45 46 true
    .nil))))))
  (.cond (.t 46)
  (.seq (.reg 5 false (.op (some 47) (.build (List.replicate 9 (Cell.int .i64 0)) []) []
    (.op none (.stAll (.slot 2) 9) [(.t 6), (.t 47)]
    (.op (some 7) .mov [(.k (.c (.bool false)))]
    .nil))))
  .ret)
  .skip))
  (.seq (.reg 6 false (.op (some 48) (.ldAll (.slot 3) 9) [(.t 8)]
    (.op none (.stAll (.slot 2) 9) [(.t 6), (.t 48)]
    (.op (some 7) .mov [(.k (.c (.bool true)))]
    .nil))))
  .ret))))) }

/- jacquard/jacquardref6.Value: 92 -/
def jacquardref6_Value : Fn := { np := 2, nt := 20, ns := 2, res := [.t 4 (.i .i64)], gc := false, code :=
  (.seq (.reg 0 false (.box 2 0 (.t 0)
    (.box 3 1 (.t 1)
    (.op (some 4) .mov [(.k (.c (.int .i64 0)))]
    .nil))))
  (.seq (.seq (.reg 1 false (.op (some 5) (.addr 0) [(.t 2)]
    (.op (some 6) (.ld (.slot 0) (.i .i64)) [(.t 5)]
    (.op (some 7) (.bin .geq) [(.t 6), (.k (.c (.int .i64 0)))]
    (.op (some 8) .mov [(.t 7)]
    (.sc 8 true (.op (some 9) (.addr 0) [(.t 2)]
    (.op (some 10) (.ld (.slot 0) (.i .i64)) [(.t 9)]
    (.op (some 11) (.bin .leq) [(.t 10), (.k (.c (.int .i64 3)))]
    .nil))) 11 12 false
    .nil))))))
  (.cond (.t 12)
  (.seq (.reg 2 false (.op (some 13) (.addr 0) [(.t 2)]
    (.op (some 14) (.ld (.slot 0) (.i .i64)) [(.t 13)]
    (.op (some 15) (.addr 1) [(.t 3)]
    (.op (some 16) (.idxA 4 1) [(.t 15), (.t 14)]
    (.op (some 17) (.ld (.slot 1) (.i .i64)) [(.t 16)]
    (.op (some 4) .mov [(.t 17)]
    .nil)))))))
  .ret)
  .skip))
  (.seq (.reg 3 false (.op (some 18) (.addr 1) [(.t 2)]
    (.op (some 19) (.ld (.slot 0) (.i .i64)) [(.t 18)]
    (.op (some 4) .mov [(.t 19)]
    .nil))))
  .ret))) }

/- jacquard/jacquardref6.Compile: 101 -/
def jacquardref6_Compile_b1 : IC :=
  (.seq (.seq (.reg 7 false (.op (some 21) .mov [(.t 6)]
    (.op (some 22) (.addr 1) [(.t 1)]
    (.op (some 23) (.ld (.slot 0) .any) [(.t 22)]
    (.op (some 24) .len [(.t 23)]
    (.op (some 25) (.bin .lss) [(.t 21), (.t 24)]
    .nil))))))
  (.cond (.t 25)
  .skip
  (.exit 2)))
  (.seq (.blk 3 (.seq (.reg 9 true (.op (some 28) (.addr 1) [(.t 1)]
    (.op (some 29) (.ld (.slot 0) .any) [(.t 28)]
    (.op (some 30) .mov [(.t 6)]
    (.op (some 31) (.idxS 2) [(.t 29), (.t 30)]
    (.op (some 32) (.addr 0) [(.t 31)]
    (.op (some 33) (.ld .heap (.i .i64)) [(.t 32)]
    (.op (some 34) (.addr 0) [(.t 3)]
    (.op (some 35) (.ld (.slot 2) .any) [(.t 34)]
    (.op (some 36) .mov [(.t 4)]
    (.op (some 37) (.idxS 1) [(.t 35), (.t 36)]
    (.op (some 38) (.ld .heap (.i .u8)) [(.t 37)]
    (.op (some 39) (.conv .i64) [(.t 38)]
    (.op (some 40) (.bin .eql) [(.t 33), (.t 39)]
    .nil))))))))))))))
  (.cond (.t 40)
  (.reg 10 false (.op (some 41) (.addr 1) [(.t 1)]
    (.op (some 42) (.ld (.slot 0) .any) [(.t 41)]
    (.op (some 43) .mov [(.t 6)]
    (.op (some 44) (.idxS 2) [(.t 42), (.t 43)]
    (.op (some 45) (.addr 1) [(.t 44)]
    (.op (some 46) (.ld .heap (.i .i64)) [(.t 45)]
    (.op (some 5) .mov [(.t 46)]
    .nil))))))))
  .skip)))
  (.reg 8 false (.op (some 26) .mov [(.t 6)]
    (.op (some 27) (.bin .add) [(.t 26), (.k (.c (.int .i64 1)))]
    (.op (some 6) .mov [(.t 27)]
    .nil))))))
def jacquardref6_Compile_p3 : IC :=
  (.reg 11 false (.op (some 47) (.addr 1) [(.t 3)]
    (.op (some 48) (.ld (.slot 2) .any) [(.t 47)]
    (.op (some 49) .mov [(.t 5)]
    (.op (some 50) (.lit 1 1 ([Cell.int .i64 0]) [(0, 1)]) [(.t 49)]
    (.op (some 51) (.app 1 8) [(.t 48), (.t 50)]
    (.op (some 52) (.addr 1) [(.t 3)]
    (.op none (.st (.slot 2)) [(.t 52), (.t 51)]
    .nil))))))))
def jacquardref6_Compile_p2 : IC :=
  (.reg 4 false (.op (some 19) .mov [(.t 4)]
    (.op (some 20) (.bin .add) [(.t 19), (.k (.c (.int .i64 1)))]
    (.op (some 4) .mov [(.t 20)]
    .nil))))
def jacquardref6_Compile_b2 : IC :=
  (.seq (.seq (.reg 3 false (.op (some 14) .mov [(.t 4)]
    (.op (some 15) (.addr 0) [(.t 3)]
    (.op (some 16) (.ld (.slot 2) .any) [(.t 15)]
    (.op (some 17) .len [(.t 16)]
    (.op (some 18) (.bin .lss) [(.t 14), (.t 17)]
    .nil))))))
  (.cond (.t 18)
  .skip
  (.exit 0)))
  (.seq (.blk 1 (.seq (.reg 5 false (.op (some 5) .mov [(.k (.c (.int .i64 0)))]
    .nil))
  (.seq (.seq (.reg 6 false (.op (some 6) .mov [(.k (.c (.int .i64 0)))]
    .nil))
  (.blk 2 (.loop [1, 2, 3, 4, 5, 6] [0, 1, 2] [(3, [1, 2, 3, 4, 5], [0, 1, 2])] jacquardref6_Compile_b1)))
  jacquardref6_Compile_p3)))
  jacquardref6_Compile_p2))
def jacquardref6_Compile_b3 : IC :=
  (.seq (.seq (.reg 17 false (.op (some 60) .mov [(.t 9)]
    (.op (some 61) (.addr 2) [(.t 1)]
    (.op (some 62) (.ld (.slot 0) .any) [(.t 61)]
    (.op (some 63) .mov [(.t 7)]
    (.op (some 64) (.idxS 1) [(.t 62), (.t 63)]
    (.op (some 65) (.ld .heap .any) [(.t 64)]
    (.op (some 66) .len [(.t 65)]
    (.op (some 67) (.bin .lss) [(.t 60), (.t 66)]
    .nil)))))))))
  (.cond (.t 67)
  .skip
  (.exit 6)))
  (.seq (.blk 7 (.seq (.reg 19 false (.op (some 70) (.addr 2) [(.t 1)]
    (.op (some 71) (.ld (.slot 0) .any) [(.t 70)]
    (.op (some 72) .mov [(.t 7)]
    (.op (some 73) (.idxS 1) [(.t 71), (.t 72)]
    (.op (some 74) (.ld .heap .any) [(.t 73)]
    (.op (some 75) .mov [(.t 9)]
    (.op (some 76) (.idxS 9) [(.t 74), (.t 75)]
    (.op (some 77) (.ldN .heap 9) [(.t 76)]
    (.al 10 3 (List.replicate 9 (Cell.int .i64 0))
    (.op none (.stAll (.slot 3) 9) [(.t 10), (.t 77)]
    .nil)))))))))))
  (.seq (.seq (.reg 20 false (.op (some 78) (.addr 2) [(.t 10)]
    (.op (some 79) (.ld (.slot 3) (.i .i64)) [(.t 78)]
    (.op (some 80) (.bin .neq) [(.t 79), (.k (.c (.int .i64 0)))]
    .nil))))
  (.cond (.t 80)
  (.reg 21 false (.op (some 81) (.ldAll (.slot 2) 3) [(.t 3)]
    (.op (some 82) (.addr 2) [(.t 10)]
    (.op (some 83) (.ld (.slot 3) (.i .i64)) [(.t 82)]
    (.op (some 84) (.call 122 [(.i .i64)]) [(.t 81), (.t 83)]
    (.op (some 85) (.addr 2) [(.t 10)]
    (.op none (.st (.slot 3)) [(.t 85), (.t 84)]
    .nil)))))))
  .skip))
  (.reg 22 false (.op (some 86) .mov [(.t 8)]
    (.op (some 87) (.ldAll (.slot 3) 9) [(.t 10)]
    (.op (some 88) (.lit 9 1 (List.replicate 9 (Cell.int .i64 0)) [(0, 9)]) [(.t 87)]
    (.op (some 89) (.app 9 72) [(.t 86), (.t 88)]
    (.op (some 8) .mov [(.t 89)]
    .nil)))))))))
  (.reg 18 false (.op (some 68) .mov [(.t 9)]
    (.op (some 69) (.bin .add) [(.t 68), (.k (.c (.int .i64 1)))]
    (.op (some 9) .mov [(.t 69)]
    .nil))))))
def jacquardref6_Compile_p6 : IC :=
  (.reg 23 false (.op (some 90) (.addr 2) [(.t 3)]
    (.op (some 91) (.ld (.slot 2) .any) [(.t 90)]
    (.op (some 92) .mov [(.t 8)]
    (.op (some 93) (.lit 1 1 ([Cell.nils]) [(0, 1)]) [(.t 92)]
    (.op (some 94) (.app 1 24) [(.t 91), (.t 93)]
    (.op (some 95) (.addr 2) [(.t 3)]
    (.op none (.st (.slot 2)) [(.t 95), (.t 94)]
    .nil))))))))
def jacquardref6_Compile_p5 : IC :=
  (.reg 14 false (.op (some 58) .mov [(.t 7)]
    (.op (some 59) (.bin .add) [(.t 58), (.k (.c (.int .i64 1)))]
    (.op (some 7) .mov [(.t 59)]
    .nil))))
def jacquardref6_Compile_b4 : IC :=
  (.seq (.seq (.reg 13 false (.op (some 53) .mov [(.t 7)]
    (.op (some 54) (.addr 2) [(.t 1)]
    (.op (some 55) (.ld (.slot 0) .any) [(.t 54)]
    (.op (some 56) .len [(.t 55)]
    (.op (some 57) (.bin .lss) [(.t 53), (.t 56)]
    .nil))))))
  (.cond (.t 57)
  .skip
  (.exit 4)))
  (.seq (.blk 5 (.seq (.reg 15 false (.op (some 8) .mov [(.k (.c .nils))]
    .nil))
  (.seq (.seq (.reg 16 false (.op (some 9) .mov [(.k (.c (.int .i64 0)))]
    .nil))
  (.blk 6 (.loop [1, 2, 3, 7, 8, 9] [0, 1, 2] [(7, [1, 2, 3, 7, 8], [0, 1, 2])] jacquardref6_Compile_b3)))
  jacquardref6_Compile_p6)))
  jacquardref6_Compile_p5))
def jacquardref6_Compile_p4 : IC :=
  (.seq (.reg 24 false (.op (some 96) (.ldAll (.slot 2) 3) [(.t 3)]
    (.op none (.stAll (.slot 1) 3) [(.t 2), (.t 96)]
    .nil)))
  .ret)
def jacquardref6_Compile_p1 : IC :=
  (.seq (.seq (.reg 12 false (.op (some 7) .mov [(.k (.c (.int .i64 0)))]
    .nil))
  (.blk 4 (.loop [1, 2, 3, 7] [0, 1, 2] [(5, [2, 3], [1, 2])] jacquardref6_Compile_b4)))
  jacquardref6_Compile_p4)
def jacquardref6_Compile : Fn := { np := 1, nt := 97, ns := 4, res := [.all (.slot 1) 2 3], gc := false, code :=
  (.seq (.reg 0 false (.box 1 0 (.t 0)
    (.al 2 1 ([Cell.nils, Cell.nils, Cell.nils])
    .nil)))
  (.seq (.reg 1 false (.op (some 11) (.ldAll (.slot 0) 5) [(.t 1)]
    (.op (some 12) (.call 121 [.any]) [(.t 11)]
    (.op (some 13) (.build ([Cell.nils, Cell.nils, Cell.nils]) [(0, 1)]) [(.t 12)]
    (.al 3 2 ([Cell.nils, Cell.nils, Cell.nils])
    (.op none (.stAll (.slot 2) 3) [(.t 3), (.t 13)]
    .nil))))))
  (.seq (.seq (.reg 2 false (.op (some 4) .mov [(.k (.c (.int .i64 0)))]
    .nil))
  (.blk 0 (.loop [1, 2, 3, 4] [0, 1, 2] [(1, [1, 2, 3], [0, 1, 2])] jacquardref6_Compile_b2)))
  jacquardref6_Compile_p1))) }

/- jacquard/jacquardref6.Start: 104 -/
def jacquardref6_Start : Fn := { np := 2, nt := 14, ns := 2, res := [.all (.slot 1) 4 5], gc := false, code :=
  (.seq (.reg 0 false (.box 2 0 (.t 0)
    (.al 4 1 ([Cell.int .i64 0, Cell.int .i64 0, Cell.int .i64 0, Cell.int .i64 0, Cell.int .i64 0])
    .nil)))
  (.seq (.seq (.reg 1 false (.op (some 5) (.ldAll (.slot 0) 3) [(.t 2)]
    (.op (some 6) .mov [(.t 1)]
    (.op (some 7) (.call 110 [.b]) [(.t 5), (.t 6)]
    (.op (some 8) (.un .not) [(.t 7)]
    .nil)))))
  (.cond (.t 8)
  (.seq (.reg 2 false (.op (some 9) (.build ([Cell.int .i64 0, Cell.int .i64 0, Cell.int .i64 0, Cell.int .i64 0, Cell.int .i64 0]) []) []
    (.op none (.stAll (.slot 1) 5) [(.t 4), (.t 9)]
    .nil)))
  .ret)
  .skip))
  (.seq (.reg 3 false (.op (some 10) (.ldAll (.slot 0) 3) [(.t 2)]
    (.op (some 11) .mov [(.t 1)]
    (.op (some 12) (.build ([Cell.int .i64 0, Cell.int .i64 0, Cell.int .i64 0, Cell.int .i64 0, Cell.int .i64 0]) []) []
    (.op (some 13) (.call 123 [.agg]) [(.t 10), (.t 11), (.t 12)]
    (.op none (.stAll (.slot 1) 5) [(.t 4), (.t 13)]
    .nil))))))
  .ret))) }

/- jacquard/jacquardref6.After: 107 -/
def jacquardref6_After : Fn := { np := 4, nt := 42, ns := 4, res := [.all (.slot 2) 8 5], gc := false, code :=
  (.seq (.reg 0 false (.box 4 0 (.t 0)
    (.box 6 1 (.t 2)
    (.al 8 2 ([Cell.int .i64 0, Cell.int .i64 0, Cell.int .i64 0, Cell.int .i64 0, Cell.int .i64 0])
    .nil))))
  (.seq (.reg 1 false (.op (some 12) (.ldAll (.slot 0) 3) [(.t 4)]
    (.op (some 13) .mov [(.t 1)]
    (.op (some 14) (.ldAll (.slot 1) 5) [(.t 6)]
    (.op (some 15) (.call 81 [.agg, .b]) [(.t 12), (.t 13), (.t 14)]
    (.op (some 11) .mov [(.t 15)]
    (.op (some 16) (.ext 0) [(.t 11)]
    (.op (some 17) (.ext 1) [(.t 11)]
    (.al 9 3 (List.replicate 9 (Cell.int .i64 0))
    (.op none (.stAll (.slot 3) 9) [(.t 9), (.t 16)]
    (.op (some 10) .mov [(.t 17)]
    .nil)))))))))))
  (.seq (.seq (.reg 2 false (.op (some 18) .mov [(.t 10)]
    (.op (some 19) (.un .not) [(.t 18)]
    .nil)))
  (.cond (.t 19)
  (.seq (.reg 3 false (.op (some 20) (.ldAll (.slot 1) 5) [(.t 6)]
    (.op none (.stAll (.slot 2) 5) [(.t 8), (.t 20)]
    .nil)))
  .ret)
  .skip))
  (.seq (.seq (.reg 4 false (.op (some 21) (.addr 0) [(.t 9)]
    (.op (some 22) (.ld (.slot 3) (.i .i64)) [(.t 21)]
    (.op (some 23) (.bin .eql) [(.t 22), (.k (.c (.int .i64 2)))]
    (.op (some 24) .mov [(.t 23)]
    (.sc 24 false (.op (some 25) (.addr 0) [(.t 9)]
    (.op (some 26) (.ld (.slot 3) (.i .i64)) [(.t 25)]
    (.op (some 27) (.bin .eql) [(.t 26), (.k (.c (.int .i64 4)))]
    .nil))) 27 28 true
    .nil))))))
  (.cond (.t 28)
  (.reg 5 false (.op (some 29) (.addr 1) [(.t 9)]
    (.op (some 30) (.ld (.slot 3) (.i .i64)) [(.t 29)]
    (.op (some 31) .mov [(.t 3)]
    (.op (some 32) (.addr 1) [(.t 6)]
    (.op (some 33) (.idxA 4 1) [(.t 32), (.t 30)]
    (.op none (.st (.slot 1)) [(.t 33), (.t 31)]
    .nil)))))))
  .skip))
  (.seq (.reg 6 false (.op (some 34) (.addr 0) [(.t 6)]
    (.op (some 35) (.ld (.slot 1) (.i .i64)) [(.t 34)]
    (.op (some 36) (.bin .add) [(.t 35), (.k (.c (.int .i64 1)))]
    (.op (some 37) (.addr 0) [(.t 6)]
    (.op none (.st (.slot 1)) [(.t 37), (.t 36)]
    .nil))))))
  (.seq (.reg 7 false (.op (some 38) (.ldAll (.slot 0) 3) [(.t 4)]
    (.op (some 39) .mov [(.t 1)]
    (.op (some 40) (.ldAll (.slot 1) 5) [(.t 6)]
    (.op (some 41) (.call 123 [.agg]) [(.t 38), (.t 39), (.t 40)]
    (.op none (.stAll (.slot 2) 5) [(.t 8), (.t 41)]
    .nil))))))
  .ret)))))) }

/- jacquard/jacquardref6.there: 110 -/
def jacquardref6_there : Fn := { np := 2, nt := 14, ns := 1, res := [.t 4 .b], gc := false, code :=
  (.seq (.reg 0 false (.box 2 0 (.t 0)
    (.op (some 4) .mov [(.k (.c (.bool false)))]
    .nil)))
  (.seq (.reg 1 false (.op (some 5) .mov [(.t 1)]
    (.op (some 6) (.bin .geq) [(.t 5), (.k (.c (.int .i64 0)))]
    (.op (some 7) .mov [(.t 6)]
    (.sc 7 true (.op (some 8) .mov [(.t 1)]
    (.op (some 9) (.addr 2) [(.t 2)]
    (.op (some 10) (.ld (.slot 0) .any) [(.t 9)]
    (.op (some 11) .len [(.t 10)]
    (.op (some 12) (.bin .lss) [(.t 8), (.t 11)]
    .nil))))) 12 13 false
    (.op (some 4) .mov [(.t 13)]
    .nil))))))
  .ret)) }

/- jacquard/jacquardref6.Place: 122 -/
def jacquardref6_Place_b1 : IC :=
  (.seq (.seq (.reg 2 false (.op (some 6) .mov [(.t 5)]
    (.op (some 7) (.addr 0) [(.t 2)]
    (.op (some 8) (.ld (.slot 0) .any) [(.t 7)]
    (.op (some 9) .len [(.t 8)]
    (.op (some 10) (.bin .lss) [(.t 6), (.t 9)]
    .nil))))))
  (.cond (.t 10)
  .skip
  (.exit 0)))
  (.seq (.blk 1 (.seq (.reg 4 false (.op (some 13) (.addr 0) [(.t 2)]
    (.op (some 14) (.ld (.slot 0) .any) [(.t 13)]
    (.op (some 15) .mov [(.t 5)]
    (.op (some 16) (.idxS 1) [(.t 14), (.t 15)]
    (.op (some 17) (.ld .heap (.i .u8)) [(.t 16)]
    (.op (some 18) (.conv .i64) [(.t 17)]
    (.op (some 19) .mov [(.t 1)]
    (.op (some 20) (.bin .eql) [(.t 18), (.t 19)]
    .nil)))))))))
  (.cond (.t 20)
  (.seq (.reg 5 false (.op (some 21) .mov [(.t 5)]
    (.op (some 4) .mov [(.t 21)]
    .nil)))
  .ret)
  .skip)))
  (.reg 3 false (.op (some 11) .mov [(.t 5)]
    (.op (some 12) (.bin .add) [(.t 11), (.k (.c (.int .i64 1)))]
    (.op (some 5) .mov [(.t 12)]
    .nil))))))
def jacquardref6_Place_p1 : IC :=
  (.seq (.reg 6 false (.op (some 4) .mov [(.k (.c (.int .i64 (-1))))]
    .nil))
  .ret)
def jacquardref6_Place : Fn := { np := 2, nt := 22, ns := 1, res := [.t 4 (.i .i64)], gc := false, code :=
  (.seq (.reg 0 false (.box 2 0 (.t 0)
    (.op (some 4) .mov [(.k (.c (.int .i64 0)))]
    .nil)))
  (.seq (.seq (.reg 1 false (.op (some 5) .mov [(.k (.c (.int .i64 0)))]
    .nil))
  (.blk 0 (.loop [1, 2, 5] [0] [(0, [4], []), (1, [], [])] jacquardref6_Place_b1)))
  jacquardref6_Place_p1)) }

/- jacquard/jacquardref6.normal: 123 -/
def jacquardref6_normal_b1 : IC :=
  (.seq (.seq (.reg 1 true (.op (some 9) (.addr 0) [(.t 5)]
    (.op (some 10) (.ld (.slot 1) (.i .i64)) [(.t 9)]
    (.op (some 11) (.addr 2) [(.t 3)]
    (.op (some 12) (.ld (.slot 0) .any) [(.t 11)]
    (.op (some 13) .mov [(.t 1)]
    (.op (some 14) (.idxS 1) [(.t 12), (.t 13)]
    (.op (some 15) (.ld .heap .any) [(.t 14)]
    (.op (some 16) .len [(.t 15)]
    (.op (some 17) (.bin .lss) [(.t 10), (.t 16)]
    .nil))))))))))
  (.cond (.t 17)
  .skip
  (.exit 0)))
  (.blk 1 (.seq (.reg 2 true (.op (some 18) (.addr 2) [(.t 3)]
    (.op (some 19) (.ld (.slot 0) .any) [(.t 18)]
    (.op (some 20) .mov [(.t 1)]
    (.op (some 21) (.idxS 1) [(.t 19), (.t 20)]
    (.op (some 22) (.ld .heap .any) [(.t 21)]
    (.op (some 23) (.addr 0) [(.t 5)]
    (.op (some 24) (.ld (.slot 1) (.i .i64)) [(.t 23)]
    (.op (some 25) (.idxS 9) [(.t 22), (.t 24)]
    (.op (some 26) (.ldN .heap 9) [(.t 25)]
    (.al 7 3 (List.replicate 9 (Cell.int .i64 0))
    (.op none (.stAll (.slot 3) 9) [(.t 7), (.t 26)]
    .nil))))))))))))
  (.seq (.reg 3 false (.op (some 27) (.addr 0) [(.t 7)]
    (.op (some 28) (.ld (.slot 3) (.i .i64)) [(.t 27)]
    .nil)))
  (.blk 2 (.seq (.reg 5 false (.op (some 31) (.bin .eql) [(.t 28), (.k (.c (.int .i64 5)))]
    (.op (some 30) .mov [(.t 31)]
    .nil)))
  (.cond (.t 30)
  (.seq (.reg 6 false (.op (some 32) (.addr 3) [(.t 7)]
    (.op (some 33) (.ldN (.slot 3) 2) [(.t 32)]
    (.op (some 34) (.ldAll (.slot 1) 5) [(.t 5)]
    (.op (some 35) (.call 92 [(.i .i64)]) [(.t 33), (.t 34)]
    (.op (some 8) .mov [(.t 35)]
    .nil))))))
  (.seq (.seq (.reg 7 false (.op (some 36) (.addr 5) [(.t 7)]
    (.op (some 37) (.ld (.slot 3) (.i .i64)) [(.t 36)]
    (.op (some 38) (.bin .neq) [(.t 37), (.k (.c (.int .i64 0)))]
    .nil))))
  (.cond (.t 38)
  (.reg 8 true (.op (some 40) (.addr 5) [(.t 7)]
    (.op (some 41) (.ld (.slot 3) (.i .i64)) [(.t 40)]
    (.op (some 42) .mov [(.t 8)]
    (.op (some 43) (.addr 6) [(.t 7)]
    (.op (some 44) (.ldN (.slot 3) 2) [(.t 43)]
    (.op (some 45) (.ldAll (.slot 1) 5) [(.t 5)]
    (.op (some 46) (.qcall 92 [(.i .i64)]) [(.t 44), (.t 45)]
    (.op (some 47) (.qcall 93 [(.i .i64), .b]) [(.t 41), (.t 42), (.t 46)]
    (.op (some 39) .mov [(.t 47)]
    (.op (some 48) (.ext 0) [(.t 39)]
    (.op (some 49) (.ext 1) [(.t 39)]
    (.op (some 8) .mov [(.t 48)]
    .nil)))))))))))))
  .skip))
  (.seq (.reg 9 false (.op (some 50) (.addr 1) [(.t 7)]
    (.op (some 51) (.ld (.slot 3) (.i .i64)) [(.t 50)]
    (.op (some 52) .mov [(.t 8)]
    (.op (some 53) (.addr 1) [(.t 5)]
    (.op (some 54) (.idxA 4 1) [(.t 53), (.t 51)]
    (.op none (.st (.slot 1)) [(.t 54), (.t 52)]
    .nil)))))))
  (.reg 10 false (.op (some 55) (.addr 0) [(.t 5)]
    (.op (some 56) (.ld (.slot 1) (.i .i64)) [(.t 55)]
    (.op (some 57) (.bin .add) [(.t 56), (.k (.c (.int .i64 1)))]
    (.op (some 58) (.addr 0) [(.t 5)]
    (.op none (.st (.slot 1)) [(.t 58), (.t 57)]
    .nil)))))))))
  (.seq (.reg 11 false (.op (some 60) (.bin .eql) [(.t 28), (.k (.c (.int .i64 6)))]
    (.op (some 59) .mov [(.t 60)]
    .nil)))
  (.cond (.t 59)
  (.seq (.seq (.reg 12 true (.op (some 61) (.addr 3) [(.t 7)]
    (.op (some 62) (.ldN (.slot 3) 2) [(.t 61)]
    (.op (some 63) (.ldAll (.slot 1) 5) [(.t 5)]
    (.op (some 64) (.qcall 92 [(.i .i64)]) [(.t 62), (.t 63)]
    (.op (some 65) (.addr 6) [(.t 7)]
    (.op (some 66) (.ldN (.slot 3) 2) [(.t 65)]
    (.op (some 67) (.ldAll (.slot 1) 5) [(.t 5)]
    (.op (some 68) (.qcall 92 [(.i .i64)]) [(.t 66), (.t 67)]
    (.op (some 69) (.bin .eql) [(.t 64), (.t 68)]
    .nil))))))))))
  (.cond (.t 69)
  (.reg 13 false (.op (some 70) (.addr 0) [(.t 5)]
    (.op (some 71) (.ld (.slot 1) (.i .i64)) [(.t 70)]
    (.op (some 72) (.addr 8) [(.t 7)]
    (.op (some 73) (.ld (.slot 3) (.i .i64)) [(.t 72)]
    (.op (some 74) (.bin .add) [(.t 71), (.t 73)]
    (.op (some 75) (.addr 0) [(.t 5)]
    (.op none (.st (.slot 1)) [(.t 75), (.t 74)]
    .nil))))))))
  .skip))
  (.reg 14 false (.op (some 76) (.addr 0) [(.t 5)]
    (.op (some 77) (.ld (.slot 1) (.i .i64)) [(.t 76)]
    (.op (some 78) (.bin .add) [(.t 77), (.k (.c (.int .i64 1)))]
    (.op (some 79) (.addr 0) [(.t 5)]
    (.op none (.st (.slot 1)) [(.t 79), (.t 78)]
    .nil)))))))
  (.seq (.reg 4 false (.op (some 29) (.ldAll (.slot 1) 5) [(.t 5)]
    (.op none (.stAll (.slot 2) 5) [(.t 6), (.t 29)]
    .nil)))
  .ret))))))))))
def jacquardref6_normal_p1 : IC :=
  (.seq (.reg 15 false (.op (some 80) (.ldAll (.slot 1) 5) [(.t 5)]
    (.op none (.stAll (.slot 2) 5) [(.t 6), (.t 80)]
    .nil)))
  .ret)
def jacquardref6_normal : Fn := { np := 3, nt := 81, ns := 4, res := [.all (.slot 2) 6 5], gc := false, code :=
  (.seq (.reg 0 false (.box 3 0 (.t 0)
    (.box 5 1 (.t 2)
    (.al 6 2 ([Cell.int .i64 0, Cell.int .i64 0, Cell.int .i64 0, Cell.int .i64 0, Cell.int .i64 0])
    .nil))))
  (.seq (.blk 0 (.loop [1, 3, 5, 6] [0, 1, 2] [(0, [6], [2]), (1, [5, 6], [1, 2])] jacquardref6_normal_b1))
  jacquardref6_normal_p1)) }


end Jq

/- What a function needs of an environment. -/
namespace Jq
open Go

structure jacquardref6_Place_In (E : Env) : Prop where
  fn : E.fn 122 = some jacquardref6_Place

structure jacquardref6_Compile_In (E : Env) : Prop where
  fn : E.fn 101 = some jacquardref6_Compile
  c121 : jacquardref2_Locs_In E
  c122 : jacquardref6_Place_In E

structure jacquardref6_there_In (E : Env) : Prop where
  fn : E.fn 110 = some jacquardref6_there

structure jacquardref6_Next_In (E : Env) : Prop where
  fn : E.fn 81 = some jacquardref6_Next
  c110 : jacquardref6_there_In E

structure jacquardref6_Value_In (E : Env) : Prop where
  fn : E.fn 92 = some jacquardref6_Value

structure jacquardref6_normal_In (E : Env) : Prop where
  fn : E.fn 123 = some jacquardref6_normal
  c92 : jacquardref6_Value_In E
  c93 : jacquardref2_Do_In E

structure jacquardref6_Start_In (E : Env) : Prop where
  fn : E.fn 104 = some jacquardref6_Start
  c110 : jacquardref6_there_In E
  c123 : jacquardref6_normal_In E

structure jacquardref6_After_In (E : Env) : Prop where
  fn : E.fn 107 = some jacquardref6_After
  c81 : jacquardref6_Next_In E
  c123 : jacquardref6_normal_In E

end Jq

namespace Jq
open Go

/- jacquard/prog.Start: 94 -/
def prog_Start : Fn := { np := 2, nt := 10, ns := 2, res := [.all (.slot 1) 4 5], gc := false, code :=
  (.seq (.reg 0 false (.box 2 0 (.t 0)
    (.al 4 1 ([Cell.int .i64 0, Cell.int .i64 0, Cell.int .i64 0, Cell.int .i64 0, Cell.int .i64 0])
    .nil)))
  (.seq (.reg 1 false (.op (some 5) (.ldAll (.slot 0) 3) [(.t 2)]
    (.op (some 6) .mov [(.t 1)]
    (.op (some 7) (.call 113 [.any]) [(.t 5), (.t 6)]
    (.op (some 8) (.build ([Cell.int .i64 0, Cell.int .i64 0, Cell.int .i64 0, Cell.int .i64 0, Cell.int .i64 0]) []) []
    (.op (some 9) (.call 114 [.agg]) [(.t 7), (.t 8)]
    (.op none (.stAll (.slot 1) 5) [(.t 4), (.t 9)]
    .nil)))))))
  .ret)) }

/- jacquard/prog.Compile: 98 -/
def prog_Compile_b1 : IC :=
  (.seq (.reg 8 false (.op (some 32) (.bin .lss) [(.t 31), (.t 30)]
    .nil))
  (.seq (.cond (.t 32)
  .skip
  (.exit 0))
  (.seq (.blk 1 (.seq (.reg 9 false (.op (some 33) (.idxS 2) [(.t 29), (.t 31)]
    (.op (some 34) (.ldN .heap 2) [(.t 33)]
    (.al 8 2 ([Cell.int .i64 0, Cell.int .i64 0])
    (.op none (.stAll (.slot 2) 2) [(.t 8), (.t 34)]
    .nil)))))
  (.reg 10 true (.op (some 35) (.addr 1) [(.t 5)]
    (.op (some 36) (.ld .heap .any) [(.t 35)]
    (.op (some 37) .mov [(.t 6)]
    (.op (some 38) (.addr 0) [(.t 8)]
    (.op (some 39) (.ld (.slot 2) (.i .i64)) [(.t 38)]
    (.op (some 40) (.qcallv [(.i .i64)]) [(.t 37), (.t 39)]
    (.op (some 41) (.addr 1) [(.t 8)]
    (.op (some 42) (.ld (.slot 2) (.i .i64)) [(.t 41)]
    (.op (some 43) (.idxS 1) [(.t 36), (.t 40)]
    (.op none (.st .heap) [(.t 43), (.t 42)]
    .nil)))))))))))))
  (.reg 11 false (.op (some 44) (.bin .add) [(.t 31), (.k (.c (.int .i64 1)))]
    (.op (some 31) .mov [(.t 44)]
    .nil))))))
def prog_Compile_b2 : IC :=
  (.seq (.reg 17 false (.op (some 57) (.bin .lss) [(.t 56), (.t 55)]
    .nil))
  (.seq (.cond (.t 57)
  .skip
  (.exit 4))
  (.seq (.blk 5 (.seq (.reg 18 false (.op (some 58) .mov [(.t 56)]
    (.op (some 59) (.idxS 9) [(.t 54), (.t 56)]
    (.op (some 60) (.ldN .heap 9) [(.t 59)]
    (.al 12 3 (List.replicate 9 (Cell.int .i64 0))
    (.op (some 11) .mov [(.t 58)]
    (.op none (.stAll (.slot 3) 9) [(.t 12), (.t 60)]
    .nil)))))))
  (.seq (.reg 19 false (.op (some 61) (.addr 0) [(.t 12)]
    (.op (some 62) (.ld (.slot 3) (.i .i64)) [(.t 61)]
    (.op (some 63) (.bin .eql) [(.t 62), (.k (.c (.int .i64 1)))]
    (.op (some 64) .mov [(.t 63)]
    (.sc 64 false (.op (some 65) (.addr 0) [(.t 12)]
    (.op (some 66) (.ld (.slot 3) (.i .i64)) [(.t 65)]
    (.op (some 67) (.bin .eql) [(.t 66), (.k (.c (.int .i64 2)))]
    .nil))) 67 68 true
    (.op (some 69) .mov [(.t 68)]
    (.sc 69 false (.op (some 70) (.addr 0) [(.t 12)]
    (.op (some 71) (.ld (.slot 3) (.i .i64)) [(.t 70)]
    (.op (some 72) (.bin .eql) [(.t 71), (.k (.c (.int .i64 4)))]
    .nil))) 72 73 true
    .nil))))))))
  (.cond (.t 73)
  (.reg 20 false (.op (some 74) .mov [(.t 10)]
    (.op (some 75) .mov [(.t 11)]
    (.op (some 76) .mov [(.t 6)]
    (.op (some 77) (.addr 2) [(.t 12)]
    (.op (some 78) (.ld (.slot 3) (.i .i64)) [(.t 77)]
    (.op (some 79) (.callv [(.i .i64)]) [(.t 76), (.t 78)]
    (.op (some 80) (.idxS 9) [(.t 74), (.t 75)]
    (.op (some 81) (.addr 2) [(.t 80)]
    (.op none (.st .heap) [(.t 81), (.t 79)]
    .nil))))))))))
  .skip))))
  (.reg 21 false (.op (some 82) (.bin .add) [(.t 56), (.k (.c (.int .i64 1)))]
    (.op (some 56) .mov [(.t 82)]
    .nil))))))
def prog_Compile_p4 : IC :=
  (.reg 22 false (.op (some 83) (.addr 2) [(.t 5)]
    (.op (some 84) (.ld .heap .any) [(.t 83)]
    (.op (some 85) .mov [(.t 10)]
    (.op (some 86) (.lit 1 1 ([Cell.nils]) [(0, 1)]) [(.t 85)]
    (.op (some 87) (.app 1 24) [(.t 84), (.t 86)]
    (.op (some 88) (.addr 2) [(.t 5)]
    (.op none (.st .heap) [(.t 88), (.t 87)]
    .nil))))))))
def prog_Compile_p3 : IC :=
  (.reg 23 false (.op (some 89) (.bin .add) [(.t 48), (.k (.c (.int .i64 1)))]
    (.op (some 48) .mov [(.t 89)]
    .nil)))
def prog_Compile_b3 : IC :=
  (.seq (.reg 13 false (.op (some 49) (.bin .lss) [(.t 48), (.t 47)]
    .nil))
  (.seq (.cond (.t 49)
  .skip
  (.exit 2))
  (.seq (.blk 3 (.seq (.reg 14 false (.op (some 50) (.idxS 1) [(.t 46), (.t 48)]
    (.op (some 51) (.ld .heap .any) [(.t 50)]
    (.op (some 10) .mov [(.t 51)]
    .nil))))
  (.seq (.reg 15 false (.op (some 52) .mov [(.t 10)]
    (.op (some 53) (.call 119 [.any]) [(.t 52)]
    (.op (some 10) .mov [(.t 53)]
    .nil))))
  (.seq (.seq (.reg 16 false (.op (some 54) .mov [(.t 10)]
    (.op (some 55) .len [(.t 54)]
    (.op (some 56) .mov [(.k (.c (.int .i64 0)))]
    .nil))))
  (.blk 4 (.loop [2, 5, 6, 10, 46, 47, 48, 54, 55, 56] [1] [(5, [2, 5, 6, 10, 46, 47, 48], [1])] prog_Compile_b2)))
  prog_Compile_p4))))
  prog_Compile_p3)))
def prog_Compile_p2 : IC :=
  (.seq (.reg 24 false (.op (some 90) (.ldAll .heap 3) [(.t 5)]
    (.op none (.stAll (.slot 1) 3) [(.t 2), (.t 90)]
    (.op (some 3) .mov [(.k (.c (.int .i64 0)))]
    .nil))))
  .ret)
def prog_Compile_p1 : IC :=
  (.seq (.seq (.reg 12 false (.op (some 45) (.addr 2) [(.t 1)]
    (.op (some 46) (.ld (.slot 0) .any) [(.t 45)]
    (.op (some 47) .len [(.t 46)]
    (.op (some 48) .mov [(.k (.c (.int .i64 0)))]
    .nil)))))
  (.blk 2 (.loop [2, 5, 6, 46, 47, 48] [1] [(3, [2, 5], [1])] prog_Compile_b3)))
  prog_Compile_p2)
def prog_Compile : Fn := { np := 1, nt := 91, ns := 4, res := [.all (.slot 1) 2 3, .t 3 (.i .i64)], gc := false, code :=
  (.seq (.reg 0 false (.box 1 0 (.t 0)
    (.al 2 1 ([Cell.nils, Cell.nils, Cell.nils])
    (.op (some 3) .mov [(.k (.c (.int .i64 0)))]
    .nil))))
  (.seq (.seq (.reg 1 false (.op (some 13) (.ldAll (.slot 0) 5) [(.t 1)]
    (.op (some 14) (.call 116 [(.i .i64)]) [(.t 13)]
    (.op (some 4) .mov [(.t 14)]
    .nil))))
  (.seq (.reg 2 false (.op (some 15) .mov [(.t 4)]
    (.op (some 16) (.bin .neq) [(.t 15), (.k (.c (.int .i64 0)))]
    .nil)))
  (.cond (.t 16)
  (.seq (.reg 3 false (.op (some 17) (.build ([Cell.nils, Cell.nils, Cell.nils]) []) []
    (.op (some 18) .mov [(.t 4)]
    (.op none (.stAll (.slot 1) 3) [(.t 2), (.t 17)]
    (.op (some 3) .mov [(.t 18)]
    .nil)))))
  .ret)
  .skip)))
  (.seq (.reg 4 false (.op (some 19) (.ldAll (.slot 0) 5) [(.t 1)]
    (.op (some 20) (.call 117 [.any]) [(.t 19)]
    (.op (some 21) (.build ([Cell.nils, Cell.nils, Cell.nils]) [(0, 1)]) [(.t 20)]
    (.op (some 5) (.allocH ([Cell.nils, Cell.nils, Cell.nils])) []
    (.op none (.stAll .heap 3) [(.t 5), (.t 21)]
    .nil))))))
  (.seq (.reg 5 false (.op (some 22) (.addr 0) [(.t 5)]
    (.op (some 23) (.ld .heap .any) [(.t 22)]
    (.op (some 24) .len [(.t 23)]
    (.op (some 25) (.mks 1 ([Cell.int .i64 0]) 8) [(.t 24), (.t 24)]
    (.op (some 26) (.addr 1) [(.t 5)]
    (.op none (.st .heap) [(.t 26), (.t 25)]
    .nil)))))))
  (.seq (.reg 6 false (.op (some 27) (.mkfn 118) [(.t 5)]
    (.op (some 6) .mov [(.t 27)]
    .nil)))
  (.seq (.seq (.reg 7 false (.op (some 28) (.addr 1) [(.t 1)]
    (.op (some 29) (.ld (.slot 0) .any) [(.t 28)]
    (.op (some 30) .len [(.t 29)]
    (.op (some 31) .mov [(.k (.c (.int .i64 0)))]
    .nil)))))
  (.blk 0 (.loop [1, 2, 5, 6, 29, 30, 31] [0, 1] [(1, [1, 2, 5, 6], [0, 1])] prog_Compile_b1)))
  prog_Compile_p1)))))) }

/- jacquard/prog.Size: 102 -/
def prog_Size_b1 : IC :=
  (.seq (.reg 3 false (.op (some 10) (.bin .lss) [(.t 9), (.t 8)]
    .nil))
  (.seq (.cond (.t 10)
  .skip
  (.exit 0))
  (.seq (.blk 1 (.seq (.reg 4 false (.op (some 11) (.idxS 1) [(.t 7), (.t 9)]
    (.op (some 12) (.ld .heap .any) [(.t 11)]
    (.op (some 5) .mov [(.t 12)]
    .nil))))
  (.reg 5 false (.op (some 13) .mov [(.t 3)]
    (.op (some 14) .mov [(.t 5)]
    (.op (some 15) .len [(.t 14)]
    (.op (some 16) (.bin .add) [(.t 13), (.t 15)]
    (.op (some 3) .mov [(.t 16)]
    .nil))))))))
  (.reg 6 false (.op (some 17) (.bin .add) [(.t 9), (.k (.c (.int .i64 1)))]
    (.op (some 9) .mov [(.t 17)]
    .nil))))))
def prog_Size_p1 : IC :=
  (.seq (.reg 7 false (.op (some 18) .mov [(.t 3)]
    (.op (some 2) .mov [(.t 18)]
    .nil)))
  .ret)
def prog_Size : Fn := { np := 1, nt := 19, ns := 1, res := [.t 2 (.i .i64)], gc := false, code :=
  (.seq (.reg 0 false (.box 1 0 (.t 0)
    (.op (some 2) .mov [(.k (.c (.int .i64 0)))]
    .nil)))
  (.seq (.reg 1 false (.op (some 3) .mov [(.k (.c (.int .i64 0)))]
    .nil))
  (.seq (.seq (.reg 2 false (.op (some 6) (.addr 2) [(.t 1)]
    (.op (some 7) (.ld (.slot 0) .any) [(.t 6)]
    (.op (some 8) .len [(.t 7)]
    (.op (some 9) .mov [(.k (.c (.int .i64 0)))]
    .nil)))))
  (.blk 0 (.loop [3, 7, 8, 9] [] [(1, [3], [])] prog_Size_b1)))
  prog_Size_p1))) }

/- jacquard/prog.Next: 105 -/
def prog_Next : Fn := { np := 3, nt := 39, ns := 4, res := [.all (.slot 2) 6 9, .t 7 .b], gc := false, code :=
  (.seq (.reg 0 false (.box 3 0 (.t 0)
    (.box 5 1 (.t 2)
    (.al 6 2 (List.replicate 9 (Cell.int .i64 0))
    (.op (some 7) .mov [(.k (.c (.bool false)))]
    .nil)))))
  (.seq (.reg 1 false (.op (some 10) (.ldAll (.slot 0) 3) [(.t 3)]
    (.op (some 11) .mov [(.t 1)]
    (.op (some 12) (.call 113 [.any]) [(.t 10), (.t 11)]
    (.op (some 8) .mov [(.t 12)]
    .nil)))))
  (.seq (.seq (.reg 2 false (.op (some 13) (.addr 0) [(.t 5)]
    (.op (some 14) (.ld (.slot 1) (.i .i64)) [(.t 13)]
    (.op (some 15) (.bin .lss) [(.t 14), (.k (.c (.int .i64 0)))]
    (.op (some 16) .mov [(.t 15)]
    (.sc 16 false (.op (some 17) (.addr 0) [(.t 5)]
    (.op (some 18) (.ld (.slot 1) (.i .i64)) [(.t 17)]
    (.op (some 19) .mov [(.t 8)]
    (.op (some 20) .len [(.t 19)]
    (.op (some 21) (.bin .geq) [(.t 18), (.t 20)]
    .nil))))) 21 22 true
    .nil))))))
  (.cond (.t 22)
  (.seq (.reg 3 false (.op (some 23) (.build (List.replicate 9 (Cell.int .i64 0)) []) []
    (.op none (.stAll (.slot 2) 9) [(.t 6), (.t 23)]
    (.op (some 7) .mov [(.k (.c (.bool false)))]
    .nil))))
  .ret)
  .skip))
  (.seq (.reg 4 false (.op (some 24) .mov [(.t 8)]
    (.op (some 25) (.addr 0) [(.t 5)]
    (.op (some 26) (.ld (.slot 1) (.i .i64)) [(.t 25)]
    (.op (some 27) (.idxS 9) [(.t 24), (.t 26)]
    (.op (some 28) (.ldN .heap 9) [(.t 27)]
    (.al 9 3 (List.replicate 9 (Cell.int .i64 0))
    (.op none (.stAll (.slot 3) 9) [(.t 9), (.t 28)]
    .nil))))))))
  (.seq (.seq (.reg 5 false (.op (some 29) (.addr 0) [(.t 9)]
    (.op (some 30) (.ld (.slot 3) (.i .i64)) [(.t 29)]
    (.op (some 31) (.bin .lss) [(.t 30), (.k (.c (.int .i64 1)))]
    (.op (some 32) .mov [(.t 31)]
    (.sc 32 false (.op (some 33) (.addr 0) [(.t 9)]
    (.op (some 34) (.ld (.slot 3) (.i .i64)) [(.t 33)]
    (.op (some 35) (.bin .gtr) [(.t 34), (.k (.c (.int .i64 4)))]
    .nil))) 35 36 true
    .nil))))))
  (.cond (.t 36)
  (.seq (.reg 6 false (.op (some 37) (.build (List.replicate 9 (Cell.int .i64 0)) []) []
    (.op none (.stAll (.slot 2) 9) [(.t 6), (.t 37)]
    (.op (some 7) .mov [(.k (.c (.bool false)))]
    .nil))))
  .ret)
  .skip))
  (.seq (.reg 7 false (.op (some 38) (.ldAll (.slot 3) 9) [(.t 9)]
    (.op none (.stAll (.slot 2) 9) [(.t 6), (.t 38)]
    (.op (some 7) .mov [(.k (.c (.bool true)))]
    .nil))))
  .ret)))))) }

/- jacquard/prog.After: 106 -/
def prog_After : Fn := { np := 4, nt := 42, ns := 3, res := [.all (.slot 1) 8 5], gc := true, code :=
  (.seq (.reg 0 false (.box 4 0 (.t 0)
    (.op (some 6) .boxH [(.t 2)]
    (.al 8 1 ([Cell.int .i64 0, Cell.int .i64 0, Cell.int .i64 0, Cell.int .i64 0, Cell.int .i64 0])
    .nil))))
  (.seq (.reg 1 false (.op (some 12) (.ldAll (.slot 0) 3) [(.t 4)]
    (.op (some 13) .mov [(.t 1)]
    (.op (some 14) (.ldAll .heap 5) [(.t 6)]
    (.op (some 15) (.call 105 [.agg, .b]) [(.t 12), (.t 13), (.t 14)]
    (.op (some 11) .mov [(.t 15)]
    (.op (some 16) (.ext 0) [(.t 11)]
    (.op (some 17) (.ext 1) [(.t 11)]
    (.al 9 2 (List.replicate 9 (Cell.int .i64 0))
    (.op none (.stAll (.slot 2) 9) [(.t 9), (.t 16)]
    (.op (some 10) .mov [(.t 17)]
    .nil)))))))))))
  (.seq (.seq (.reg 2 false (.op (some 18) .mov [(.t 10)]
    (.op (some 19) (.un .not) [(.t 18)]
    .nil)))
  (.cond (.t 19)
  (.seq (.reg 3 false (.op (some 20) (.ldAll .heap 5) [(.t 6)]
    (.op none (.stAll (.slot 1) 5) [(.t 8), (.t 20)]
    .nil)))
  .ret)
  .skip))
  (.seq (.seq (.reg 4 false (.op (some 21) (.addr 0) [(.t 9)]
    (.op (some 22) (.ld (.slot 2) (.i .i64)) [(.t 21)]
    (.op (some 23) (.bin .eql) [(.t 22), (.k (.c (.int .i64 2)))]
    (.op (some 24) .mov [(.t 23)]
    (.sc 24 false (.op (some 25) (.addr 0) [(.t 9)]
    (.op (some 26) (.ld (.slot 2) (.i .i64)) [(.t 25)]
    (.op (some 27) (.bin .eql) [(.t 26), (.k (.c (.int .i64 4)))]
    .nil))) 27 28 true
    .nil))))))
  (.cond (.t 28)
  (.reg 5 false (.op (some 29) (.addr 1) [(.t 9)]
    (.op (some 30) (.ld (.slot 2) (.i .i64)) [(.t 29)]
    (.op (some 31) .mov [(.t 3)]
    (.op (some 32) (.call 124 []) [(.t 6), (.t 30), (.t 31)]
    .nil)))))
  .skip))
  (.seq (.reg 6 false (.op (some 33) (.addr 0) [(.t 6)]
    (.op (some 34) (.ld .heap (.i .i64)) [(.t 33)]
    (.op (some 35) (.bin .add) [(.t 34), (.k (.c (.int .i64 1)))]
    (.op (some 36) (.addr 0) [(.t 6)]
    (.op none (.st .heap) [(.t 36), (.t 35)]
    .nil))))))
  (.seq (.reg 7 true (.op (some 37) (.ldAll (.slot 0) 3) [(.t 4)]
    (.op (some 38) .mov [(.t 1)]
    (.op (some 39) (.qcall 113 [.any]) [(.t 37), (.t 38)]
    (.op (some 40) (.ldAll .heap 5) [(.t 6)]
    (.op (some 41) (.qcall 114 [.agg]) [(.t 39), (.t 40)]
    (.op none (.stAll (.slot 1) 5) [(.t 8), (.t 41)]
    .nil)))))))
  .ret)))))) }

/- jacquard/prog.Value: 108 -/
def prog_Value : Fn := { np := 2, nt := 20, ns := 2, res := [.t 4 (.i .i64)], gc := false, code :=
  (.seq (.reg 0 false (.box 2 0 (.t 0)
    (.box 3 1 (.t 1)
    (.op (some 4) .mov [(.k (.c (.int .i64 0)))]
    .nil))))
  (.seq (.seq (.reg 1 false (.op (some 5) (.addr 0) [(.t 2)]
    (.op (some 6) (.ld (.slot 0) (.i .i64)) [(.t 5)]
    (.op (some 7) (.bin .geq) [(.t 6), (.k (.c (.int .i64 0)))]
    (.op (some 8) .mov [(.t 7)]
    (.sc 8 true (.op (some 9) (.addr 0) [(.t 2)]
    (.op (some 10) (.ld (.slot 0) (.i .i64)) [(.t 9)]
    (.op (some 11) (.bin .lss) [(.t 10), (.k (.c (.int .i64 4)))]
    .nil))) 11 12 false
    .nil))))))
  (.cond (.t 12)
  (.seq (.reg 2 false (.op (some 13) (.addr 0) [(.t 2)]
    (.op (some 14) (.ld (.slot 0) (.i .i64)) [(.t 13)]
    (.op (some 15) (.addr 1) [(.t 3)]
    (.op (some 16) (.idxA 4 1) [(.t 15), (.t 14)]
    (.op (some 17) (.ld (.slot 1) (.i .i64)) [(.t 16)]
    (.op (some 4) .mov [(.t 17)]
    .nil)))))))
  .ret)
  .skip))
  (.seq (.reg 3 false (.op (some 18) (.addr 1) [(.t 2)]
    (.op (some 19) (.ld (.slot 0) (.i .i64)) [(.t 18)]
    (.op (some 4) .mov [(.t 19)]
    .nil))))
  .ret))) }

/- jacquard/prog.thread: 113 -/
def prog_thread : Fn := { np := 2, nt := 19, ns := 1, res := [.t 4 .any], gc := false, code :=
  (.seq (.reg 0 false (.box 2 0 (.t 0)
    (.op (some 4) .mov [(.k (.c .nils))]
    .nil)))
  (.seq (.seq (.reg 1 false (.op (some 5) .mov [(.t 1)]
    (.op (some 6) (.bin .lss) [(.t 5), (.k (.c (.int .i64 0)))]
    (.op (some 7) .mov [(.t 6)]
    (.sc 7 false (.op (some 8) .mov [(.t 1)]
    (.op (some 9) (.addr 2) [(.t 2)]
    (.op (some 10) (.ld (.slot 0) .any) [(.t 9)]
    (.op (some 11) .len [(.t 10)]
    (.op (some 12) (.bin .geq) [(.t 8), (.t 11)]
    .nil))))) 12 13 true
    .nil)))))
  (.cond (.t 13)
  (.seq (.reg 2 false (.op (some 4) .mov [(.k (.c .nils))]
    .nil))
  .ret)
  .skip))
  (.seq (.reg 3 false (.op (some 14) (.addr 2) [(.t 2)]
    (.op (some 15) (.ld (.slot 0) .any) [(.t 14)]
    (.op (some 16) .mov [(.t 1)]
    (.op (some 17) (.idxS 1) [(.t 15), (.t 16)]
    (.op (some 18) (.ld .heap .any) [(.t 17)]
    (.op (some 4) .mov [(.t 18)]
    .nil)))))))
  .ret))) }

/- jacquard/prog.normal: 114 -/
def prog_normal_b1 : IC :=
  (.seq (.seq (.reg 1 false (.op (some 10) (.addr 0) [(.t 3)]
    (.op (some 11) (.ld .heap (.i .i64)) [(.t 10)]
    (.op (some 12) (.bin .geq) [(.t 11), (.k (.c (.int .i64 0)))]
    (.op (some 13) .mov [(.t 12)]
    (.sc 13 true (.op (some 14) (.addr 0) [(.t 3)]
    (.op (some 15) (.ld .heap (.i .i64)) [(.t 14)]
    (.op (some 16) .mov [(.t 0)]
    (.op (some 17) .len [(.t 16)]
    (.op (some 18) (.bin .lss) [(.t 15), (.t 17)]
    .nil))))) 18 19 false
    .nil))))))
  (.cond (.t 19)
  .skip
  (.exit 0)))
  (.blk 1 (.seq (.reg 2 false (.op (some 20) .mov [(.t 0)]
    (.op (some 21) (.addr 0) [(.t 3)]
    (.op (some 22) (.ld .heap (.i .i64)) [(.t 21)]
    (.op (some 23) (.idxS 9) [(.t 20), (.t 22)]
    (.op (some 24) (.ldN .heap 9) [(.t 23)]
    (.al 5 1 (List.replicate 9 (Cell.int .i64 0))
    (.op none (.stAll (.slot 1) 9) [(.t 5), (.t 24)]
    .nil))))))))
  (.seq (.reg 3 true (.op (some 25) (.addr 3) [(.t 5)]
    (.op (some 26) (.ldN (.slot 1) 2) [(.t 25)]
    (.op (some 27) (.ldAll .heap 5) [(.t 3)]
    (.op (some 28) (.qcall 108 [(.i .i64)]) [(.t 26), (.t 27)]
    (.op (some 29) (.addr 6) [(.t 5)]
    (.op (some 30) (.ldN (.slot 1) 2) [(.t 29)]
    (.op (some 31) (.ldAll .heap 5) [(.t 3)]
    (.op (some 32) (.qcall 108 [(.i .i64)]) [(.t 30), (.t 31)]
    (.op (some 6) .mov [(.t 28)]
    (.op (some 7) .mov [(.t 32)]
    .nil)))))))))))
  (.seq (.seq (.reg 4 false (.op (some 33) (.addr 0) [(.t 5)]
    (.op (some 34) (.ld (.slot 1) (.i .i64)) [(.t 33)]
    .nil)))
  (.blk 2 (.seq (.reg 6 false (.op (some 37) (.bin .eql) [(.t 34), (.k (.c (.int .i64 5)))]
    (.op (some 36) .mov [(.t 37)]
    .nil)))
  (.cond (.t 36)
  (.seq (.seq (.reg 7 false (.op (some 39) (.addr 5) [(.t 5)]
    (.op (some 40) (.ld (.slot 1) (.i .i64)) [(.t 39)]
    (.op (some 41) .mov [(.t 6)]
    (.op (some 42) .mov [(.t 7)]
    (.op (some 43) (.call 125 [(.i .i64), .b]) [(.t 40), (.t 41), (.t 42)]
    (.op (some 38) .mov [(.t 43)]
    (.op (some 44) (.ext 0) [(.t 38)]
    (.op (some 45) (.ext 1) [(.t 38)]
    (.op (some 8) .mov [(.t 44)]
    (.op (some 9) .mov [(.t 45)]
    .nil)))))))))))
  (.seq (.reg 8 false (.op (some 46) .mov [(.t 9)]
    .nil))
  (.cond (.t 46)
  (.reg 9 false (.op (some 47) .mov [(.t 8)]
    (.op (some 6) .mov [(.t 47)]
    .nil)))
  .skip)))
  (.reg 10 false (.op (some 48) (.addr 1) [(.t 5)]
    (.op (some 49) (.ld (.slot 1) (.i .i64)) [(.t 48)]
    (.op (some 50) .mov [(.t 6)]
    (.op (some 51) (.call 124 []) [(.t 3), (.t 49), (.t 50)]
    .nil))))))
  (.seq (.reg 11 false (.op (some 53) (.bin .eql) [(.t 34), (.k (.c (.int .i64 6)))]
    (.op (some 52) .mov [(.t 53)]
    .nil)))
  (.cond (.t 52)
  (.seq (.reg 12 false (.op (some 54) .mov [(.t 6)]
    (.op (some 55) .mov [(.t 7)]
    (.op (some 56) (.bin .eql) [(.t 54), (.t 55)]
    .nil))))
  (.cond (.t 56)
  (.reg 13 false (.op (some 57) (.addr 0) [(.t 3)]
    (.op (some 58) (.ld .heap (.i .i64)) [(.t 57)]
    (.op (some 59) (.addr 8) [(.t 5)]
    (.op (some 60) (.ld (.slot 1) (.i .i64)) [(.t 59)]
    (.op (some 61) .mx [(.t 60), (.k (.c (.int .i64 0)))]
    (.op (some 62) .mov [(.t 0)]
    (.op (some 63) .len [(.t 62)]
    (.op (some 64) .mn [(.t 61), (.t 63)]
    (.op (some 65) (.bin .add) [(.t 58), (.t 64)]
    (.op (some 66) (.addr 0) [(.t 3)]
    (.op none (.st .heap) [(.t 66), (.t 65)]
    .nil))))))))))))
  .skip))
  (.seq (.reg 5 false (.op (some 35) (.ldAll .heap 5) [(.t 3)]
    (.op none (.stAll (.slot 0) 5) [(.t 4), (.t 35)]
    .nil)))
  .ret)))))))
  (.reg 14 false (.op (some 67) (.addr 0) [(.t 3)]
    (.op (some 68) (.ld .heap (.i .i64)) [(.t 67)]
    (.op (some 69) (.bin .add) [(.t 68), (.k (.c (.int .i64 1)))]
    (.op (some 70) (.addr 0) [(.t 3)]
    (.op none (.st .heap) [(.t 70), (.t 69)]
    .nil)))))))))))
def prog_normal_p1 : IC :=
  (.seq (.reg 15 false (.op (some 71) (.ldAll .heap 5) [(.t 3)]
    (.op none (.stAll (.slot 0) 5) [(.t 4), (.t 71)]
    .nil)))
  .ret)
def prog_normal : Fn := { np := 2, nt := 72, ns := 2, res := [.all (.slot 0) 4 5], gc := true, code :=
  (.seq (.reg 0 false (.op (some 3) .boxH [(.t 1)]
    (.al 4 0 ([Cell.int .i64 0, Cell.int .i64 0, Cell.int .i64 0, Cell.int .i64 0, Cell.int .i64 0])
    .nil)))
  (.seq (.blk 0 (.loop [0, 3, 4] [0] [(0, [4], [0]), (1, [3, 4], [0])] prog_normal_b1))
  prog_normal_p1)) }

/- jacquard/prog.Compile$1: 118 -/
def prog_Compile_1 : Fn := { np := 2, nt := 9, ns := 0, res := [.t 3 (.i .i64)], gc := false, code :=
  (.seq (.reg 0 false (.op (some 3) .mov [(.k (.c (.int .i64 0)))]
    .nil))
  (.seq (.reg 1 false (.op (some 4) (.addr 0) [(.t 1)]
    (.op (some 5) (.ld .heap .any) [(.t 4)]
    (.op (some 6) .mov [(.t 0)]
    (.op (some 7) (.conv .u8) [(.t 6)]
    (.op (some 8) (.call 134 [(.i .i64)]) [(.t 5), (.t 7)]
    (.op (some 3) .mov [(.t 8)]
    .nil)))))))
  .ret)) }

/- jacquard/prog.set: 124 -/
def prog_set : Fn := { np := 3, nt := 18, ns := 0, res := [], gc := false, code :=
  (.seq (.reg 0 false (.op (some 6) .mov [(.t 1)]
    (.op (some 7) (.bin .geq) [(.t 6), (.k (.c (.int .i64 0)))]
    (.op (some 8) .mov [(.t 7)]
    (.sc 8 true (.op (some 9) .mov [(.t 1)]
    (.op (some 10) (.bin .lss) [(.t 9), (.k (.c (.int .i64 4)))]
    .nil)) 10 11 false
    .nil)))))
  (.cond (.t 11)
  (.reg 1 false (.op (some 12) .mov [(.t 0)]
    (.op (some 13) .mov [(.t 1)]
    (.op (some 14) .mov [(.t 2)]
    (.op (some 15) .nilchk [(.t 12)]
    (.op (some 16) (.addr 1) [(.t 15)]
    (.op (some 17) (.idxA 4 1) [(.t 16), (.t 13)]
    (.op none (.st .heap) [(.t 17), (.t 14)]
    .nil))))))))
  .skip)) }


end Jq

namespace Jq
open Go

/- jacquard/num.Do: 125 -/
def num_Do : Fn := { np := 3, nt := 71, ns := 0, res := [.t 6 (.i .i64), .t 7 .b], gc := false, code :=
  (.seq (.reg 0 false (.op (some 6) .mov [(.k (.c (.int .i64 0)))]
    (.op (some 7) .mov [(.k (.c (.bool false)))]
    .nil)))
  (.seq (.reg 1 false (.op (some 9) .mov [(.t 2)]
    (.op (some 10) (.conv .u64) [(.t 9)]
    (.op (some 11) (.bin .rem) [(.t 10), (.k (.c (.int .u64 64)))]
    (.op (some 8) .mov [(.t 11)]
    .nil)))))
  (.seq (.seq (.reg 2 false (.op (some 12) .mov [(.t 0)]
    .nil))
  (.blk 0 (.seq (.reg 3 false (.op (some 14) (.bin .eql) [(.t 12), (.k (.c (.int .i64 1)))]
    (.op (some 13) .mov [(.t 14)]
    .nil)))
  (.cond (.t 13)
  (.seq (.reg 4 false (.op (some 15) .mov [(.t 1)]
    (.op (some 16) .mov [(.t 2)]
    (.op (some 17) (.bin .add) [(.t 15), (.t 16)]
    (.op (some 6) .mov [(.t 17)]
    (.op (some 7) .mov [(.k (.c (.bool true)))]
    .nil))))))
  .ret)
  (.seq (.reg 5 false (.op (some 19) (.bin .eql) [(.t 12), (.k (.c (.int .i64 2)))]
    (.op (some 18) .mov [(.t 19)]
    .nil)))
  (.cond (.t 18)
  (.seq (.reg 6 false (.op (some 20) .mov [(.t 1)]
    (.op (some 21) .mov [(.t 2)]
    (.op (some 22) (.bin .sub) [(.t 20), (.t 21)]
    (.op (some 6) .mov [(.t 22)]
    (.op (some 7) .mov [(.k (.c (.bool true)))]
    .nil))))))
  .ret)
  (.seq (.reg 7 false (.op (some 24) (.bin .eql) [(.t 12), (.k (.c (.int .i64 3)))]
    (.op (some 23) .mov [(.t 24)]
    .nil)))
  (.cond (.t 23)
  (.seq (.reg 8 false (.op (some 25) .mov [(.t 1)]
    (.op (some 26) .mov [(.t 2)]
    (.op (some 27) (.bin .mul) [(.t 25), (.t 26)]
    (.op (some 6) .mov [(.t 27)]
    (.op (some 7) .mov [(.k (.c (.bool true)))]
    .nil))))))
  .ret)
  (.seq (.reg 9 false (.op (some 29) (.bin .eql) [(.t 12), (.k (.c (.int .i64 4)))]
    (.op (some 28) .mov [(.t 29)]
    .nil)))
  (.cond (.t 28)
  (.seq (.reg 10 false (.op (some 30) .mov [(.t 1)]
    (.op (some 31) .mov [(.t 2)]
    (.op (some 32) (.bin .and) [(.t 30), (.t 31)]
    (.op (some 6) .mov [(.t 32)]
    (.op (some 7) .mov [(.k (.c (.bool true)))]
    .nil))))))
  .ret)
  (.seq (.reg 11 false (.op (some 34) (.bin .eql) [(.t 12), (.k (.c (.int .i64 5)))]
    (.op (some 33) .mov [(.t 34)]
    .nil)))
  (.cond (.t 33)
  (.seq (.reg 12 false (.op (some 35) .mov [(.t 1)]
    (.op (some 36) .mov [(.t 2)]
    (.op (some 37) (.bin .or) [(.t 35), (.t 36)]
    (.op (some 6) .mov [(.t 37)]
    (.op (some 7) .mov [(.k (.c (.bool true)))]
    .nil))))))
  .ret)
  (.seq (.reg 13 false (.op (some 39) (.bin .eql) [(.t 12), (.k (.c (.int .i64 6)))]
    (.op (some 38) .mov [(.t 39)]
    .nil)))
  (.cond (.t 38)
  (.seq (.reg 14 false (.op (some 40) .mov [(.t 1)]
    (.op (some 41) .mov [(.t 2)]
    (.op (some 42) (.bin .xor) [(.t 40), (.t 41)]
    (.op (some 6) .mov [(.t 42)]
    (.op (some 7) .mov [(.k (.c (.bool true)))]
    .nil))))))
  .ret)
  (.seq (.reg 15 false (.op (some 44) (.bin .eql) [(.t 12), (.k (.c (.int .i64 7)))]
    (.op (some 43) .mov [(.t 44)]
    .nil)))
  (.cond (.t 43)
  (.seq (.reg 16 false (.op (some 45) .mov [(.t 1)]
    (.op (some 46) .mov [(.t 8)]
    (.op (some 47) (.bin .shl) [(.t 45), (.t 46)]
    (.op (some 6) .mov [(.t 47)]
    (.op (some 7) .mov [(.k (.c (.bool true)))]
    .nil))))))
  .ret)
  (.seq (.reg 17 false (.op (some 49) (.bin .eql) [(.t 12), (.k (.c (.int .i64 8)))]
    (.op (some 48) .mov [(.t 49)]
    .nil)))
  (.cond (.t 48)
  (.seq (.reg 18 false (.op (some 50) .mov [(.t 1)]
    (.op (some 51) .mov [(.t 8)]
    (.op (some 52) (.bin .shr) [(.t 50), (.t 51)]
    (.op (some 6) .mov [(.t 52)]
    (.op (some 7) .mov [(.k (.c (.bool true)))]
    .nil))))))
  .ret)
  (.seq (.reg 19 false (.op (some 54) (.bin .eql) [(.t 12), (.k (.c (.int .i64 9)))]
    (.op (some 53) .mov [(.t 54)]
    .nil)))
  (.cond (.t 53)
  (.seq (.reg 20 false (.op (some 55) .mov [(.t 1)]
    (.op (some 56) .mov [(.t 2)]
    (.op (some 57) (.bin .eql) [(.t 55), (.t 56)]
    (.op (some 58) (.call 139 [(.i .i64)]) [(.t 57)]
    (.op (some 6) .mov [(.t 58)]
    (.op (some 7) .mov [(.k (.c (.bool true)))]
    .nil)))))))
  .ret)
  (.seq (.reg 21 false (.op (some 60) (.bin .eql) [(.t 12), (.k (.c (.int .i64 10)))]
    (.op (some 59) .mov [(.t 60)]
    .nil)))
  (.cond (.t 59)
  (.seq (.reg 22 false (.op (some 61) .mov [(.t 1)]
    (.op (some 62) .mov [(.t 2)]
    (.op (some 63) (.bin .neq) [(.t 61), (.t 62)]
    (.op (some 64) (.call 139 [(.i .i64)]) [(.t 63)]
    (.op (some 6) .mov [(.t 64)]
    (.op (some 7) .mov [(.k (.c (.bool true)))]
    .nil)))))))
  .ret)
  (.seq (.reg 23 false (.op (some 66) (.bin .eql) [(.t 12), (.k (.c (.int .i64 11)))]
    (.op (some 65) .mov [(.t 66)]
    .nil)))
  (.cond (.t 65)
  (.seq (.reg 24 false (.op (some 67) .mov [(.t 1)]
    (.op (some 68) .mov [(.t 2)]
    (.op (some 69) (.bin .lss) [(.t 67), (.t 68)]
    (.op (some 70) (.call 139 [(.i .i64)]) [(.t 69)]
    (.op (some 6) .mov [(.t 70)]
    (.op (some 7) .mov [(.k (.c (.bool true)))]
    .nil)))))))
  .ret)
  .skip))))))))))))))))))))))))
  (.seq (.reg 25 false (.op (some 6) .mov [(.k (.c (.int .i64 0)))]
    (.op (some 7) .mov [(.k (.c (.bool false)))]
    .nil)))
  .ret)))) }

/- jacquard/num.one: 139 -/
def num_one : Fn := { np := 1, nt := 4, ns := 0, res := [.t 2 (.i .i64)], gc := false, code :=
  (.seq (.reg 0 false (.op (some 2) .mov [(.k (.c (.int .i64 0)))]
    .nil))
  (.seq (.seq (.reg 1 false (.op (some 3) .mov [(.t 0)]
    .nil))
  (.cond (.t 3)
  (.seq (.reg 2 false (.op (some 2) .mov [(.k (.c (.int .i64 1)))]
    .nil))
  .ret)
  .skip))
  (.seq (.reg 3 false (.op (some 2) .mov [(.k (.c (.int .i64 0)))]
    .nil))
  .ret))) }


end Jq

/- What a function needs of an environment. -/
namespace Jq
open Go

structure num_one_In (E : Env) : Prop where
  fn : E.fn 139 = some num_one

structure num_Do_In (E : Env) : Prop where
  fn : E.fn 125 = some num_Do
  c139 : num_one_In E

end Jq

namespace Jq
open Go

/- jacquard/print.Ok: 126 -/
def print_Ok : Fn := { np := 1, nt := 25, ns := 1, res := [.t 2 .b], gc := false, code :=
  (.seq (.reg 0 false (.box 1 0 (.t 0)
    (.op (some 2) .mov [(.k (.c (.bool false)))]
    .nil)))
  (.seq (.reg 1 false (.op (some 3) .mov [(.k (.c (.fn 140 [])))]
    .nil))
  (.seq (.reg 2 false (.op (some 4) (.addr 0) [(.t 1)]
    (.op (some 5) (.ld (.slot 0) .s) [(.t 4)]
    (.op (some 6) (.call 141 [.b]) [(.t 5)]
    (.op (some 7) .mov [(.t 6)]
    (.sc 7 true (.op (some 8) (.addr 1) [(.t 1)]
    (.op (some 9) (.ld (.slot 0) .any) [(.t 8)]
    (.op (some 10) (.call 143 [.b]) [(.t 9), (.k (.c (.fn 142 [])))]
    (.op (some 11) (.un .not) [(.t 10)]
    .nil)))) 11 12 false
    (.op (some 13) .mov [(.t 12)]
    (.sc 13 true (.op (some 14) (.addr 2) [(.t 1)]
    (.op (some 15) (.ld (.slot 0) .any) [(.t 14)]
    (.op (some 16) .mov [(.t 3)]
    (.op (some 17) (.call 130 [.b]) [(.t 15), (.t 16)]
    (.op (some 18) (.un .not) [(.t 17)]
    .nil))))) 18 19 false
    (.op (some 20) .mov [(.t 19)]
    (.sc 20 true (.op (some 21) (.addr 3) [(.t 1)]
    (.op (some 22) (.ldN (.slot 0) 2) [(.t 21)]
    (.op (some 23) (.call 144 [.b]) [(.t 22)]
    .nil))) 23 24 false
    (.op (some 2) .mov [(.t 24)]
    .nil)))))))))))
  .ret))) }

/- jacquard/print.Ok$1: 140 -/
def print_Ok_1 : Fn := { np := 1, nt := 5, ns := 0, res := [.t 2 .b], gc := false, code :=
  (.seq (.reg 0 false (.op (some 2) .mov [(.k (.c (.bool false)))]
    .nil))
  (.seq (.reg 1 false (.op (some 3) .mov [(.t 0)]
    (.op (some 4) (.call 155 [.b]) [(.t 3), (.k (.c (.fn 154 [])))]
    (.op (some 2) .mov [(.t 4)]
    .nil))))
  .ret)) }

/- jacquard/print.isWord: 141 -/
def print_isWord_b1 : IC :=
  (.seq (.reg 2 false (.op (some 8) (.bin .lss) [(.t 7), (.t 6)]
    .nil))
  (.seq (.cond (.t 8)
  .skip
  (.exit 0))
  (.seq (.blk 1 (.seq (.reg 3 false (.op (some 9) .mov [(.t 7)]
    (.op (some 3) .mov [(.t 9)]
    .nil)))
  (.seq (.reg 4 false (.op (some 10) .mov [(.t 0)]
    (.op (some 11) .mov [(.t 3)]
    (.op (some 12) .idxStr [(.t 10), (.t 11)]
    (.op (some 4) .mov [(.t 12)]
    .nil)))))
  (.seq (.reg 5 false (.op (some 13) .mov [(.t 4)]
    (.op (some 14) (.bin .lss) [(.t 13), (.k (.c (.int .u8 97)))]
    (.op (some 15) .mov [(.t 14)]
    (.sc 15 false (.op (some 16) .mov [(.t 4)]
    (.op (some 17) (.bin .gtr) [(.t 16), (.k (.c (.int .u8 122)))]
    .nil)) 17 18 true
    (.op (some 19) .mov [(.t 18)]
    (.sc 19 true (.op (some 20) .mov [(.t 3)]
    (.op (some 21) (.bin .eql) [(.t 20), (.k (.c (.int .i64 0)))]
    (.op (some 22) .mov [(.t 21)]
    (.sc 22 false (.op (some 23) .mov [(.t 4)]
    (.op (some 24) (.bin .lss) [(.t 23), (.k (.c (.int .u8 48)))]
    .nil)) 24 25 true
    (.op (some 26) .mov [(.t 25)]
    (.sc 26 false (.op (some 27) .mov [(.t 4)]
    (.op (some 28) (.bin .gtr) [(.t 27), (.k (.c (.int .u8 57)))]
    .nil)) 28 29 true
    .nil)))))) 29 30 false
    .nil)))))))
  (.cond (.t 30)
  (.seq (.reg 6 false (.op (some 2) .mov [(.k (.c (.bool false)))]
    .nil))
  .ret)
  .skip)))))
  (.reg 7 false (.op (some 31) (.bin .add) [(.t 7), (.k (.c (.int .i64 1)))]
    (.op (some 7) .mov [(.t 31)]
    .nil))))))
def print_isWord_p1 : IC :=
  (.seq (.reg 8 false (.op (some 32) .mov [(.t 0)]
    (.op (some 33) (.bin .neq) [(.t 32), (.k (.c (.str (ByteArray.mk #[]))))]
    (.op (some 2) .mov [(.t 33)]
    .nil))))
  .ret)
def print_isWord : Fn := { np := 1, nt := 34, ns := 0, res := [.t 2 .b], gc := false, code :=
  (.seq (.reg 0 false (.op (some 2) .mov [(.k (.c (.bool false)))]
    .nil))
  (.seq (.seq (.reg 1 false (.op (some 5) .mov [(.t 0)]
    (.op (some 6) .lenStr [(.t 5)]
    (.op (some 7) .mov [(.k (.c (.int .i64 0)))]
    .nil))))
  (.blk 0 (.loop [0, 6, 7] [] [(0, [2], []), (1, [0], [])] print_isWord_b1)))
  print_isWord_p1)) }

/- jacquard/print.Ok$2: 142 -/
def print_Ok_2 : Fn := { np := 1, nt := 7, ns := 1, res := [.t 2 .b], gc := false, code :=
  (.seq (.reg 0 false (.box 1 0 (.t 0)
    (.op (some 2) .mov [(.k (.c (.bool false)))]
    .nil)))
  (.seq (.reg 1 false (.op (some 3) (.addr 0) [(.t 1)]
    (.op (some 4) (.ld (.slot 0) (.i .i64)) [(.t 3)]
    (.op (some 5) (.call 158 [.b]) [(.t 4)]
    (.op (some 6) (.un .not) [(.t 5)]
    (.op (some 2) .mov [(.t 6)]
    .nil))))))
  .ret)) }

/- jacquard/print.okCond: 144 -/
def print_okCond : Fn := { np := 1, nt := 32, ns := 1, res := [.t 2 .b], gc := false, code :=
  (.seq (.reg 0 false (.box 1 0 (.t 0)
    (.op (some 2) .mov [(.k (.c (.bool false)))]
    .nil)))
  (.seq (.seq (.reg 1 false (.op (some 4) (.addr 0) [(.t 1)]
    (.op (some 5) (.ld (.slot 0) (.i .i64)) [(.t 4)]
    (.op (some 6) (.bin .eql) [(.t 5), (.k (.c (.int .i64 0)))]
    .nil))))
  (.cond (.t 6)
  (.seq (.reg 2 false (.op (some 7) (.addr 1) [(.t 1)]
    (.op (some 8) (.ld (.slot 0) .any) [(.t 7)]
    (.op (some 9) .len [(.t 8)]
    (.op (some 10) (.bin .eql) [(.t 9), (.k (.c (.int .i64 0)))]
    (.op (some 2) .mov [(.t 10)]
    .nil))))))
  .ret)
  .skip))
  (.seq (.reg 3 false (.op (some 3) .mov [(.k (.c (.fn 161 [])))]
    .nil))
  (.seq (.reg 4 false (.op (some 11) (.addr 0) [(.t 1)]
    (.op (some 12) (.ld (.slot 0) (.i .i64)) [(.t 11)]
    (.op (some 13) (.bin .eql) [(.t 12), (.k (.c (.int .i64 1)))]
    (.op (some 14) .mov [(.t 13)]
    (.sc 14 false (.op (some 15) (.addr 0) [(.t 1)]
    (.op (some 16) (.ld (.slot 0) (.i .i64)) [(.t 15)]
    (.op (some 17) (.bin .eql) [(.t 16), (.k (.c (.int .i64 2)))]
    .nil))) 17 18 true
    (.op (some 19) .mov [(.t 18)]
    (.sc 19 true (.op (some 20) (.addr 1) [(.t 1)]
    (.op (some 21) (.ld (.slot 0) .any) [(.t 20)]
    (.op (some 22) .len [(.t 21)]
    (.op (some 23) (.bin .gtr) [(.t 22), (.k (.c (.int .i64 0)))]
    .nil)))) 23 24 false
    (.op (some 25) .mov [(.t 24)]
    (.sc 25 true (.op (some 26) (.addr 1) [(.t 1)]
    (.op (some 27) (.ld (.slot 0) .any) [(.t 26)]
    (.op (some 28) .mov [(.t 3)]
    (.op (some 29) (.call 146 [.b]) [(.t 27), (.t 28)]
    (.op (some 30) (.un .not) [(.t 29)]
    .nil))))) 30 31 false
    (.op (some 2) .mov [(.t 31)]
    .nil)))))))))))
  .ret)))) }

/- jacquard/print.Ok$1$1: 154 -/
def print_Ok_1_1 : Fn := { np := 1, nt := 6, ns := 1, res := [.t 2 .b], gc := false, code :=
  (.seq (.reg 0 false (.box 1 0 (.t 0)
    (.op (some 2) .mov [(.k (.c (.bool false)))]
    .nil)))
  (.seq (.reg 1 false (.op (some 3) (.ldAll (.slot 0) 9) [(.t 1)]
    (.op (some 4) (.call 157 [.b]) [(.t 3)]
    (.op (some 5) (.un .not) [(.t 4)]
    (.op (some 2) .mov [(.t 5)]
    .nil)))))
  .ret)) }

/- jacquard/print.okIns: 157 -/
def print_okIns : Fn := { np := 1, nt := 5, ns := 1, res := [.t 2 .b], gc := false, code :=
  (.seq (.reg 0 false (.box 1 0 (.t 0)
    (.op (some 2) .mov [(.k (.c (.bool false)))]
    .nil)))
  (.seq (.reg 1 false (.op (some 3) (.ldAll (.slot 0) 9) [(.t 1)]
    (.op (some 4) (.call 159 [.b]) [(.t 3), (.k (.c (.fn 158 [])))]
    (.op (some 2) .mov [(.t 4)]
    .nil))))
  .ret)) }

/- jacquard/print.IsLoc: 158 -/
def print_IsLoc : Fn := { np := 1, nt := 9, ns := 0, res := [.t 2 .b], gc := false, code :=
  (.seq (.reg 0 false (.op (some 2) .mov [(.k (.c (.bool false)))]
    .nil))
  (.seq (.reg 1 false (.op (some 3) .mov [(.t 0)]
    (.op (some 4) (.bin .geq) [(.t 3), (.k (.c (.int .i64 97)))]
    (.op (some 5) .mov [(.t 4)]
    (.sc 5 true (.op (some 6) .mov [(.t 0)]
    (.op (some 7) (.bin .leq) [(.t 6), (.k (.c (.int .i64 122)))]
    .nil)) 7 8 false
    (.op (some 2) .mov [(.t 8)]
    .nil))))))
  .ret)) }

/- jacquard/print.Fields: 159 -/
def print_Fields : Fn := { np := 2, nt := 159, ns := 2, res := [.t 4 .b], gc := false, code :=
  (.seq (.reg 0 false (.box 2 0 (.t 0)
    (.op (some 4) .mov [(.k (.c (.bool false)))]
    .nil)))
  (.seq (.reg 1 false (.op (some 7) (.addr 0) [(.t 2)]
    (.op (some 8) (.ld (.slot 0) (.i .i64)) [(.t 7)]
    (.op (some 9) (.build (List.replicate 9 (Cell.int .i64 0)) [(0, 1)]) [(.t 8)]
    (.al 5 1 (List.replicate 9 (Cell.int .i64 0))
    (.op none (.stAll (.slot 1) 9) [(.t 5), (.t 9)]
    .nil))))))
  (.seq (.reg 2 false (.op (some 6) .mov [(.k (.c (.bool true)))]
    .nil))
  (.seq (.seq (.reg 3 false (.op (some 10) (.addr 0) [(.t 2)]
    (.op (some 11) (.ld (.slot 0) (.i .i64)) [(.t 10)]
    .nil)))
  (.blk 0 (.seq (.reg 5 false (.op (some 13) (.bin .eql) [(.t 11), (.k (.c (.int .i64 1)))]
    (.op (some 12) .mov [(.t 13)]
    .nil)))
  (.cond (.t 12)
  (.seq (.reg 6 true (.op (some 14) (.addr 2) [(.t 2)]
    (.op (some 15) (.ld (.slot 0) (.i .i64)) [(.t 14)]
    (.op (some 16) (.addr 3) [(.t 2)]
    (.op (some 17) (.ldN (.slot 0) 2) [(.t 16)]
    (.op (some 18) (.addr 2) [(.t 5)]
    (.op none (.st (.slot 1)) [(.t 18), (.t 15)]
    (.op (some 19) (.addr 3) [(.t 5)]
    (.op none (.stN (.slot 1) 2) [(.t 19), (.t 17)]
    .nil)))))))))
  (.reg 7 false (.op (some 20) .mov [(.t 1)]
    (.op (some 21) (.addr 2) [(.t 2)]
    (.op (some 22) (.ld (.slot 0) (.i .i64)) [(.t 21)]
    (.op (some 23) (.callv [.b]) [(.t 20), (.t 22)]
    (.op (some 24) .mov [(.t 23)]
    (.sc 24 true (.op (some 25) (.addr 3) [(.t 2)]
    (.op (some 26) (.ldN (.slot 0) 2) [(.t 25)]
    (.op (some 27) (.call 163 [.b]) [(.t 26)]
    .nil))) 27 28 false
    (.op (some 6) .mov [(.t 28)]
    .nil)))))))))
  (.seq (.reg 8 false (.op (some 30) (.bin .eql) [(.t 11), (.k (.c (.int .i64 2)))]
    (.op (some 29) .mov [(.t 30)]
    .nil)))
  (.cond (.t 29)
  (.seq (.reg 9 true (.op (some 31) (.addr 1) [(.t 2)]
    (.op (some 32) (.ld (.slot 0) (.i .i64)) [(.t 31)]
    (.op (some 33) (.addr 2) [(.t 2)]
    (.op (some 34) (.ld (.slot 0) (.i .i64)) [(.t 33)]
    (.op (some 35) (.addr 1) [(.t 5)]
    (.op none (.st (.slot 1)) [(.t 35), (.t 32)]
    (.op (some 36) (.addr 2) [(.t 5)]
    (.op none (.st (.slot 1)) [(.t 36), (.t 34)]
    .nil)))))))))
  (.reg 10 false (.op (some 37) .mov [(.t 1)]
    (.op (some 38) (.addr 2) [(.t 2)]
    (.op (some 39) (.ld (.slot 0) (.i .i64)) [(.t 38)]
    (.op (some 40) (.callv [.b]) [(.t 37), (.t 39)]
    (.op (some 41) .mov [(.t 40)]
    (.sc 41 true (.op (some 42) (.addr 1) [(.t 2)]
    (.op (some 43) (.ld (.slot 0) (.i .i64)) [(.t 42)]
    (.op (some 44) (.call 164 [.b]) [(.t 43)]
    .nil))) 44 45 false
    (.op (some 6) .mov [(.t 45)]
    .nil)))))))))
  (.seq (.reg 11 false (.op (some 47) (.bin .eql) [(.t 11), (.k (.c (.int .i64 3)))]
    (.op (some 46) .mov [(.t 47)]
    .nil)))
  (.cond (.t 46)
  .skip
  (.seq (.reg 12 false (.op (some 49) (.bin .eql) [(.t 11), (.k (.c (.int .i64 4)))]
    (.op (some 48) .mov [(.t 49)]
    .nil)))
  (.cond (.t 48)
  (.seq (.reg 13 true (.op (some 50) (.addr 1) [(.t 2)]
    (.op (some 51) (.ld (.slot 0) (.i .i64)) [(.t 50)]
    (.op (some 52) (.addr 2) [(.t 2)]
    (.op (some 53) (.ld (.slot 0) (.i .i64)) [(.t 52)]
    (.op (some 54) (.addr 3) [(.t 2)]
    (.op (some 55) (.ldN (.slot 0) 2) [(.t 54)]
    (.op (some 56) (.addr 6) [(.t 2)]
    (.op (some 57) (.ldN (.slot 0) 2) [(.t 56)]
    (.op (some 58) (.addr 1) [(.t 5)]
    (.op none (.st (.slot 1)) [(.t 58), (.t 51)]
    (.op (some 59) (.addr 2) [(.t 5)]
    (.op none (.st (.slot 1)) [(.t 59), (.t 53)]
    (.op (some 60) (.addr 3) [(.t 5)]
    (.op none (.stN (.slot 1) 2) [(.t 60), (.t 55)]
    (.op (some 61) (.addr 6) [(.t 5)]
    (.op none (.stN (.slot 1) 2) [(.t 61), (.t 57)]
    .nil)))))))))))))))))
  (.reg 14 false (.op (some 62) .mov [(.t 1)]
    (.op (some 63) (.addr 2) [(.t 2)]
    (.op (some 64) (.ld (.slot 0) (.i .i64)) [(.t 63)]
    (.op (some 65) (.callv [.b]) [(.t 62), (.t 64)]
    (.op (some 66) .mov [(.t 65)]
    (.sc 66 true (.op (some 67) (.addr 1) [(.t 2)]
    (.op (some 68) (.ld (.slot 0) (.i .i64)) [(.t 67)]
    (.op (some 69) (.call 164 [.b]) [(.t 68)]
    .nil))) 69 70 false
    (.op (some 71) .mov [(.t 70)]
    (.sc 71 true (.op (some 72) (.addr 3) [(.t 2)]
    (.op (some 73) (.ldN (.slot 0) 2) [(.t 72)]
    (.op (some 74) (.call 163 [.b]) [(.t 73)]
    .nil))) 74 75 false
    (.op (some 76) .mov [(.t 75)]
    (.sc 76 true (.op (some 77) (.addr 6) [(.t 2)]
    (.op (some 78) (.ldN (.slot 0) 2) [(.t 77)]
    (.op (some 79) (.call 163 [.b]) [(.t 78)]
    .nil))) 79 80 false
    (.op (some 6) .mov [(.t 80)]
    .nil)))))))))))))
  (.seq (.reg 15 false (.op (some 82) (.bin .eql) [(.t 11), (.k (.c (.int .i64 5)))]
    (.op (some 81) .mov [(.t 82)]
    .nil)))
  (.cond (.t 81)
  (.seq (.reg 16 true (.op (some 83) (.addr 1) [(.t 2)]
    (.op (some 84) (.ld (.slot 0) (.i .i64)) [(.t 83)]
    (.op (some 85) (.addr 3) [(.t 2)]
    (.op (some 86) (.ldN (.slot 0) 2) [(.t 85)]
    (.op (some 87) (.addr 5) [(.t 2)]
    (.op (some 88) (.ld (.slot 0) (.i .i64)) [(.t 87)]
    (.op (some 89) (.addr 6) [(.t 2)]
    (.op (some 90) (.ldN (.slot 0) 2) [(.t 89)]
    (.op (some 91) (.addr 1) [(.t 5)]
    (.op none (.st (.slot 1)) [(.t 91), (.t 84)]
    (.op (some 92) (.addr 3) [(.t 5)]
    (.op none (.stN (.slot 1) 2) [(.t 92), (.t 86)]
    (.op (some 93) (.addr 5) [(.t 5)]
    (.op none (.st (.slot 1)) [(.t 93), (.t 88)]
    (.op (some 94) (.addr 6) [(.t 5)]
    (.op none (.stN (.slot 1) 2) [(.t 94), (.t 90)]
    .nil)))))))))))))))))
  (.reg 17 false (.op (some 95) (.addr 1) [(.t 2)]
    (.op (some 96) (.ld (.slot 0) (.i .i64)) [(.t 95)]
    (.op (some 97) (.call 164 [.b]) [(.t 96)]
    (.op (some 98) .mov [(.t 97)]
    (.sc 98 true (.op (some 99) (.addr 3) [(.t 2)]
    (.op (some 100) (.ldN (.slot 0) 2) [(.t 99)]
    (.op (some 101) (.call 163 [.b]) [(.t 100)]
    .nil))) 101 102 false
    (.op (some 103) .mov [(.t 102)]
    (.sc 103 true (.op (some 104) (.addr 6) [(.t 2)]
    (.op (some 105) (.ldN (.slot 0) 2) [(.t 104)]
    (.op (some 106) (.call 163 [.b]) [(.t 105)]
    .nil))) 106 107 false
    (.op (some 108) .mov [(.t 107)]
    (.sc 108 true (.op (some 109) (.addr 5) [(.t 2)]
    (.op (some 110) (.ld (.slot 0) (.i .i64)) [(.t 109)]
    (.op (some 111) (.bin .geq) [(.t 110), (.k (.c (.int .i64 0)))]
    .nil))) 111 112 false
    (.op (some 113) .mov [(.t 112)]
    (.sc 113 true (.op (some 114) (.addr 5) [(.t 2)]
    (.op (some 115) (.ld (.slot 0) (.i .i64)) [(.t 114)]
    (.op (some 116) (.bin .leq) [(.t 115), (.k (.c (.int .i64 11)))]
    .nil))) 116 117 false
    (.op (some 118) .mov [(.t 117)]
    (.sc 118 true (.op (some 119) (.addr 5) [(.t 2)]
    (.op (some 120) (.ld (.slot 0) (.i .i64)) [(.t 119)]
    (.op (some 121) (.bin .gtr) [(.t 120), (.k (.c (.int .i64 0)))]
    (.op (some 122) .mov [(.t 121)]
    (.sc 122 false (.op (some 123) (.addr 6) [(.t 2)]
    (.op (some 124) (.ldN (.slot 0) 2) [(.t 123)]
    (.op (some 125) (.build ([Cell.int .i64 0, Cell.int .i64 0]) [(0, 1)]) [(.k (.c (.int .i64 (-1))))]
    (.op (some 126) (.eqA false ([Cell.int .i64 0, Cell.int .i64 0])) [(.t 124), (.t 125)]
    .nil)))) 126 127 true
    .nil))))) 127 128 false
    (.op (some 6) .mov [(.t 128)]
    .nil))))))))))))))))
  (.seq (.reg 18 false (.op (some 130) (.bin .eql) [(.t 11), (.k (.c (.int .i64 6)))]
    (.op (some 129) .mov [(.t 130)]
    .nil)))
  (.cond (.t 129)
  (.seq (.reg 19 true (.op (some 131) (.addr 8) [(.t 2)]
    (.op (some 132) (.ld (.slot 0) (.i .i64)) [(.t 131)]
    (.op (some 133) (.addr 3) [(.t 2)]
    (.op (some 134) (.ldN (.slot 0) 2) [(.t 133)]
    (.op (some 135) (.addr 6) [(.t 2)]
    (.op (some 136) (.ldN (.slot 0) 2) [(.t 135)]
    (.op (some 137) (.addr 8) [(.t 5)]
    (.op none (.st (.slot 1)) [(.t 137), (.t 132)]
    (.op (some 138) (.addr 3) [(.t 5)]
    (.op none (.stN (.slot 1) 2) [(.t 138), (.t 134)]
    (.op (some 139) (.addr 6) [(.t 5)]
    (.op none (.stN (.slot 1) 2) [(.t 139), (.t 136)]
    .nil)))))))))))))
  (.reg 20 false (.op (some 140) (.addr 8) [(.t 2)]
    (.op (some 141) (.ld (.slot 0) (.i .i64)) [(.t 140)]
    (.op (some 142) (.bin .geq) [(.t 141), (.k (.c (.int .i64 0)))]
    (.op (some 143) .mov [(.t 142)]
    (.sc 143 true (.op (some 144) (.addr 3) [(.t 2)]
    (.op (some 145) (.ldN (.slot 0) 2) [(.t 144)]
    (.op (some 146) (.call 163 [.b]) [(.t 145)]
    .nil))) 146 147 false
    (.op (some 148) .mov [(.t 147)]
    (.sc 148 true (.op (some 149) (.addr 6) [(.t 2)]
    (.op (some 150) (.ldN (.slot 0) 2) [(.t 149)]
    (.op (some 151) (.call 163 [.b]) [(.t 150)]
    .nil))) 151 152 false
    (.op (some 6) .mov [(.t 152)]
    .nil))))))))))
  (.seq (.reg 4 false (.op (some 4) .mov [(.k (.c (.bool false)))]
    .nil))
  .ret)))))))))))))))
  (.seq (.reg 21 false (.op (some 153) .mov [(.t 6)]
    (.op (some 154) .mov [(.t 153)]
    (.sc 154 true (.op (some 155) (.ldAll (.slot 0) 9) [(.t 2)]
    (.op (some 156) (.ldAll (.slot 1) 9) [(.t 5)]
    (.op (some 157) (.eqA false (List.replicate 9 (Cell.int .i64 0))) [(.t 155), (.t 156)]
    .nil))) 157 158 false
    (.op (some 4) .mov [(.t 158)]
    .nil)))))
  .ret))))) }

/- jacquard/print.okCond$1: 161 -/
def print_okCond_1 : Fn := { np := 1, nt := 10, ns := 0, res := [.t 2 .b], gc := false, code :=
  (.seq (.reg 0 false (.op (some 2) .mov [(.k (.c (.bool false)))]
    .nil))
  (.seq (.reg 1 false (.op (some 3) .mov [(.t 0)]
    (.op (some 4) .len [(.t 3)]
    (.op (some 5) (.bin .eql) [(.t 4), (.k (.c (.int .i64 0)))]
    (.op (some 6) .mov [(.t 5)]
    (.sc 6 false (.op (some 7) .mov [(.t 0)]
    (.op (some 8) (.call 132 [.b]) [(.t 7), (.k (.c (.fn 165 [])))]
    .nil)) 8 9 true
    (.op (some 2) .mov [(.t 9)]
    .nil)))))))
  .ret)) }

/- jacquard/print.isOperand: 163 -/
def print_isOperand : Fn := { np := 1, nt := 16, ns := 1, res := [.t 2 .b], gc := false, code :=
  (.seq (.reg 0 false (.box 1 0 (.t 0)
    (.op (some 2) .mov [(.k (.c (.bool false)))]
    .nil)))
  (.seq (.reg 1 false (.op (some 3) (.addr 0) [(.t 1)]
    (.op (some 4) (.ld (.slot 0) (.i .i64)) [(.t 3)]
    (.op (some 5) (.bin .eql) [(.t 4), (.k (.c (.int .i64 (-1))))]
    (.op (some 6) .mov [(.t 5)]
    (.sc 6 false (.op (some 7) (.addr 0) [(.t 1)]
    (.op (some 8) (.ld (.slot 0) (.i .i64)) [(.t 7)]
    (.op (some 9) (.call 164 [.b]) [(.t 8)]
    (.op (some 10) .mov [(.t 9)]
    (.sc 10 true (.op (some 11) (.addr 1) [(.t 1)]
    (.op (some 12) (.ld (.slot 0) (.i .i64)) [(.t 11)]
    (.op (some 13) (.bin .eql) [(.t 12), (.k (.c (.int .i64 0)))]
    .nil))) 13 14 false
    .nil))))) 14 15 true
    (.op (some 2) .mov [(.t 15)]
    .nil)))))))
  .ret)) }

/- jacquard/print.isReg: 164 -/
def print_isReg : Fn := { np := 1, nt := 9, ns := 0, res := [.t 2 .b], gc := false, code :=
  (.seq (.reg 0 false (.op (some 2) .mov [(.k (.c (.bool false)))]
    .nil))
  (.seq (.reg 1 false (.op (some 3) .mov [(.t 0)]
    (.op (some 4) (.bin .geq) [(.t 3), (.k (.c (.int .i64 0)))]
    (.op (some 5) .mov [(.t 4)]
    (.sc 5 true (.op (some 6) .mov [(.t 0)]
    (.op (some 7) (.bin .lss) [(.t 6), (.k (.c (.int .i64 4)))]
    .nil)) 7 8 false
    (.op (some 2) .mov [(.t 8)]
    .nil))))))
  .ret)) }

/- jacquard/print.okCond$1$1: 165 -/
def print_okCond_1_1 : Fn := { np := 1, nt := 6, ns := 1, res := [.t 2 .b], gc := false, code :=
  (.seq (.reg 0 false (.box 1 0 (.t 0)
    (.op (some 2) .mov [(.k (.c (.bool false)))]
    .nil)))
  (.seq (.reg 1 false (.op (some 3) (.ldAll (.slot 0) 4) [(.t 1)]
    (.op (some 4) (.call 166 [.b]) [(.t 3)]
    (.op (some 5) (.un .not) [(.t 4)]
    (.op (some 2) .mov [(.t 5)]
    .nil)))))
  .ret)) }

/- jacquard/print.okAtom: 166 -/
def print_okAtom : Fn := { np := 1, nt := 32, ns := 1, res := [.t 2 .b], gc := false, code :=
  (.seq (.reg 0 false (.box 1 0 (.t 0)
    (.op (some 2) .mov [(.k (.c (.bool false)))]
    .nil)))
  (.seq (.seq (.reg 1 false (.op (some 3) (.addr 0) [(.t 1)]
    (.op (some 4) (.ld (.slot 0) (.i .i64)) [(.t 3)]
    (.op (some 5) (.bin .eql) [(.t 4), (.k (.c (.int .i64 (-1))))]
    .nil))))
  (.cond (.t 5)
  (.seq (.reg 2 false (.op (some 6) (.addr 1) [(.t 1)]
    (.op (some 7) (.ld (.slot 0) (.i .i64)) [(.t 6)]
    (.op (some 8) (.bin .eql) [(.t 7), (.k (.c (.int .i64 0)))]
    (.op (some 9) .mov [(.t 8)]
    (.sc 9 true (.op (some 10) (.addr 2) [(.t 1)]
    (.op (some 11) (.ld (.slot 0) (.i .i64)) [(.t 10)]
    (.op (some 12) (.call 158 [.b]) [(.t 11)]
    .nil))) 12 13 false
    (.op (some 2) .mov [(.t 13)]
    .nil)))))))
  .ret)
  .skip))
  (.seq (.reg 3 false (.op (some 14) (.addr 0) [(.t 1)]
    (.op (some 15) (.ld (.slot 0) (.i .i64)) [(.t 14)]
    (.op (some 16) (.bin .geq) [(.t 15), (.k (.c (.int .i64 0)))]
    (.op (some 17) .mov [(.t 16)]
    (.sc 17 true (.op (some 18) (.addr 0) [(.t 1)]
    (.op (some 19) (.ld (.slot 0) (.i .i64)) [(.t 18)]
    (.op (some 20) (.bin .leq) [(.t 19), (.k (.c (.int .i64 9)))]
    .nil))) 20 21 false
    (.op (some 22) .mov [(.t 21)]
    (.sc 22 true (.op (some 23) (.addr 2) [(.t 1)]
    (.op (some 24) (.ld (.slot 0) (.i .i64)) [(.t 23)]
    (.op (some 25) (.bin .eql) [(.t 24), (.k (.c (.int .i64 0)))]
    .nil))) 25 26 false
    (.op (some 27) .mov [(.t 26)]
    (.sc 27 true (.op (some 28) (.addr 1) [(.t 1)]
    (.op (some 29) (.ld (.slot 0) (.i .i64)) [(.t 28)]
    (.op (some 30) (.call 164 [.b]) [(.t 29)]
    .nil))) 30 31 false
    (.op (some 2) .mov [(.t 31)]
    .nil)))))))))))
  .ret))) }


end Jq

namespace Jq
open Go

/- slices.Clone(()jacquard/api.Ins,jacquard/api.Ins): 119 -/
def slices_Clone_sIns_Ins : Fn := { np := 1, nt := 8, ns := 0, res := [.t 2 .any], gc := false, code :=
  (.seq (.reg 0 false (.op (some 2) .mov [(.k (.c .nils))]
    .nil))
  (.seq (.seq (.reg 1 false (.op (some 3) .mov [(.t 0)]
    (.op (some 4) (.eqNil false) [(.t 3), (.k (.c .nils))]
    .nil)))
  (.cond (.t 4)
  (.seq (.reg 2 false (.op (some 2) .mov [(.k (.c .nils))]
    .nil))
  .ret)
  .skip))
  (.seq (.reg 3 false (.op (some 5) (.bslice 9 0 (([] : List Cell)) []) []
    (.op (some 6) .mov [(.t 0)]
    (.op (some 7) (.app 9 72) [(.t 5), (.t 6)]
    (.op (some 2) .mov [(.t 7)]
    .nil)))))
  .ret))) }

/- slices.ContainsFunc(()()jacquard/api.Ins,()jacquard/api.Ins): 130 -/
def slices_ContainsFunc_ssIns_sIns : Fn := { np := 2, nt := 9, ns := 0, res := [.t 4 .b], gc := false, code :=
  (.seq (.reg 0 false (.op (some 4) .mov [(.k (.c (.bool false)))]
    .nil))
  (.seq (.reg 1 false (.op (some 5) .mov [(.t 0)]
    (.op (some 6) .mov [(.t 1)]
    (.op (some 7) (.call 147 [(.i .i64)]) [(.t 5), (.t 6)]
    (.op (some 8) (.bin .geq) [(.t 7), (.k (.c (.int .i64 0)))]
    (.op (some 4) .mov [(.t 8)]
    .nil))))))
  .ret)) }

/- slices.ContainsFunc(()jacquard/api.Atom,jacquard/api.Atom): 132 -/
def slices_ContainsFunc_sAtom_Atom : Fn := { np := 2, nt := 9, ns := 0, res := [.t 4 .b], gc := false, code :=
  (.seq (.reg 0 false (.op (some 4) .mov [(.k (.c (.bool false)))]
    .nil))
  (.seq (.reg 1 false (.op (some 5) .mov [(.t 0)]
    (.op (some 6) .mov [(.t 1)]
    (.op (some 7) (.call 149 [(.i .i64)]) [(.t 5), (.t 6)]
    (.op (some 8) (.bin .geq) [(.t 7), (.k (.c (.int .i64 0)))]
    (.op (some 4) .mov [(.t 8)]
    .nil))))))
  .ret)) }

/- slices.Index(()byte,byte): 134 -/
def slices_Index_sbyte_byte_b1 : IC :=
  (.seq (.reg 2 false (.op (some 9) (.bin .lss) [(.t 8), (.t 7)]
    .nil))
  (.seq (.cond (.t 9)
  .skip
  (.exit 0))
  (.seq (.blk 1 (.seq (.reg 3 false (.op (some 10) .mov [(.t 8)]
    (.op (some 5) .mov [(.t 10)]
    .nil)))
  (.seq (.reg 4 false (.op (some 11) .mov [(.t 1)]
    (.op (some 12) .mov [(.t 0)]
    (.op (some 13) .mov [(.t 5)]
    (.op (some 14) (.idxS 1) [(.t 12), (.t 13)]
    (.op (some 15) (.ld .heap (.i .u8)) [(.t 14)]
    (.op (some 16) (.bin .eql) [(.t 11), (.t 15)]
    .nil)))))))
  (.cond (.t 16)
  (.seq (.reg 5 false (.op (some 17) .mov [(.t 5)]
    (.op (some 4) .mov [(.t 17)]
    .nil)))
  .ret)
  .skip))))
  (.reg 6 false (.op (some 18) (.bin .add) [(.t 8), (.k (.c (.int .i64 1)))]
    (.op (some 8) .mov [(.t 18)]
    .nil))))))
def slices_Index_sbyte_byte_p1 : IC :=
  (.seq (.reg 7 false (.op (some 4) .mov [(.k (.c (.int .i64 (-1))))]
    .nil))
  .ret)
def slices_Index_sbyte_byte : Fn := { np := 2, nt := 19, ns := 0, res := [.t 4 (.i .i64)], gc := false, code :=
  (.seq (.reg 0 false (.op (some 4) .mov [(.k (.c (.int .i64 0)))]
    .nil))
  (.seq (.seq (.reg 1 false (.op (some 6) .mov [(.t 0)]
    (.op (some 7) .len [(.t 6)]
    (.op (some 8) .mov [(.k (.c (.int .i64 0)))]
    .nil))))
  (.blk 0 (.loop [0, 1, 7, 8] [] [(0, [4], []), (1, [], [])] slices_Index_sbyte_byte_b1)))
  slices_Index_sbyte_byte_p1)) }

/- slices.ContainsFunc(()jacquard/api.Init,jacquard/api.Init): 143 -/
def slices_ContainsFunc_sInit_Init : Fn := { np := 2, nt := 9, ns := 0, res := [.t 4 .b], gc := false, code :=
  (.seq (.reg 0 false (.op (some 4) .mov [(.k (.c (.bool false)))]
    .nil))
  (.seq (.reg 1 false (.op (some 5) .mov [(.t 0)]
    (.op (some 6) .mov [(.t 1)]
    (.op (some 7) (.call 160 [(.i .i64)]) [(.t 5), (.t 6)]
    (.op (some 8) (.bin .geq) [(.t 7), (.k (.c (.int .i64 0)))]
    (.op (some 4) .mov [(.t 8)]
    .nil))))))
  .ret)) }

/- slices.ContainsFunc(()()jacquard/api.Atom,()jacquard/api.Atom): 146 -/
def slices_ContainsFunc_ssAtom_sAtom : Fn := { np := 2, nt := 9, ns := 0, res := [.t 4 .b], gc := false, code :=
  (.seq (.reg 0 false (.op (some 4) .mov [(.k (.c (.bool false)))]
    .nil))
  (.seq (.reg 1 false (.op (some 5) .mov [(.t 0)]
    (.op (some 6) .mov [(.t 1)]
    (.op (some 7) (.call 162 [(.i .i64)]) [(.t 5), (.t 6)]
    (.op (some 8) (.bin .geq) [(.t 7), (.k (.c (.int .i64 0)))]
    (.op (some 4) .mov [(.t 8)]
    .nil))))))
  .ret)) }

/- slices.IndexFunc(()()jacquard/api.Ins,()jacquard/api.Ins): 147 -/
def slices_IndexFunc_ssIns_sIns_b1 : IC :=
  (.seq (.reg 2 false (.op (some 9) (.bin .lss) [(.t 8), (.t 7)]
    .nil))
  (.seq (.cond (.t 9)
  .skip
  (.exit 0))
  (.seq (.blk 1 (.seq (.reg 3 false (.op (some 10) .mov [(.t 8)]
    (.op (some 5) .mov [(.t 10)]
    .nil)))
  (.seq (.reg 4 false (.op (some 11) .mov [(.t 1)]
    (.op (some 12) .mov [(.t 0)]
    (.op (some 13) .mov [(.t 5)]
    (.op (some 14) (.idxS 1) [(.t 12), (.t 13)]
    (.op (some 15) (.ld .heap .any) [(.t 14)]
    (.op (some 16) (.callv [.b]) [(.t 11), (.t 15)]
    .nil)))))))
  (.cond (.t 16)
  (.seq (.reg 5 false (.op (some 17) .mov [(.t 5)]
    (.op (some 4) .mov [(.t 17)]
    .nil)))
  .ret)
  .skip))))
  (.reg 6 false (.op (some 18) (.bin .add) [(.t 8), (.k (.c (.int .i64 1)))]
    (.op (some 8) .mov [(.t 18)]
    .nil))))))
def slices_IndexFunc_ssIns_sIns_p1 : IC :=
  (.seq (.reg 7 false (.op (some 4) .mov [(.k (.c (.int .i64 (-1))))]
    .nil))
  .ret)
def slices_IndexFunc_ssIns_sIns : Fn := { np := 2, nt := 19, ns := 0, res := [.t 4 (.i .i64)], gc := false, code :=
  (.seq (.reg 0 false (.op (some 4) .mov [(.k (.c (.int .i64 0)))]
    .nil))
  (.seq (.seq (.reg 1 false (.op (some 6) .mov [(.t 0)]
    (.op (some 7) .len [(.t 6)]
    (.op (some 8) .mov [(.k (.c (.int .i64 0)))]
    .nil))))
  (.blk 0 (.loop [0, 1, 7, 8] [] [(0, [4], []), (1, [], [])] slices_IndexFunc_ssIns_sIns_b1)))
  slices_IndexFunc_ssIns_sIns_p1)) }

/- slices.IndexFunc(()jacquard/api.Atom,jacquard/api.Atom): 149 -/
def slices_IndexFunc_sAtom_Atom_b1 : IC :=
  (.seq (.reg 2 false (.op (some 9) (.bin .lss) [(.t 8), (.t 7)]
    .nil))
  (.seq (.cond (.t 9)
  .skip
  (.exit 0))
  (.seq (.blk 1 (.seq (.reg 3 false (.op (some 10) .mov [(.t 8)]
    (.op (some 5) .mov [(.t 10)]
    .nil)))
  (.seq (.reg 4 false (.op (some 11) .mov [(.t 1)]
    (.op (some 12) .mov [(.t 0)]
    (.op (some 13) .mov [(.t 5)]
    (.op (some 14) (.idxS 4) [(.t 12), (.t 13)]
    (.op (some 15) (.ldN .heap 4) [(.t 14)]
    (.op (some 16) (.callv [.b]) [(.t 11), (.t 15)]
    .nil)))))))
  (.cond (.t 16)
  (.seq (.reg 5 false (.op (some 17) .mov [(.t 5)]
    (.op (some 4) .mov [(.t 17)]
    .nil)))
  .ret)
  .skip))))
  (.reg 6 false (.op (some 18) (.bin .add) [(.t 8), (.k (.c (.int .i64 1)))]
    (.op (some 8) .mov [(.t 18)]
    .nil))))))
def slices_IndexFunc_sAtom_Atom_p1 : IC :=
  (.seq (.reg 7 false (.op (some 4) .mov [(.k (.c (.int .i64 (-1))))]
    .nil))
  .ret)
def slices_IndexFunc_sAtom_Atom : Fn := { np := 2, nt := 19, ns := 0, res := [.t 4 (.i .i64)], gc := false, code :=
  (.seq (.reg 0 false (.op (some 4) .mov [(.k (.c (.int .i64 0)))]
    .nil))
  (.seq (.seq (.reg 1 false (.op (some 6) .mov [(.t 0)]
    (.op (some 7) .len [(.t 6)]
    (.op (some 8) .mov [(.k (.c (.int .i64 0)))]
    .nil))))
  (.blk 0 (.loop [0, 1, 7, 8] [] [(0, [4], []), (1, [], [])] slices_IndexFunc_sAtom_Atom_b1)))
  slices_IndexFunc_sAtom_Atom_p1)) }

/- slices.ContainsFunc(()jacquard/api.Ins,jacquard/api.Ins): 155 -/
def slices_ContainsFunc_sIns_Ins : Fn := { np := 2, nt := 9, ns := 0, res := [.t 4 .b], gc := false, code :=
  (.seq (.reg 0 false (.op (some 4) .mov [(.k (.c (.bool false)))]
    .nil))
  (.seq (.reg 1 false (.op (some 5) .mov [(.t 0)]
    (.op (some 6) .mov [(.t 1)]
    (.op (some 7) (.call 156 [(.i .i64)]) [(.t 5), (.t 6)]
    (.op (some 8) (.bin .geq) [(.t 7), (.k (.c (.int .i64 0)))]
    (.op (some 4) .mov [(.t 8)]
    .nil))))))
  .ret)) }

/- slices.IndexFunc(()jacquard/api.Ins,jacquard/api.Ins): 156 -/
def slices_IndexFunc_sIns_Ins_b1 : IC :=
  (.seq (.reg 2 false (.op (some 9) (.bin .lss) [(.t 8), (.t 7)]
    .nil))
  (.seq (.cond (.t 9)
  .skip
  (.exit 0))
  (.seq (.blk 1 (.seq (.reg 3 false (.op (some 10) .mov [(.t 8)]
    (.op (some 5) .mov [(.t 10)]
    .nil)))
  (.seq (.reg 4 false (.op (some 11) .mov [(.t 1)]
    (.op (some 12) .mov [(.t 0)]
    (.op (some 13) .mov [(.t 5)]
    (.op (some 14) (.idxS 9) [(.t 12), (.t 13)]
    (.op (some 15) (.ldN .heap 9) [(.t 14)]
    (.op (some 16) (.callv [.b]) [(.t 11), (.t 15)]
    .nil)))))))
  (.cond (.t 16)
  (.seq (.reg 5 false (.op (some 17) .mov [(.t 5)]
    (.op (some 4) .mov [(.t 17)]
    .nil)))
  .ret)
  .skip))))
  (.reg 6 false (.op (some 18) (.bin .add) [(.t 8), (.k (.c (.int .i64 1)))]
    (.op (some 8) .mov [(.t 18)]
    .nil))))))
def slices_IndexFunc_sIns_Ins_p1 : IC :=
  (.seq (.reg 7 false (.op (some 4) .mov [(.k (.c (.int .i64 (-1))))]
    .nil))
  .ret)
def slices_IndexFunc_sIns_Ins : Fn := { np := 2, nt := 19, ns := 0, res := [.t 4 (.i .i64)], gc := false, code :=
  (.seq (.reg 0 false (.op (some 4) .mov [(.k (.c (.int .i64 0)))]
    .nil))
  (.seq (.seq (.reg 1 false (.op (some 6) .mov [(.t 0)]
    (.op (some 7) .len [(.t 6)]
    (.op (some 8) .mov [(.k (.c (.int .i64 0)))]
    .nil))))
  (.blk 0 (.loop [0, 1, 7, 8] [] [(0, [4], []), (1, [], [])] slices_IndexFunc_sIns_Ins_b1)))
  slices_IndexFunc_sIns_Ins_p1)) }

/- slices.IndexFunc(()jacquard/api.Init,jacquard/api.Init): 160 -/
def slices_IndexFunc_sInit_Init_b1 : IC :=
  (.seq (.reg 2 false (.op (some 9) (.bin .lss) [(.t 8), (.t 7)]
    .nil))
  (.seq (.cond (.t 9)
  .skip
  (.exit 0))
  (.seq (.blk 1 (.seq (.reg 3 false (.op (some 10) .mov [(.t 8)]
    (.op (some 5) .mov [(.t 10)]
    .nil)))
  (.seq (.reg 4 false (.op (some 11) .mov [(.t 1)]
    (.op (some 12) .mov [(.t 0)]
    (.op (some 13) .mov [(.t 5)]
    (.op (some 14) (.idxS 2) [(.t 12), (.t 13)]
    (.op (some 15) (.ldN .heap 2) [(.t 14)]
    (.op (some 16) (.callv [.b]) [(.t 11), (.t 15)]
    .nil)))))))
  (.cond (.t 16)
  (.seq (.reg 5 false (.op (some 17) .mov [(.t 5)]
    (.op (some 4) .mov [(.t 17)]
    .nil)))
  .ret)
  .skip))))
  (.reg 6 false (.op (some 18) (.bin .add) [(.t 8), (.k (.c (.int .i64 1)))]
    (.op (some 8) .mov [(.t 18)]
    .nil))))))
def slices_IndexFunc_sInit_Init_p1 : IC :=
  (.seq (.reg 7 false (.op (some 4) .mov [(.k (.c (.int .i64 (-1))))]
    .nil))
  .ret)
def slices_IndexFunc_sInit_Init : Fn := { np := 2, nt := 19, ns := 0, res := [.t 4 (.i .i64)], gc := false, code :=
  (.seq (.reg 0 false (.op (some 4) .mov [(.k (.c (.int .i64 0)))]
    .nil))
  (.seq (.seq (.reg 1 false (.op (some 6) .mov [(.t 0)]
    (.op (some 7) .len [(.t 6)]
    (.op (some 8) .mov [(.k (.c (.int .i64 0)))]
    .nil))))
  (.blk 0 (.loop [0, 1, 7, 8] [] [(0, [4], []), (1, [], [])] slices_IndexFunc_sInit_Init_b1)))
  slices_IndexFunc_sInit_Init_p1)) }

/- slices.IndexFunc(()()jacquard/api.Atom,()jacquard/api.Atom): 162 -/
def slices_IndexFunc_ssAtom_sAtom_b1 : IC :=
  (.seq (.reg 2 false (.op (some 9) (.bin .lss) [(.t 8), (.t 7)]
    .nil))
  (.seq (.cond (.t 9)
  .skip
  (.exit 0))
  (.seq (.blk 1 (.seq (.reg 3 false (.op (some 10) .mov [(.t 8)]
    (.op (some 5) .mov [(.t 10)]
    .nil)))
  (.seq (.reg 4 false (.op (some 11) .mov [(.t 1)]
    (.op (some 12) .mov [(.t 0)]
    (.op (some 13) .mov [(.t 5)]
    (.op (some 14) (.idxS 1) [(.t 12), (.t 13)]
    (.op (some 15) (.ld .heap .any) [(.t 14)]
    (.op (some 16) (.callv [.b]) [(.t 11), (.t 15)]
    .nil)))))))
  (.cond (.t 16)
  (.seq (.reg 5 false (.op (some 17) .mov [(.t 5)]
    (.op (some 4) .mov [(.t 17)]
    .nil)))
  .ret)
  .skip))))
  (.reg 6 false (.op (some 18) (.bin .add) [(.t 8), (.k (.c (.int .i64 1)))]
    (.op (some 8) .mov [(.t 18)]
    .nil))))))
def slices_IndexFunc_ssAtom_sAtom_p1 : IC :=
  (.seq (.reg 7 false (.op (some 4) .mov [(.k (.c (.int .i64 (-1))))]
    .nil))
  .ret)
def slices_IndexFunc_ssAtom_sAtom : Fn := { np := 2, nt := 19, ns := 0, res := [.t 4 (.i .i64)], gc := false, code :=
  (.seq (.reg 0 false (.op (some 4) .mov [(.k (.c (.int .i64 0)))]
    .nil))
  (.seq (.seq (.reg 1 false (.op (some 6) .mov [(.t 0)]
    (.op (some 7) .len [(.t 6)]
    (.op (some 8) .mov [(.k (.c (.int .i64 0)))]
    .nil))))
  (.blk 0 (.loop [0, 1, 7, 8] [] [(0, [4], []), (1, [], [])] slices_IndexFunc_ssAtom_sAtom_b1)))
  slices_IndexFunc_ssAtom_sAtom_p1)) }


end Jq

namespace Jq
open Go


end Jq

/- What a function needs of an environment. -/
namespace Jq
open Go


end Jq

namespace Jq
open Go


end Jq

/- What a function needs of an environment. -/
namespace Jq
open Go


end Jq

/- What a function needs of an environment. -/
namespace Jq
open Go

structure slices_IndexFunc_ssIns_sIns_In (E : Env) : Prop where
  fn : E.fn 147 = some slices_IndexFunc_ssIns_sIns

structure slices_ContainsFunc_ssIns_sIns_In (E : Env) : Prop where
  fn : E.fn 130 = some slices_ContainsFunc_ssIns_sIns
  c147 : slices_IndexFunc_ssIns_sIns_In E

structure slices_IndexFunc_sIns_Ins_In (E : Env) : Prop where
  fn : E.fn 156 = some slices_IndexFunc_sIns_Ins

structure slices_ContainsFunc_sIns_Ins_In (E : Env) : Prop where
  fn : E.fn 155 = some slices_ContainsFunc_sIns_Ins
  c156 : slices_IndexFunc_sIns_Ins_In E

structure slices_IndexFunc_sInit_Init_In (E : Env) : Prop where
  fn : E.fn 160 = some slices_IndexFunc_sInit_Init

structure slices_ContainsFunc_sInit_Init_In (E : Env) : Prop where
  fn : E.fn 143 = some slices_ContainsFunc_sInit_Init
  c160 : slices_IndexFunc_sInit_Init_In E

structure slices_IndexFunc_ssAtom_sAtom_In (E : Env) : Prop where
  fn : E.fn 162 = some slices_IndexFunc_ssAtom_sAtom

structure slices_ContainsFunc_ssAtom_sAtom_In (E : Env) : Prop where
  fn : E.fn 146 = some slices_ContainsFunc_ssAtom_sAtom
  c162 : slices_IndexFunc_ssAtom_sAtom_In E

structure slices_IndexFunc_sAtom_Atom_In (E : Env) : Prop where
  fn : E.fn 149 = some slices_IndexFunc_sAtom_Atom

structure slices_ContainsFunc_sAtom_Atom_In (E : Env) : Prop where
  fn : E.fn 132 = some slices_ContainsFunc_sAtom_Atom
  c149 : slices_IndexFunc_sAtom_Atom_In E

structure slices_Index_sbyte_byte_In (E : Env) : Prop where
  fn : E.fn 134 = some slices_Index_sbyte_byte

structure slices_Clone_sIns_Ins_In (E : Env) : Prop where
  fn : E.fn 119 = some slices_Clone_sIns_Ins

end Jq

/- What a function needs of an environment. -/
namespace Jq
open Go

structure print_IsLoc_In (E : Env) : Prop where
  fn : E.fn 158 = some print_IsLoc

structure print_isReg_In (E : Env) : Prop where
  fn : E.fn 164 = some print_isReg

structure print_isOperand_In (E : Env) : Prop where
  fn : E.fn 163 = some print_isOperand
  c164 : print_isReg_In E

structure print_Fields_In (E : Env) : Prop where
  fn : E.fn 159 = some print_Fields
  c163 : print_isOperand_In E
  c164 : print_isReg_In E

structure print_okIns_In (E : Env) : Prop where
  fn : E.fn 157 = some print_okIns
  c158 : print_IsLoc_In E
  c159 : print_Fields_In E

structure print_Ok_1_1_In (E : Env) : Prop where
  fn : E.fn 154 = some print_Ok_1_1
  c157 : print_okIns_In E

structure print_Ok_1_In (E : Env) : Prop where
  fn : E.fn 140 = some print_Ok_1
  c154 : print_Ok_1_1_In E
  c155 : slices_ContainsFunc_sIns_Ins_In E

structure print_isWord_In (E : Env) : Prop where
  fn : E.fn 141 = some print_isWord

structure print_Ok_2_In (E : Env) : Prop where
  fn : E.fn 142 = some print_Ok_2
  c158 : print_IsLoc_In E

structure print_okAtom_In (E : Env) : Prop where
  fn : E.fn 166 = some print_okAtom
  c158 : print_IsLoc_In E
  c164 : print_isReg_In E

structure print_okCond_1_1_In (E : Env) : Prop where
  fn : E.fn 165 = some print_okCond_1_1
  c166 : print_okAtom_In E

structure print_okCond_1_In (E : Env) : Prop where
  fn : E.fn 161 = some print_okCond_1
  c132 : slices_ContainsFunc_sAtom_Atom_In E
  c165 : print_okCond_1_1_In E

structure print_okCond_In (E : Env) : Prop where
  fn : E.fn 144 = some print_okCond
  c146 : slices_ContainsFunc_ssAtom_sAtom_In E
  c161 : print_okCond_1_In E

structure print_Ok_In (E : Env) : Prop where
  fn : E.fn 126 = some print_Ok
  c130 : slices_ContainsFunc_ssIns_sIns_In E
  c140 : print_Ok_1_In E
  c141 : print_isWord_In E
  c142 : print_Ok_2_In E
  c143 : slices_ContainsFunc_sInit_Init_In E
  c144 : print_okCond_In E

end Jq

namespace Jq
open Go

/- jacquard/well.Check: 116 -/
def well_Check_b1 : IC :=
  (.seq (.reg 10 false (.op (some 25) (.bin .lss) [(.t 24), (.t 23)]
    .nil))
  (.seq (.cond (.t 25)
  .skip
  (.exit 1))
  (.seq (.blk 2 (.seq (.reg 11 false (.op (some 26) (.idxS 1) [(.t 22), (.t 24)]
    (.op (some 27) (.ld .heap .any) [(.t 26)]
    (.op (some 4) .mov [(.t 27)]
    .nil))))
  (.seq (.reg 12 false (.op (some 28) .mov [(.t 4)]
    (.op (some 29) (.mkfn 131) [(.t 1)]
    (.op (some 30) (.call 132 [.b]) [(.t 28), (.t 29)]
    .nil))))
  (.cond (.t 30)
  (.seq (.reg 13 false (.op (some 2) .mov [(.k (.c (.int .i64 10)))]
    .nil))
  .ret)
  .skip))))
  (.reg 14 false (.op (some 31) (.bin .add) [(.t 24), (.k (.c (.int .i64 1)))]
    (.op (some 24) .mov [(.t 31)]
    .nil))))))
def well_Check_p1 : IC :=
  (.seq (.reg 15 false (.op (some 2) .mov [(.k (.c (.int .i64 0)))]
    .nil))
  .ret)
def well_Check : Fn := { np := 1, nt := 32, ns := 0, res := [.t 2 (.i .i64)], gc := true, code :=
  (.seq (.reg 0 false (.op (some 1) .boxH [(.t 0)]
    (.op (some 2) .mov [(.k (.c (.int .i64 0)))]
    .nil)))
  (.seq (.blk 0 (.seq (.reg 1 false (.op (some 6) (.ldAll .heap 5) [(.t 1)]
    (.op (some 7) (.call 126 [.b]) [(.t 6)]
    (.op (some 8) (.un .not) [(.t 7)]
    (.op (some 5) .mov [(.t 8)]
    .nil)))))
  (.cond (.t 5)
  (.seq (.reg 2 false (.op (some 2) .mov [(.k (.c (.int .i64 1)))]
    .nil))
  .ret)
  (.seq (.reg 3 false (.op (some 10) (.ldAll .heap 5) [(.t 1)]
    (.op (some 11) (.call 127 [.b]) [(.t 10)]
    (.op (some 9) .mov [(.t 11)]
    .nil))))
  (.cond (.t 9)
  (.seq (.reg 4 false (.op (some 2) .mov [(.k (.c (.int .i64 8)))]
    .nil))
  .ret)
  (.seq (.reg 5 false (.op (some 13) (.addr 1) [(.t 1)]
    (.op (some 14) (.ld .heap .any) [(.t 13)]
    (.op (some 15) (.call 128 [.b]) [(.t 14)]
    (.op (some 12) .mov [(.t 15)]
    .nil)))))
  (.cond (.t 12)
  (.seq (.reg 6 false (.op (some 2) .mov [(.k (.c (.int .i64 9)))]
    .nil))
  .ret)
  (.seq (.reg 7 false (.op (some 17) (.addr 2) [(.t 1)]
    (.op (some 18) (.ld .heap .any) [(.t 17)]
    (.op (some 19) (.call 130 [.b]) [(.t 18), (.k (.c (.fn 129 [])))]
    (.op (some 16) .mov [(.t 19)]
    .nil)))))
  (.cond (.t 16)
  (.seq (.reg 8 false (.op (some 2) .mov [(.k (.c (.int .i64 10)))]
    .nil))
  .ret)
  .skip)))))))))
  (.seq (.seq (.reg 9 false (.op (some 20) (.addr 3) [(.t 1)]
    (.op (some 21) (.addr 1) [(.t 20)]
    (.op (some 22) (.ld .heap .any) [(.t 21)]
    (.op (some 23) .len [(.t 22)]
    (.op (some 24) .mov [(.k (.c (.int .i64 0)))]
    .nil))))))
  (.blk 1 (.loop [1, 22, 23, 24] [] [(0, [2], []), (2, [], [])] well_Check_b1)))
  well_Check_p1))) }

/- jacquard/well.Locs: 117 -/
def well_Locs_b1 : IC :=
  (.seq (.reg 4 false (.op (some 9) (.bin .lss) [(.t 8), (.k (.c (.int .i64 26)))]
    .nil))
  (.seq (.cond (.t 9)
  .skip
  (.exit 0))
  (.seq (.blk 1 (.seq (.reg 5 false (.op (some 10) .mov [(.t 8)]
    (.op (some 5) .mov [(.t 10)]
    .nil)))
  (.seq (.reg 6 false (.op (some 11) .mov [(.t 4)]
    (.op (some 12) .mov [(.t 5)]
    (.op (some 13) (.bin .shr) [(.t 11), (.t 12)]
    (.op (some 14) (.bin .and) [(.t 13), (.k (.c (.int .u64 1)))]
    (.op (some 15) (.bin .eql) [(.t 14), (.k (.c (.int .u64 1)))]
    .nil))))))
  (.cond (.t 15)
  (.reg 7 false (.op (some 16) .mov [(.t 3)]
    (.op (some 17) .mov [(.t 5)]
    (.op (some 18) (.conv .u8) [(.t 17)]
    (.op (some 19) (.bin .add) [(.k (.c (.int .u8 97))), (.t 18)]
    (.op (some 20) (.lit 1 1 ([Cell.int .u8 0]) [(0, 1)]) [(.t 19)]
    (.op (some 21) (.app 1 1) [(.t 16), (.t 20)]
    (.op (some 3) .mov [(.t 21)]
    .nil))))))))
  .skip))))
  (.reg 8 false (.op (some 22) (.bin .add) [(.t 8), (.k (.c (.int .i64 1)))]
    (.op (some 8) .mov [(.t 22)]
    .nil))))))
def well_Locs_p1 : IC :=
  (.seq (.reg 9 false (.op (some 23) .mov [(.t 3)]
    (.op (some 2) .mov [(.t 23)]
    .nil)))
  .ret)
def well_Locs : Fn := { np := 1, nt := 24, ns := 1, res := [.t 2 .any], gc := false, code :=
  (.seq (.reg 0 false (.box 1 0 (.t 0)
    (.op (some 2) .mov [(.k (.c .nils))]
    .nil)))
  (.seq (.reg 1 false (.op (some 3) .mov [(.k (.c .nils))]
    .nil))
  (.seq (.reg 2 false (.op (some 6) (.ldAll (.slot 0) 5) [(.t 1)]
    (.op (some 7) (.call 133 [(.i .u64)]) [(.t 6)]
    (.op (some 4) .mov [(.t 7)]
    .nil))))
  (.seq (.seq (.reg 3 false (.op (some 8) .mov [(.k (.c (.int .i64 0)))]
    .nil))
  (.blk 0 (.loop [3, 4, 8] [] [(1, [3], [])] well_Locs_b1)))
  well_Locs_p1)))) }

/- jacquard/well.big: 127 -/
def well_big_b1 : IC :=
  (.seq (.reg 3 false (.op (some 11) (.bin .lss) [(.t 10), (.t 9)]
    .nil))
  (.seq (.cond (.t 11)
  .skip
  (.exit 0))
  (.seq (.blk 1 (.seq (.reg 4 false (.op (some 12) (.idxS 1) [(.t 8), (.t 10)]
    (.op (some 13) (.ld .heap .any) [(.t 12)]
    (.op (some 5) .mov [(.t 13)]
    .nil))))
  (.seq (.seq (.reg 5 false (.op (some 14) .mov [(.t 5)]
    (.op (some 15) .len [(.t 14)]
    (.op (some 16) (.bin .gtr) [(.t 15), (.k (.c (.int .i64 10)))]
    .nil))))
  (.cond (.t 16)
  (.seq (.reg 6 false (.op (some 2) .mov [(.k (.c (.bool true)))]
    .nil))
  .ret)
  .skip))
  (.reg 7 false (.op (some 17) .mov [(.t 3)]
    (.op (some 18) .mov [(.t 5)]
    (.op (some 19) .len [(.t 18)]
    (.op (some 20) (.bin .add) [(.t 17), (.t 19)]
    (.op (some 3) .mov [(.t 20)]
    .nil)))))))))
  (.reg 8 false (.op (some 21) (.bin .add) [(.t 10), (.k (.c (.int .i64 1)))]
    (.op (some 10) .mov [(.t 21)]
    .nil))))))
def well_big_p1 : IC :=
  (.seq (.reg 9 false (.op (some 6) .mov [(.k (.c (.fn 145 [])))]
    .nil))
  (.seq (.reg 10 false (.op (some 22) (.addr 2) [(.t 1)]
    (.op (some 23) (.ld (.slot 0) .any) [(.t 22)]
    (.op (some 24) .len [(.t 23)]
    (.op (some 25) (.bin .eql) [(.t 24), (.k (.c (.int .i64 0)))]
    (.op (some 26) .mov [(.t 25)]
    (.sc 26 false (.op (some 27) (.addr 2) [(.t 1)]
    (.op (some 28) (.ld (.slot 0) .any) [(.t 27)]
    (.op (some 29) .len [(.t 28)]
    (.op (some 30) (.bin .gtr) [(.t 29), (.k (.c (.int .i64 4)))]
    .nil)))) 30 31 true
    (.op (some 32) .mov [(.t 31)]
    (.sc 32 false (.op (some 33) .mov [(.t 3)]
    (.op (some 34) (.bin .gtr) [(.t 33), (.k (.c (.int .i64 24)))]
    .nil)) 34 35 true
    (.op (some 36) .mov [(.t 35)]
    (.sc 36 false (.op (some 37) (.ldAll (.slot 0) 5) [(.t 1)]
    (.op (some 38) (.call 117 [.any]) [(.t 37)]
    (.op (some 39) .len [(.t 38)]
    (.op (some 40) (.bin .gtr) [(.t 39), (.k (.c (.int .i64 4)))]
    .nil)))) 40 41 true
    (.op (some 42) .mov [(.t 41)]
    (.sc 42 false (.op (some 43) (.addr 3) [(.t 1)]
    (.op (some 44) (.addr 1) [(.t 43)]
    (.op (some 45) (.ld (.slot 0) .any) [(.t 44)]
    (.op (some 46) .len [(.t 45)]
    (.op (some 47) (.bin .gtr) [(.t 46), (.k (.c (.int .i64 8)))]
    .nil))))) 47 48 true
    (.op (some 49) .mov [(.t 48)]
    (.sc 49 false (.op (some 50) (.addr 3) [(.t 1)]
    (.op (some 51) (.addr 1) [(.t 50)]
    (.op (some 52) (.ld (.slot 0) .any) [(.t 51)]
    (.op (some 53) .mov [(.t 6)]
    (.op (some 54) (.call 146 [.b]) [(.t 52), (.t 53)]
    .nil))))) 54 55 true
    (.op (some 56) .mov [(.t 55)]
    (.sc 56 false (.op (some 57) (.addr 0) [(.t 1)]
    (.op (some 58) (.ld (.slot 0) .s) [(.t 57)]
    (.op (some 59) .lenStr [(.t 58)]
    (.op (some 60) (.bin .gtr) [(.t 59), (.k (.c (.int .i64 20)))]
    .nil)))) 60 61 true
    (.op (some 2) .mov [(.t 61)]
    .nil))))))))))))))))))
  .ret))
def well_big : Fn := { np := 1, nt := 62, ns := 1, res := [.t 2 .b], gc := false, code :=
  (.seq (.reg 0 false (.box 1 0 (.t 0)
    (.op (some 2) .mov [(.k (.c (.bool false)))]
    .nil)))
  (.seq (.reg 1 false (.op (some 3) .mov [(.k (.c (.int .i64 0)))]
    .nil))
  (.seq (.seq (.reg 2 false (.op (some 7) (.addr 2) [(.t 1)]
    (.op (some 8) (.ld (.slot 0) .any) [(.t 7)]
    (.op (some 9) .len [(.t 8)]
    (.op (some 10) .mov [(.k (.c (.int .i64 0)))]
    .nil)))))
  (.blk 0 (.loop [1, 3, 8, 9, 10] [0] [(0, [2], []), (1, [1, 3], [0])] well_big_b1)))
  well_big_p1))) }

/- jacquard/well.twice: 128 -/
def well_twice_b1 : IC :=
  (.seq (.reg 3 false (.op (some 9) (.bin .lss) [(.t 8), (.t 7)]
    .nil))
  (.seq (.cond (.t 9)
  .skip
  (.exit 0))
  (.seq (.blk 1 (.seq (.reg 4 false (.op (some 10) (.idxS 2) [(.t 6), (.t 8)]
    (.op (some 11) (.ldN .heap 2) [(.t 10)]
    (.al 5 0 ([Cell.int .i64 0, Cell.int .i64 0])
    (.op none (.stAll (.slot 0) 2) [(.t 5), (.t 11)]
    .nil)))))
  (.seq (.seq (.reg 5 false (.op (some 12) .mov [(.t 3)]
    (.op (some 13) (.addr 0) [(.t 5)]
    (.op (some 14) (.ld (.slot 0) (.i .i64)) [(.t 13)]
    (.op (some 15) (.bin .sub) [(.t 14), (.k (.c (.int .i64 97)))]
    (.op (some 16) (.bin .shr) [(.t 12), (.t 15)]
    (.op (some 17) (.bin .and) [(.t 16), (.k (.c (.int .u64 1)))]
    (.op (some 18) (.bin .eql) [(.t 17), (.k (.c (.int .u64 1)))]
    .nil))))))))
  (.cond (.t 18)
  (.seq (.reg 6 false (.op (some 2) .mov [(.k (.c (.bool true)))]
    .nil))
  .ret)
  .skip))
  (.reg 7 false (.op (some 19) .mov [(.t 3)]
    (.op (some 20) (.addr 0) [(.t 5)]
    (.op (some 21) (.ld (.slot 0) (.i .i64)) [(.t 20)]
    (.op (some 22) (.bin .sub) [(.t 21), (.k (.c (.int .i64 97)))]
    (.op (some 23) (.bin .shl) [(.k (.c (.int .u64 1))), (.t 22)]
    (.op (some 24) (.bin .or) [(.t 19), (.t 23)]
    (.op (some 3) .mov [(.t 24)]
    .nil)))))))))))
  (.reg 8 false (.op (some 25) (.bin .add) [(.t 8), (.k (.c (.int .i64 1)))]
    (.op (some 8) .mov [(.t 25)]
    .nil))))))
def well_twice_p1 : IC :=
  (.seq (.reg 9 false (.op (some 2) .mov [(.k (.c (.bool false)))]
    .nil))
  .ret)
def well_twice : Fn := { np := 1, nt := 26, ns := 1, res := [.t 2 .b], gc := false, code :=
  (.seq (.reg 0 false (.op (some 2) .mov [(.k (.c (.bool false)))]
    .nil))
  (.seq (.reg 1 false (.op (some 3) .mov [(.k (.c (.int .u64 0)))]
    .nil))
  (.seq (.seq (.reg 2 false (.op (some 6) .mov [(.t 0)]
    (.op (some 7) .len [(.t 6)]
    (.op (some 8) .mov [(.k (.c (.int .i64 0)))]
    .nil))))
  (.blk 0 (.loop [3, 6, 7, 8] [] [(0, [2], []), (1, [], [])] well_twice_b1)))
  well_twice_p1))) }

/- jacquard/well.Check$1: 129 -/
def well_Check_1 : Fn := { np := 1, nt := 6, ns := 0, res := [.t 2 .b], gc := false, code :=
  (.seq (.reg 0 false (.op (some 2) .mov [(.k (.c (.bool false)))]
    .nil))
  (.seq (.reg 1 false (.op (some 3) .mov [(.t 0)]
    (.op (some 4) (.call 148 [.b]) [(.t 3)]
    (.op (some 5) (.un .not) [(.t 4)]
    (.op (some 2) .mov [(.t 5)]
    .nil)))))
  .ret)) }

/- jacquard/well.Check$2: 131 -/
def well_Check_2 : Fn := { np := 2, nt := 15, ns := 1, res := [.t 3 .b], gc := false, code :=
  (.seq (.reg 0 false (.box 2 0 (.t 0)
    (.op (some 3) .mov [(.k (.c (.bool false)))]
    .nil)))
  (.seq (.reg 1 false (.op (some 4) (.addr 0) [(.t 2)]
    (.op (some 5) (.ld (.slot 0) (.i .i64)) [(.t 4)]
    (.op (some 6) (.bin .neq) [(.t 5), (.k (.c (.int .i64 (-1))))]
    (.op (some 7) .mov [(.t 6)]
    (.sc 7 true (.op (some 8) (.addr 0) [(.t 2)]
    (.op (some 9) (.ld (.slot 0) (.i .i64)) [(.t 8)]
    (.op (some 10) (.addr 2) [(.t 1)]
    (.op (some 11) (.ld .heap .any) [(.t 10)]
    (.op (some 12) .len [(.t 11)]
    (.op (some 13) (.bin .geq) [(.t 9), (.t 12)]
    .nil)))))) 13 14 false
    (.op (some 3) .mov [(.t 14)]
    .nil)))))))
  .ret)) }

/- jacquard/well.letters: 133 -/
def well_letters_b1 : IC :=
  (.seq (.reg 4 false (.op (some 20) (.bin .lss) [(.t 19), (.t 18)]
    .nil))
  (.seq (.cond (.t 20)
  .skip
  (.exit 0))
  (.seq (.blk 1 (.seq (.reg 5 false (.op (some 21) (.idxS 2) [(.t 17), (.t 19)]
    (.op (some 22) (.ldN .heap 2) [(.t 21)]
    (.al 6 1 ([Cell.int .i64 0, Cell.int .i64 0])
    (.op none (.stAll (.slot 1) 2) [(.t 6), (.t 22)]
    .nil)))))
  (.reg 6 false (.op (some 23) .mov [(.t 4)]
    (.op (some 24) (.addr 0) [(.t 6)]
    (.op (some 25) (.ld (.slot 1) (.i .i64)) [(.t 24)]
    (.op (some 26) (.callv []) [(.t 23), (.t 25)]
    .nil)))))))
  (.reg 7 false (.op (some 27) (.bin .add) [(.t 19), (.k (.c (.int .i64 1)))]
    (.op (some 19) .mov [(.t 27)]
    .nil))))))
def well_letters_b2 : IC :=
  (.seq (.reg 12 false (.op (some 38) (.bin .lss) [(.t 37), (.t 36)]
    .nil))
  (.seq (.cond (.t 38)
  .skip
  (.exit 4))
  (.seq (.blk 5 (.seq (.reg 13 false (.op (some 39) (.idxS 9) [(.t 35), (.t 37)]
    (.op (some 40) (.ldN .heap 9) [(.t 39)]
    (.al 10 2 (List.replicate 9 (Cell.int .i64 0))
    (.op none (.stAll (.slot 2) 9) [(.t 10), (.t 40)]
    .nil)))))
  (.reg 14 false (.op (some 41) .mov [(.t 4)]
    (.op (some 42) (.addr 2) [(.t 10)]
    (.op (some 43) (.ld (.slot 2) (.i .i64)) [(.t 42)]
    (.op (some 44) (.callv []) [(.t 41), (.t 43)]
    .nil)))))))
  (.reg 15 false (.op (some 45) (.bin .add) [(.t 37), (.k (.c (.int .i64 1)))]
    (.op (some 37) .mov [(.t 45)]
    .nil))))))
def well_letters_p3 : IC :=
  (.reg 16 false (.op (some 46) (.bin .add) [(.t 31), (.k (.c (.int .i64 1)))]
    (.op (some 31) .mov [(.t 46)]
    .nil)))
def well_letters_b3 : IC :=
  (.seq (.reg 9 false (.op (some 32) (.bin .lss) [(.t 31), (.t 30)]
    .nil))
  (.seq (.cond (.t 32)
  .skip
  (.exit 2))
  (.seq (.blk 3 (.seq (.reg 10 false (.op (some 33) (.idxS 1) [(.t 29), (.t 31)]
    (.op (some 34) (.ld .heap .any) [(.t 33)]
    (.op (some 8) .mov [(.t 34)]
    .nil))))
  (.seq (.reg 11 false (.op (some 35) .mov [(.t 8)]
    (.op (some 36) .len [(.t 35)]
    (.op (some 37) .mov [(.k (.c (.int .i64 0)))]
    .nil))))
  (.blk 4 (.loop [1, 3, 4, 29, 30, 31, 35, 36, 37] [0] [(5, [1, 3, 4, 29, 30, 31], [0])] well_letters_b2)))))
  well_letters_p3)))
def well_letters_b4 : IC :=
  (.seq (.reg 21 false (.op (some 58) (.bin .lss) [(.t 57), (.t 56)]
    .nil))
  (.seq (.cond (.t 58)
  .skip
  (.exit 8))
  (.seq (.blk 9 (.seq (.reg 22 false (.op (some 59) (.idxS 4) [(.t 55), (.t 57)]
    (.op (some 60) (.ldN .heap 4) [(.t 59)]
    (.al 14 3 ([Cell.int .i64 0, Cell.int .i64 0, Cell.int .i64 0, Cell.int .i64 0])
    (.op none (.stAll (.slot 3) 4) [(.t 14), (.t 60)]
    .nil)))))
  (.reg 23 false (.op (some 61) .mov [(.t 4)]
    (.op (some 62) (.addr 2) [(.t 14)]
    (.op (some 63) (.ld (.slot 3) (.i .i64)) [(.t 62)]
    (.op (some 64) (.callv []) [(.t 61), (.t 63)]
    .nil)))))))
  (.reg 24 false (.op (some 65) (.bin .add) [(.t 57), (.k (.c (.int .i64 1)))]
    (.op (some 57) .mov [(.t 65)]
    .nil))))))
def well_letters_p5 : IC :=
  (.reg 25 false (.op (some 66) (.bin .add) [(.t 51), (.k (.c (.int .i64 1)))]
    (.op (some 51) .mov [(.t 66)]
    .nil)))
def well_letters_b5 : IC :=
  (.seq (.reg 18 false (.op (some 52) (.bin .lss) [(.t 51), (.t 50)]
    .nil))
  (.seq (.cond (.t 52)
  .skip
  (.exit 6))
  (.seq (.blk 7 (.seq (.reg 19 false (.op (some 53) (.idxS 1) [(.t 49), (.t 51)]
    (.op (some 54) (.ld .heap .any) [(.t 53)]
    (.op (some 12) .mov [(.t 54)]
    .nil))))
  (.seq (.reg 20 false (.op (some 55) .mov [(.t 12)]
    (.op (some 56) .len [(.t 55)]
    (.op (some 57) .mov [(.k (.c (.int .i64 0)))]
    .nil))))
  (.blk 8 (.loop [3, 4, 49, 50, 51, 55, 56, 57] [] [(9, [3, 4, 49, 50, 51], [])] well_letters_b4)))))
  well_letters_p5)))
def well_letters_p4 : IC :=
  (.seq (.reg 26 false (.op (some 67) (.ld .heap (.i .u64)) [(.t 3)]
    (.op (some 2) .mov [(.t 67)]
    .nil)))
  .ret)
def well_letters_p2 : IC :=
  (.seq (.seq (.reg 17 false (.op (some 47) (.addr 3) [(.t 1)]
    (.op (some 48) (.addr 1) [(.t 47)]
    (.op (some 49) (.ld (.slot 0) .any) [(.t 48)]
    (.op (some 50) .len [(.t 49)]
    (.op (some 51) .mov [(.k (.c (.int .i64 0)))]
    .nil))))))
  (.blk 6 (.loop [3, 4, 49, 50, 51] [] [(7, [3], [])] well_letters_b5)))
  well_letters_p4)
def well_letters_p1 : IC :=
  (.seq (.seq (.reg 8 false (.op (some 28) (.addr 2) [(.t 1)]
    (.op (some 29) (.ld (.slot 0) .any) [(.t 28)]
    (.op (some 30) .len [(.t 29)]
    (.op (some 31) .mov [(.k (.c (.int .i64 0)))]
    .nil)))))
  (.blk 2 (.loop [1, 3, 4, 29, 30, 31] [0] [(3, [1, 3, 4], [0])] well_letters_b3)))
  well_letters_p2)
def well_letters : Fn := { np := 1, nt := 68, ns := 4, res := [.t 2 (.i .u64)], gc := true, code :=
  (.seq (.reg 0 false (.box 1 0 (.t 0)
    (.op (some 2) .mov [(.k (.c (.int .u64 0)))]
    .nil)))
  (.seq (.reg 1 false (.op (some 3) (.allocH ([Cell.int .u64 0])) []
    .nil))
  (.seq (.reg 2 false (.op (some 15) (.mkfn 150) [(.t 3)]
    (.op (some 4) .mov [(.t 15)]
    .nil)))
  (.seq (.seq (.reg 3 false (.op (some 16) (.addr 1) [(.t 1)]
    (.op (some 17) (.ld (.slot 0) .any) [(.t 16)]
    (.op (some 18) .len [(.t 17)]
    (.op (some 19) .mov [(.k (.c (.int .i64 0)))]
    .nil)))))
  (.blk 0 (.loop [1, 3, 4, 17, 18, 19] [0] [(1, [1, 3, 4], [0])] well_letters_b1)))
  well_letters_p1)))) }

/- jacquard/well.big$1: 145 -/
def well_big_1 : Fn := { np := 1, nt := 6, ns := 0, res := [.t 2 .b], gc := false, code :=
  (.seq (.reg 0 false (.op (some 2) .mov [(.k (.c (.bool false)))]
    .nil))
  (.seq (.reg 1 false (.op (some 3) .mov [(.t 0)]
    (.op (some 4) .len [(.t 3)]
    (.op (some 5) (.bin .gtr) [(.t 4), (.k (.c (.int .i64 8)))]
    (.op (some 2) .mov [(.t 5)]
    .nil)))))
  .ret)) }

/- jacquard/well.Jumps: 148 -/
def well_Jumps_b1 : IC :=
  (.seq (.reg 2 false (.op (some 8) (.bin .lss) [(.t 7), (.t 6)]
    .nil))
  (.seq (.cond (.t 8)
  .skip
  (.exit 0))
  (.seq (.blk 1 (.seq (.reg 3 false (.op (some 9) .mov [(.t 7)]
    (.op (some 10) (.idxS 9) [(.t 5), (.t 7)]
    (.op (some 11) (.ldN .heap 9) [(.t 10)]
    (.al 4 0 (List.replicate 9 (Cell.int .i64 0))
    (.op (some 3) .mov [(.t 9)]
    (.op none (.stAll (.slot 0) 9) [(.t 4), (.t 11)]
    .nil)))))))
  (.seq (.reg 4 false (.op (some 12) (.addr 0) [(.t 4)]
    (.op (some 13) (.ld (.slot 0) (.i .i64)) [(.t 12)]
    (.op (some 14) (.bin .eql) [(.t 13), (.k (.c (.int .i64 6)))]
    (.op (some 15) .mov [(.t 14)]
    (.sc 15 true (.op (some 16) (.addr 8) [(.t 4)]
    (.op (some 17) (.ld (.slot 0) (.i .i64)) [(.t 16)]
    (.op (some 18) (.bin .lss) [(.t 17), (.k (.c (.int .i64 1)))]
    (.op (some 19) .mov [(.t 18)]
    (.sc 19 false (.op (some 20) (.addr 8) [(.t 4)]
    (.op (some 21) (.ld (.slot 0) (.i .i64)) [(.t 20)]
    (.op (some 22) .mov [(.t 0)]
    (.op (some 23) .len [(.t 22)]
    (.op (some 24) .mov [(.t 3)]
    (.op (some 25) (.bin .sub) [(.t 23), (.t 24)]
    (.op (some 26) (.bin .sub) [(.t 25), (.k (.c (.int .i64 1)))]
    (.op (some 27) (.bin .gtr) [(.t 21), (.t 26)]
    .nil)))))))) 27 28 true
    .nil))))) 28 29 false
    .nil))))))
  (.cond (.t 29)
  (.seq (.reg 5 false (.op (some 2) .mov [(.k (.c (.bool false)))]
    .nil))
  .ret)
  .skip))))
  (.reg 6 false (.op (some 30) (.bin .add) [(.t 7), (.k (.c (.int .i64 1)))]
    (.op (some 7) .mov [(.t 30)]
    .nil))))))
def well_Jumps_p1 : IC :=
  (.seq (.reg 7 false (.op (some 2) .mov [(.k (.c (.bool true)))]
    .nil))
  .ret)
def well_Jumps : Fn := { np := 1, nt := 31, ns := 1, res := [.t 2 .b], gc := false, code :=
  (.seq (.reg 0 false (.op (some 2) .mov [(.k (.c (.bool false)))]
    .nil))
  (.seq (.seq (.reg 1 false (.op (some 5) .mov [(.t 0)]
    (.op (some 6) .len [(.t 5)]
    (.op (some 7) .mov [(.k (.c (.int .i64 0)))]
    .nil))))
  (.blk 0 (.loop [0, 5, 6, 7] [] [(0, [2], []), (1, [], [])] well_Jumps_b1)))
  well_Jumps_p1)) }

/- jacquard/well.letters$1: 150 -/
def well_letters_1 : Fn := { np := 2, nt := 10, ns := 0, res := [], gc := false, code :=
  (.seq (.reg 0 false (.op (some 3) .mov [(.t 0)]
    (.op (some 4) (.call 158 [.b]) [(.t 3)]
    .nil)))
  (.cond (.t 4)
  (.reg 1 true (.op (some 5) (.ld .heap (.i .u64)) [(.t 1)]
    (.op (some 6) .mov [(.t 0)]
    (.op (some 7) (.bin .sub) [(.t 6), (.k (.c (.int .i64 97)))]
    (.op (some 8) (.bin .shl) [(.k (.c (.int .u64 1))), (.t 7)]
    (.op (some 9) (.bin .or) [(.t 5), (.t 8)]
    (.op none (.st .heap) [(.t 1), (.t 9)]
    .nil)))))))
  .skip)) }


end Jq

/- What a function needs of an environment. -/
namespace Jq
open Go

structure well_letters_1_In (E : Env) : Prop where
  fn : E.fn 150 = some well_letters_1
  c158 : print_IsLoc_In E

structure well_letters_In (E : Env) : Prop where
  fn : E.fn 133 = some well_letters
  c150 : well_letters_1_In E

structure well_Locs_In (E : Env) : Prop where
  fn : E.fn 117 = some well_Locs
  c133 : well_letters_In E

structure well_big_1_In (E : Env) : Prop where
  fn : E.fn 145 = some well_big_1

structure well_big_In (E : Env) : Prop where
  fn : E.fn 127 = some well_big
  c117 : well_Locs_In E
  c145 : well_big_1_In E
  c146 : slices_ContainsFunc_ssAtom_sAtom_In E

structure well_twice_In (E : Env) : Prop where
  fn : E.fn 128 = some well_twice

structure well_Jumps_In (E : Env) : Prop where
  fn : E.fn 148 = some well_Jumps

structure well_Check_1_In (E : Env) : Prop where
  fn : E.fn 129 = some well_Check_1
  c148 : well_Jumps_In E

structure well_Check_2_In (E : Env) : Prop where
  fn : E.fn 131 = some well_Check_2

structure well_Check_In (E : Env) : Prop where
  fn : E.fn 116 = some well_Check
  c126 : print_Ok_In E
  c127 : well_big_In E
  c128 : well_twice_In E
  c129 : well_Check_1_In E
  c130 : slices_ContainsFunc_ssIns_sIns_In E
  c131 : well_Check_2_In E
  c132 : slices_ContainsFunc_sAtom_Atom_In E

end Jq

/- What a function needs of an environment. -/
namespace Jq
open Go

structure prog_thread_In (E : Env) : Prop where
  fn : E.fn 113 = some prog_thread

structure prog_Value_In (E : Env) : Prop where
  fn : E.fn 108 = some prog_Value

structure prog_set_In (E : Env) : Prop where
  fn : E.fn 124 = some prog_set

structure prog_normal_In (E : Env) : Prop where
  fn : E.fn 114 = some prog_normal
  c108 : prog_Value_In E
  c124 : prog_set_In E
  c125 : num_Do_In E

structure prog_Start_In (E : Env) : Prop where
  fn : E.fn 94 = some prog_Start
  c113 : prog_thread_In E
  c114 : prog_normal_In E

structure prog_Next_In (E : Env) : Prop where
  fn : E.fn 105 = some prog_Next
  c113 : prog_thread_In E

structure prog_After_In (E : Env) : Prop where
  fn : E.fn 106 = some prog_After
  c105 : prog_Next_In E
  c113 : prog_thread_In E
  c114 : prog_normal_In E
  c124 : prog_set_In E

structure prog_Compile_1_In (E : Env) : Prop where
  fn : E.fn 118 = some prog_Compile_1
  c134 : slices_Index_sbyte_byte_In E

structure prog_Compile_In (E : Env) : Prop where
  fn : E.fn 98 = some prog_Compile
  c116 : well_Check_In E
  c117 : well_Locs_In E
  c118 : prog_Compile_1_In E
  c119 : slices_Clone_sIns_Ins_In E

structure prog_Size_In (E : Env) : Prop where
  fn : E.fn 102 = some prog_Size

end Jq

/- What a function needs of an environment. -/
namespace Jq
open Go

structure jacquardlaw6_awake_In (E : Env) : Prop where
  fn : E.fn 95 = some jacquardlaw6_awake
  c94 : prog_Start_In E
  c98 : prog_Compile_In E
  c102 : prog_Size_In E
  c105 : prog_Next_In E

structure jacquardlaw6_ProgSteps_In (E : Env) : Prop where
  fn : E.fn 232 = some jacquardlaw6_ProgSteps
  c81 : jacquardref6_Next_In E
  c94 : prog_Start_In E
  c95 : jacquardlaw6_awake_In E
  c96 : jacquardlaw4_Few_In E
  c97 : jacquardlaw3_Small_In E
  c99 : jacquardref2_Check_In E
  c101 : jacquardref6_Compile_In E
  c104 : jacquardref6_Start_In E
  c105 : prog_Next_In E
  c106 : prog_After_In E
  c107 : jacquardref6_After_In E
  c108 : prog_Value_In E

end Jq

/- The seat: where the functions that are reached lie in the given program, and that each is the given one. -/
namespace Go.Proofs.Ytldfafaiappibaa.LProgSteps
open Go Jq

def seatFn : Nat → Nat
  | 81 => 18
  | 92 => 31
  | 93 => 32
  | 94 => 33
  | 95 => 34
  | 96 => 35
  | 97 => 36
  | 98 => 37
  | 99 => 38
  | 101 => 40
  | 102 => 41
  | 104 => 43
  | 105 => 44
  | 106 => 45
  | 107 => 46
  | 108 => 47
  | 110 => 49
  | 113 => 57
  | 114 => 56
  | 115 => 58
  | 116 => 59
  | 117 => 60
  | 118 => 61
  | 119 => 63
  | 120 => 64
  | 121 => 65
  | 122 => 66
  | 123 => 67
  | 124 => 68
  | 125 => 71
  | 126 => 72
  | 127 => 73
  | 128 => 74
  | 129 => 76
  | 130 => 75
  | 131 => 79
  | 132 => 78
  | 133 => 80
  | 134 => 62
  | 135 => 81
  | 136 => 82
  | 137 => 83
  | 138 => 84
  | 139 => 86
  | 140 => 87
  | 141 => 91
  | 142 => 93
  | 143 => 92
  | 144 => 95
  | 145 => 96
  | 146 => 97
  | 147 => 98
  | 148 => 77
  | 149 => 99
  | 150 => 100
  | 151 => 101
  | 152 => 102
  | 153 => 103
  | 154 => 89
  | 155 => 88
  | 156 => 104
  | 157 => 90
  | 158 => 94
  | 159 => 105
  | 160 => 106
  | 161 => 107
  | 162 => 110
  | 163 => 111
  | 164 => 112
  | 165 => 108
  | 166 => 109
  | 232 => 11
  | _ => 0

def envFn : Nat → Option Jq.Fn
  | 81 => some jacquardref6_Next
  | 92 => some jacquardref6_Value
  | 93 => some jacquardref2_Do
  | 94 => some prog_Start
  | 95 => some jacquardlaw6_awake
  | 96 => some jacquardlaw4_Few
  | 97 => some jacquardlaw3_Small
  | 98 => some prog_Compile
  | 99 => some jacquardref2_Check
  | 101 => some jacquardref6_Compile
  | 102 => some prog_Size
  | 104 => some jacquardref6_Start
  | 105 => some prog_Next
  | 106 => some prog_After
  | 107 => some jacquardref6_After
  | 108 => some prog_Value
  | 110 => some jacquardref6_there
  | 113 => some prog_thread
  | 114 => some prog_normal
  | 115 => some jacquardlaw3_Small_1
  | 116 => some well_Check
  | 117 => some well_Locs
  | 118 => some prog_Compile_1
  | 119 => some slices_Clone_sIns_Ins
  | 120 => some jacquardref2_TestOk
  | 121 => some jacquardref2_Locs
  | 122 => some jacquardref6_Place
  | 123 => some jacquardref6_normal
  | 124 => some prog_set
  | 125 => some num_Do
  | 126 => some print_Ok
  | 127 => some well_big
  | 128 => some well_twice
  | 129 => some well_Check_1
  | 130 => some slices_ContainsFunc_ssIns_sIns
  | 131 => some well_Check_2
  | 132 => some slices_ContainsFunc_sAtom_Atom
  | 133 => some well_letters
  | 134 => some slices_Index_sbyte_byte
  | 135 => some jacquardref2_word
  | 136 => some jacquardref2_CondOk
  | 137 => some jacquardref2_named
  | 138 => some jacquardref2_InsOk
  | 139 => some num_one
  | 140 => some print_Ok_1
  | 141 => some print_isWord
  | 142 => some print_Ok_2
  | 143 => some slices_ContainsFunc_sInit_Init
  | 144 => some print_okCond
  | 145 => some well_big_1
  | 146 => some slices_ContainsFunc_ssAtom_sAtom
  | 147 => some slices_IndexFunc_ssIns_sIns
  | 148 => some well_Jumps
  | 149 => some slices_IndexFunc_sAtom_Atom
  | 150 => some well_letters_1
  | 151 => some jacquardref2_letter
  | 152 => some jacquardref2_digit
  | 153 => some jacquardref2_operandOk
  | 154 => some print_Ok_1_1
  | 155 => some slices_ContainsFunc_sIns_Ins
  | 156 => some slices_IndexFunc_sIns_Ins
  | 157 => some print_okIns
  | 158 => some print_IsLoc
  | 159 => some print_Fields
  | 160 => some slices_IndexFunc_sInit_Init
  | 161 => some print_okCond_1
  | 162 => some slices_IndexFunc_ssAtom_sAtom
  | 163 => some print_isOperand
  | 164 => some print_isReg
  | 165 => some print_okCond_1_1
  | 166 => some print_okAtom
  | 232 => some jacquardlaw6_ProgSteps
  | _ => none

def seatTab : Nat → List Cell := fun _ => []
noncomputable def seat : Seat := { P := Try.prog, fn := seatFn, gl := fun _ => 0, tab := seatTab }
def env : Env := { fn := envFn, tab := seatTab }

theorem mixed : true = true → seat.P.follows .mixedOrders = true := fun _ => by kernel_rfl

theorem ok_81 : FnOk seat 81 jacquardref6_Next := ⟨⟨Try.f18, _, drK seat true, Try.func18, rfl, by kernel_rfl, by kernel_rfl, by kernel_rfl, by kernel_rfl, fun _ _ h => draw_sound mixed h⟩⟩
theorem ok_92 : FnOk seat 92 jacquardref6_Value := ⟨⟨Try.f31, _, drK seat true, Try.func31, rfl, by kernel_rfl, by kernel_rfl, by kernel_rfl, by kernel_rfl, fun _ _ h => draw_sound mixed h⟩⟩
theorem ok_93 : FnOk seat 93 jacquardref2_Do := ⟨⟨Try.f32, _, drK seat true, Try.func32, rfl, by kernel_rfl, by kernel_rfl, by kernel_rfl, by kernel_rfl, fun _ _ h => draw_sound mixed h⟩⟩
theorem ok_94 : FnOk seat 94 prog_Start := ⟨⟨Try.f33, _, drK seat true, Try.func33, rfl, by kernel_rfl, by kernel_rfl, by kernel_rfl, by kernel_rfl, fun _ _ h => draw_sound mixed h⟩⟩
theorem ok_95 : FnOk seat 95 jacquardlaw6_awake := ⟨⟨Try.f34, _, drK seat true, Try.func34, rfl, by kernel_rfl, by kernel_rfl, by kernel_rfl, by kernel_rfl, fun _ _ h => draw_sound mixed h⟩⟩
theorem ok_96 : FnOk seat 96 jacquardlaw4_Few := ⟨⟨Try.f35, _, drK seat true, Try.func35, rfl, by kernel_rfl, by kernel_rfl, by kernel_rfl, by kernel_rfl, fun _ _ h => draw_sound mixed h⟩⟩
theorem ok_97 : FnOk seat 97 jacquardlaw3_Small := ⟨⟨Try.f36, _, drK seat true, Try.func36, rfl, by kernel_rfl, by kernel_rfl, by kernel_rfl, by kernel_rfl, fun _ _ h => draw_sound mixed h⟩⟩
theorem ok_98 : FnOk seat 98 prog_Compile := ⟨⟨Try.f37, _, drK seat true, Try.func37, rfl, by kernel_rfl, by kernel_rfl, by kernel_rfl, by kernel_rfl, fun _ _ h => draw_sound mixed h⟩⟩
theorem ok_99 : FnOk seat 99 jacquardref2_Check := ⟨⟨Try.f38, _, drK seat true, Try.func38, rfl, by kernel_rfl, by kernel_rfl, by kernel_rfl, by kernel_rfl, fun _ _ h => draw_sound mixed h⟩⟩
theorem ok_101 : FnOk seat 101 jacquardref6_Compile := ⟨⟨Try.f40, _, drK seat true, Try.func40, rfl, by kernel_rfl, by kernel_rfl, by kernel_rfl, by kernel_rfl, fun _ _ h => draw_sound mixed h⟩⟩
theorem ok_102 : FnOk seat 102 prog_Size := ⟨⟨Try.f41, _, drK seat true, Try.func41, rfl, by kernel_rfl, by kernel_rfl, by kernel_rfl, by kernel_rfl, fun _ _ h => draw_sound mixed h⟩⟩
theorem ok_104 : FnOk seat 104 jacquardref6_Start := ⟨⟨Try.f43, _, drK seat true, Try.func43, rfl, by kernel_rfl, by kernel_rfl, by kernel_rfl, by kernel_rfl, fun _ _ h => draw_sound mixed h⟩⟩
theorem ok_105 : FnOk seat 105 prog_Next := ⟨⟨Try.f44, _, drK seat true, Try.func44, rfl, by kernel_rfl, by kernel_rfl, by kernel_rfl, by kernel_rfl, fun _ _ h => draw_sound mixed h⟩⟩
theorem ok_106 : FnOk seat 106 prog_After := ⟨⟨Try.f45, _, drK seat true, Try.func45, rfl, by kernel_rfl, by kernel_rfl, by kernel_rfl, by kernel_rfl, fun _ _ h => draw_sound mixed h⟩⟩
theorem ok_107 : FnOk seat 107 jacquardref6_After := ⟨⟨Try.f46, _, drK seat true, Try.func46, rfl, by kernel_rfl, by kernel_rfl, by kernel_rfl, by kernel_rfl, fun _ _ h => draw_sound mixed h⟩⟩
theorem ok_108 : FnOk seat 108 prog_Value := ⟨⟨Try.f47, _, drK seat true, Try.func47, rfl, by kernel_rfl, by kernel_rfl, by kernel_rfl, by kernel_rfl, fun _ _ h => draw_sound mixed h⟩⟩
theorem ok_110 : FnOk seat 110 jacquardref6_there := ⟨⟨Try.f49, _, drK seat true, Try.func49, rfl, by kernel_rfl, by kernel_rfl, by kernel_rfl, by kernel_rfl, fun _ _ h => draw_sound mixed h⟩⟩
theorem ok_113 : FnOk seat 113 prog_thread := ⟨⟨Try.f57, _, drK seat true, Try.func57, rfl, by kernel_rfl, by kernel_rfl, by kernel_rfl, by kernel_rfl, fun _ _ h => draw_sound mixed h⟩⟩
theorem ok_114 : FnOk seat 114 prog_normal := ⟨⟨Try.f56, _, drK seat true, Try.func56, rfl, by kernel_rfl, by kernel_rfl, by kernel_rfl, by kernel_rfl, fun _ _ h => draw_sound mixed h⟩⟩
theorem ok_115 : FnOk seat 115 jacquardlaw3_Small_1 := ⟨⟨Try.f58, _, drK seat true, Try.func58, rfl, by kernel_rfl, by kernel_rfl, by kernel_rfl, by kernel_rfl, fun _ _ h => draw_sound mixed h⟩⟩
theorem ok_116 : FnOk seat 116 well_Check := ⟨⟨Try.f59, _, drK seat true, Try.func59, rfl, by kernel_rfl, by kernel_rfl, by kernel_rfl, by kernel_rfl, fun _ _ h => draw_sound mixed h⟩⟩
theorem ok_117 : FnOk seat 117 well_Locs := ⟨⟨Try.f60, _, drK seat true, Try.func60, rfl, by kernel_rfl, by kernel_rfl, by kernel_rfl, by kernel_rfl, fun _ _ h => draw_sound mixed h⟩⟩
theorem ok_118 : FnOk seat 118 prog_Compile_1 := ⟨⟨Try.f61, _, drK seat true, Try.func61, rfl, by kernel_rfl, by kernel_rfl, by kernel_rfl, by kernel_rfl, fun _ _ h => draw_sound mixed h⟩⟩
theorem ok_119 : FnOk seat 119 slices_Clone_sIns_Ins := ⟨⟨Try.f63, _, drK seat true, Try.func63, rfl, by kernel_rfl, by kernel_rfl, by kernel_rfl, by kernel_rfl, fun _ _ h => draw_sound mixed h⟩⟩
theorem ok_120 : FnOk seat 120 jacquardref2_TestOk := ⟨⟨Try.f64, _, drK seat true, Try.func64, rfl, by kernel_rfl, by kernel_rfl, by kernel_rfl, by kernel_rfl, fun _ _ h => draw_sound mixed h⟩⟩
theorem ok_121 : FnOk seat 121 jacquardref2_Locs := ⟨⟨Try.f65, _, drK seat true, Try.func65, rfl, by kernel_rfl, by kernel_rfl, by kernel_rfl, by kernel_rfl, fun _ _ h => draw_sound mixed h⟩⟩
theorem ok_122 : FnOk seat 122 jacquardref6_Place := ⟨⟨Try.f66, _, drK seat true, Try.func66, rfl, by kernel_rfl, by kernel_rfl, by kernel_rfl, by kernel_rfl, fun _ _ h => draw_sound mixed h⟩⟩
theorem ok_123 : FnOk seat 123 jacquardref6_normal := ⟨⟨Try.f67, _, drK seat true, Try.func67, rfl, by kernel_rfl, by kernel_rfl, by kernel_rfl, by kernel_rfl, fun _ _ h => draw_sound mixed h⟩⟩
theorem ok_124 : FnOk seat 124 prog_set := ⟨⟨Try.f68, _, drK seat true, Try.func68, rfl, by kernel_rfl, by kernel_rfl, by kernel_rfl, by kernel_rfl, fun _ _ h => draw_sound mixed h⟩⟩
theorem ok_125 : FnOk seat 125 num_Do := ⟨⟨Try.f71, _, drK seat true, Try.func71, rfl, by kernel_rfl, by kernel_rfl, by kernel_rfl, by kernel_rfl, fun _ _ h => draw_sound mixed h⟩⟩
theorem ok_126 : FnOk seat 126 print_Ok := ⟨⟨Try.f72, _, drK seat true, Try.func72, rfl, by kernel_rfl, by kernel_rfl, by kernel_rfl, by kernel_rfl, fun _ _ h => draw_sound mixed h⟩⟩
theorem ok_127 : FnOk seat 127 well_big := ⟨⟨Try.f73, _, drK seat true, Try.func73, rfl, by kernel_rfl, by kernel_rfl, by kernel_rfl, by kernel_rfl, fun _ _ h => draw_sound mixed h⟩⟩
theorem ok_128 : FnOk seat 128 well_twice := ⟨⟨Try.f74, _, drK seat true, Try.func74, rfl, by kernel_rfl, by kernel_rfl, by kernel_rfl, by kernel_rfl, fun _ _ h => draw_sound mixed h⟩⟩
theorem ok_129 : FnOk seat 129 well_Check_1 := ⟨⟨Try.f76, _, drK seat true, Try.func76, rfl, by kernel_rfl, by kernel_rfl, by kernel_rfl, by kernel_rfl, fun _ _ h => draw_sound mixed h⟩⟩
theorem ok_130 : FnOk seat 130 slices_ContainsFunc_ssIns_sIns := ⟨⟨Try.f75, _, drK seat true, Try.func75, rfl, by kernel_rfl, by kernel_rfl, by kernel_rfl, by kernel_rfl, fun _ _ h => draw_sound mixed h⟩⟩
theorem ok_131 : FnOk seat 131 well_Check_2 := ⟨⟨Try.f79, _, drK seat true, Try.func79, rfl, by kernel_rfl, by kernel_rfl, by kernel_rfl, by kernel_rfl, fun _ _ h => draw_sound mixed h⟩⟩
theorem ok_132 : FnOk seat 132 slices_ContainsFunc_sAtom_Atom := ⟨⟨Try.f78, _, drK seat true, Try.func78, rfl, by kernel_rfl, by kernel_rfl, by kernel_rfl, by kernel_rfl, fun _ _ h => draw_sound mixed h⟩⟩
theorem ok_133 : FnOk seat 133 well_letters := ⟨⟨Try.f80, _, drK seat true, Try.func80, rfl, by kernel_rfl, by kernel_rfl, by kernel_rfl, by kernel_rfl, fun _ _ h => draw_sound mixed h⟩⟩
theorem ok_134 : FnOk seat 134 slices_Index_sbyte_byte := ⟨⟨Try.f62, _, drK seat true, Try.func62, rfl, by kernel_rfl, by kernel_rfl, by kernel_rfl, by kernel_rfl, fun _ _ h => draw_sound mixed h⟩⟩
theorem ok_135 : FnOk seat 135 jacquardref2_word := ⟨⟨Try.f81, _, drK seat true, Try.func81, rfl, by kernel_rfl, by kernel_rfl, by kernel_rfl, by kernel_rfl, fun _ _ h => draw_sound mixed h⟩⟩
theorem ok_136 : FnOk seat 136 jacquardref2_CondOk := ⟨⟨Try.f82, _, drK seat true, Try.func82, rfl, by kernel_rfl, by kernel_rfl, by kernel_rfl, by kernel_rfl, fun _ _ h => draw_sound mixed h⟩⟩
theorem ok_137 : FnOk seat 137 jacquardref2_named := ⟨⟨Try.f83, _, drK seat true, Try.func83, rfl, by kernel_rfl, by kernel_rfl, by kernel_rfl, by kernel_rfl, fun _ _ h => draw_sound mixed h⟩⟩
theorem ok_138 : FnOk seat 138 jacquardref2_InsOk := ⟨⟨Try.f84, _, drK seat true, Try.func84, rfl, by kernel_rfl, by kernel_rfl, by kernel_rfl, by kernel_rfl, fun _ _ h => draw_sound mixed h⟩⟩
theorem ok_139 : FnOk seat 139 num_one := ⟨⟨Try.f86, _, drK seat true, Try.func86, rfl, by kernel_rfl, by kernel_rfl, by kernel_rfl, by kernel_rfl, fun _ _ h => draw_sound mixed h⟩⟩
theorem ok_140 : FnOk seat 140 print_Ok_1 := ⟨⟨Try.f87, _, drK seat true, Try.func87, rfl, by kernel_rfl, by kernel_rfl, by kernel_rfl, by kernel_rfl, fun _ _ h => draw_sound mixed h⟩⟩
theorem ok_141 : FnOk seat 141 print_isWord := ⟨⟨Try.f91, _, drK seat true, Try.func91, rfl, by kernel_rfl, by kernel_rfl, by kernel_rfl, by kernel_rfl, fun _ _ h => draw_sound mixed h⟩⟩
theorem ok_142 : FnOk seat 142 print_Ok_2 := ⟨⟨Try.f93, _, drK seat true, Try.func93, rfl, by kernel_rfl, by kernel_rfl, by kernel_rfl, by kernel_rfl, fun _ _ h => draw_sound mixed h⟩⟩
theorem ok_143 : FnOk seat 143 slices_ContainsFunc_sInit_Init := ⟨⟨Try.f92, _, drK seat true, Try.func92, rfl, by kernel_rfl, by kernel_rfl, by kernel_rfl, by kernel_rfl, fun _ _ h => draw_sound mixed h⟩⟩
theorem ok_144 : FnOk seat 144 print_okCond := ⟨⟨Try.f95, _, drK seat true, Try.func95, rfl, by kernel_rfl, by kernel_rfl, by kernel_rfl, by kernel_rfl, fun _ _ h => draw_sound mixed h⟩⟩
theorem ok_145 : FnOk seat 145 well_big_1 := ⟨⟨Try.f96, _, drK seat true, Try.func96, rfl, by kernel_rfl, by kernel_rfl, by kernel_rfl, by kernel_rfl, fun _ _ h => draw_sound mixed h⟩⟩
theorem ok_146 : FnOk seat 146 slices_ContainsFunc_ssAtom_sAtom := ⟨⟨Try.f97, _, drK seat true, Try.func97, rfl, by kernel_rfl, by kernel_rfl, by kernel_rfl, by kernel_rfl, fun _ _ h => draw_sound mixed h⟩⟩
theorem ok_147 : FnOk seat 147 slices_IndexFunc_ssIns_sIns := ⟨⟨Try.f98, _, drK seat true, Try.func98, rfl, by kernel_rfl, by kernel_rfl, by kernel_rfl, by kernel_rfl, fun _ _ h => draw_sound mixed h⟩⟩
theorem ok_148 : FnOk seat 148 well_Jumps := ⟨⟨Try.f77, _, drK seat true, Try.func77, rfl, by kernel_rfl, by kernel_rfl, by kernel_rfl, by kernel_rfl, fun _ _ h => draw_sound mixed h⟩⟩
theorem ok_149 : FnOk seat 149 slices_IndexFunc_sAtom_Atom := ⟨⟨Try.f99, _, drK seat true, Try.func99, rfl, by kernel_rfl, by kernel_rfl, by kernel_rfl, by kernel_rfl, fun _ _ h => draw_sound mixed h⟩⟩
theorem ok_150 : FnOk seat 150 well_letters_1 := ⟨⟨Try.f100, _, drK seat true, Try.func100, rfl, by kernel_rfl, by kernel_rfl, by kernel_rfl, by kernel_rfl, fun _ _ h => draw_sound mixed h⟩⟩
theorem ok_151 : FnOk seat 151 jacquardref2_letter := ⟨⟨Try.f101, _, drK seat true, Try.func101, rfl, by kernel_rfl, by kernel_rfl, by kernel_rfl, by kernel_rfl, fun _ _ h => draw_sound mixed h⟩⟩
theorem ok_152 : FnOk seat 152 jacquardref2_digit := ⟨⟨Try.f102, _, drK seat true, Try.func102, rfl, by kernel_rfl, by kernel_rfl, by kernel_rfl, by kernel_rfl, fun _ _ h => draw_sound mixed h⟩⟩
theorem ok_153 : FnOk seat 153 jacquardref2_operandOk := ⟨⟨Try.f103, _, drK seat true, Try.func103, rfl, by kernel_rfl, by kernel_rfl, by kernel_rfl, by kernel_rfl, fun _ _ h => draw_sound mixed h⟩⟩
theorem ok_154 : FnOk seat 154 print_Ok_1_1 := ⟨⟨Try.f89, _, drK seat true, Try.func89, rfl, by kernel_rfl, by kernel_rfl, by kernel_rfl, by kernel_rfl, fun _ _ h => draw_sound mixed h⟩⟩
theorem ok_155 : FnOk seat 155 slices_ContainsFunc_sIns_Ins := ⟨⟨Try.f88, _, drK seat true, Try.func88, rfl, by kernel_rfl, by kernel_rfl, by kernel_rfl, by kernel_rfl, fun _ _ h => draw_sound mixed h⟩⟩
theorem ok_156 : FnOk seat 156 slices_IndexFunc_sIns_Ins := ⟨⟨Try.f104, _, drK seat true, Try.func104, rfl, by kernel_rfl, by kernel_rfl, by kernel_rfl, by kernel_rfl, fun _ _ h => draw_sound mixed h⟩⟩
theorem ok_157 : FnOk seat 157 print_okIns := ⟨⟨Try.f90, _, drK seat true, Try.func90, rfl, by kernel_rfl, by kernel_rfl, by kernel_rfl, by kernel_rfl, fun _ _ h => draw_sound mixed h⟩⟩
theorem ok_158 : FnOk seat 158 print_IsLoc := ⟨⟨Try.f94, _, drK seat true, Try.func94, rfl, by kernel_rfl, by kernel_rfl, by kernel_rfl, by kernel_rfl, fun _ _ h => draw_sound mixed h⟩⟩
theorem ok_159 : FnOk seat 159 print_Fields := ⟨⟨Try.f105, _, drK seat true, Try.func105, rfl, by kernel_rfl, by kernel_rfl, by kernel_rfl, by kernel_rfl, fun _ _ h => draw_sound mixed h⟩⟩
theorem ok_160 : FnOk seat 160 slices_IndexFunc_sInit_Init := ⟨⟨Try.f106, _, drK seat true, Try.func106, rfl, by kernel_rfl, by kernel_rfl, by kernel_rfl, by kernel_rfl, fun _ _ h => draw_sound mixed h⟩⟩
theorem ok_161 : FnOk seat 161 print_okCond_1 := ⟨⟨Try.f107, _, drK seat true, Try.func107, rfl, by kernel_rfl, by kernel_rfl, by kernel_rfl, by kernel_rfl, fun _ _ h => draw_sound mixed h⟩⟩
theorem ok_162 : FnOk seat 162 slices_IndexFunc_ssAtom_sAtom := ⟨⟨Try.f110, _, drK seat true, Try.func110, rfl, by kernel_rfl, by kernel_rfl, by kernel_rfl, by kernel_rfl, fun _ _ h => draw_sound mixed h⟩⟩
theorem ok_163 : FnOk seat 163 print_isOperand := ⟨⟨Try.f111, _, drK seat true, Try.func111, rfl, by kernel_rfl, by kernel_rfl, by kernel_rfl, by kernel_rfl, fun _ _ h => draw_sound mixed h⟩⟩
theorem ok_164 : FnOk seat 164 print_isReg := ⟨⟨Try.f112, _, drK seat true, Try.func112, rfl, by kernel_rfl, by kernel_rfl, by kernel_rfl, by kernel_rfl, fun _ _ h => draw_sound mixed h⟩⟩
theorem ok_165 : FnOk seat 165 print_okCond_1_1 := ⟨⟨Try.f108, _, drK seat true, Try.func108, rfl, by kernel_rfl, by kernel_rfl, by kernel_rfl, by kernel_rfl, fun _ _ h => draw_sound mixed h⟩⟩
theorem ok_166 : FnOk seat 166 print_okAtom := ⟨⟨Try.f109, _, drK seat true, Try.func109, rfl, by kernel_rfl, by kernel_rfl, by kernel_rfl, by kernel_rfl, fun _ _ h => draw_sound mixed h⟩⟩
theorem ok_232 : FnOk seat 232 jacquardlaw6_ProgSteps := ⟨⟨Try.f11, _, drK seat true, Try.func11, rfl, by kernel_rfl, by kernel_rfl, by kernel_rfl, by kernel_rfl, fun _ _ h => draw_sound mixed h⟩⟩

theorem allOk : ∀ g fn, env.fn g = some fn → FnOk seat g fn := by
  intro g fn h
  unfold env envFn at h
  dsimp only at h
  split at h
  · cases h; exact ok_81
  · cases h; exact ok_92
  · cases h; exact ok_93
  · cases h; exact ok_94
  · cases h; exact ok_95
  · cases h; exact ok_96
  · cases h; exact ok_97
  · cases h; exact ok_98
  · cases h; exact ok_99
  · cases h; exact ok_101
  · cases h; exact ok_102
  · cases h; exact ok_104
  · cases h; exact ok_105
  · cases h; exact ok_106
  · cases h; exact ok_107
  · cases h; exact ok_108
  · cases h; exact ok_110
  · cases h; exact ok_113
  · cases h; exact ok_114
  · cases h; exact ok_115
  · cases h; exact ok_116
  · cases h; exact ok_117
  · cases h; exact ok_118
  · cases h; exact ok_119
  · cases h; exact ok_120
  · cases h; exact ok_121
  · cases h; exact ok_122
  · cases h; exact ok_123
  · cases h; exact ok_124
  · cases h; exact ok_125
  · cases h; exact ok_126
  · cases h; exact ok_127
  · cases h; exact ok_128
  · cases h; exact ok_129
  · cases h; exact ok_130
  · cases h; exact ok_131
  · cases h; exact ok_132
  · cases h; exact ok_133
  · cases h; exact ok_134
  · cases h; exact ok_135
  · cases h; exact ok_136
  · cases h; exact ok_137
  · cases h; exact ok_138
  · cases h; exact ok_139
  · cases h; exact ok_140
  · cases h; exact ok_141
  · cases h; exact ok_142
  · cases h; exact ok_143
  · cases h; exact ok_144
  · cases h; exact ok_145
  · cases h; exact ok_146
  · cases h; exact ok_147
  · cases h; exact ok_148
  · cases h; exact ok_149
  · cases h; exact ok_150
  · cases h; exact ok_151
  · cases h; exact ok_152
  · cases h; exact ok_153
  · cases h; exact ok_154
  · cases h; exact ok_155
  · cases h; exact ok_156
  · cases h; exact ok_157
  · cases h; exact ok_158
  · cases h; exact ok_159
  · cases h; exact ok_160
  · cases h; exact ok_161
  · cases h; exact ok_162
  · cases h; exact ok_163
  · cases h; exact ok_164
  · cases h; exact ok_165
  · cases h; exact ok_166
  · cases h; exact ok_232
  · cases h

theorem in_110 : jacquardref6_there_In env := { fn := rfl }
theorem in_81 : jacquardref6_Next_In env := { fn := rfl, c110 := in_110 }
theorem in_113 : prog_thread_In env := { fn := rfl }
theorem in_108 : prog_Value_In env := { fn := rfl }
theorem in_124 : prog_set_In env := { fn := rfl }
theorem in_139 : num_one_In env := { fn := rfl }
theorem in_125 : num_Do_In env := { fn := rfl, c139 := in_139 }
theorem in_114 : prog_normal_In env := { fn := rfl, c108 := in_108, c124 := in_124, c125 := in_125 }
theorem in_94 : prog_Start_In env := { fn := rfl, c113 := in_113, c114 := in_114 }
theorem in_147 : slices_IndexFunc_ssIns_sIns_In env := { fn := rfl }
theorem in_130 : slices_ContainsFunc_ssIns_sIns_In env := { fn := rfl, c147 := in_147 }
theorem in_158 : print_IsLoc_In env := { fn := rfl }
theorem in_164 : print_isReg_In env := { fn := rfl }
theorem in_163 : print_isOperand_In env := { fn := rfl, c164 := in_164 }
theorem in_159 : print_Fields_In env := { fn := rfl, c163 := in_163, c164 := in_164 }
theorem in_157 : print_okIns_In env := { fn := rfl, c158 := in_158, c159 := in_159 }
theorem in_154 : print_Ok_1_1_In env := { fn := rfl, c157 := in_157 }
theorem in_156 : slices_IndexFunc_sIns_Ins_In env := { fn := rfl }
theorem in_155 : slices_ContainsFunc_sIns_Ins_In env := { fn := rfl, c156 := in_156 }
theorem in_140 : print_Ok_1_In env := { fn := rfl, c154 := in_154, c155 := in_155 }
theorem in_141 : print_isWord_In env := { fn := rfl }
theorem in_142 : print_Ok_2_In env := { fn := rfl, c158 := in_158 }
theorem in_160 : slices_IndexFunc_sInit_Init_In env := { fn := rfl }
theorem in_143 : slices_ContainsFunc_sInit_Init_In env := { fn := rfl, c160 := in_160 }
theorem in_162 : slices_IndexFunc_ssAtom_sAtom_In env := { fn := rfl }
theorem in_146 : slices_ContainsFunc_ssAtom_sAtom_In env := { fn := rfl, c162 := in_162 }
theorem in_149 : slices_IndexFunc_sAtom_Atom_In env := { fn := rfl }
theorem in_132 : slices_ContainsFunc_sAtom_Atom_In env := { fn := rfl, c149 := in_149 }
theorem in_166 : print_okAtom_In env := { fn := rfl, c158 := in_158, c164 := in_164 }
theorem in_165 : print_okCond_1_1_In env := { fn := rfl, c166 := in_166 }
theorem in_161 : print_okCond_1_In env := { fn := rfl, c132 := in_132, c165 := in_165 }
theorem in_144 : print_okCond_In env := { fn := rfl, c146 := in_146, c161 := in_161 }
theorem in_126 : print_Ok_In env := { fn := rfl, c130 := in_130, c140 := in_140, c141 := in_141, c142 := in_142, c143 := in_143, c144 := in_144 }
theorem in_150 : well_letters_1_In env := { fn := rfl, c158 := in_158 }
theorem in_133 : well_letters_In env := { fn := rfl, c150 := in_150 }
theorem in_117 : well_Locs_In env := { fn := rfl, c133 := in_133 }
theorem in_145 : well_big_1_In env := { fn := rfl }
theorem in_127 : well_big_In env := { fn := rfl, c117 := in_117, c145 := in_145, c146 := in_146 }
theorem in_128 : well_twice_In env := { fn := rfl }
theorem in_148 : well_Jumps_In env := { fn := rfl }
theorem in_129 : well_Check_1_In env := { fn := rfl, c148 := in_148 }
theorem in_131 : well_Check_2_In env := { fn := rfl }
theorem in_116 : well_Check_In env := { fn := rfl, c126 := in_126, c127 := in_127, c128 := in_128, c129 := in_129, c130 := in_130, c131 := in_131, c132 := in_132 }
theorem in_134 : slices_Index_sbyte_byte_In env := { fn := rfl }
theorem in_118 : prog_Compile_1_In env := { fn := rfl, c134 := in_134 }
theorem in_119 : slices_Clone_sIns_Ins_In env := { fn := rfl }
theorem in_98 : prog_Compile_In env := { fn := rfl, c116 := in_116, c117 := in_117, c118 := in_118, c119 := in_119 }
theorem in_102 : prog_Size_In env := { fn := rfl }
theorem in_105 : prog_Next_In env := { fn := rfl, c113 := in_113 }
theorem in_95 : jacquardlaw6_awake_In env := { fn := rfl, c94 := in_94, c98 := in_98, c102 := in_102, c105 := in_105 }
theorem in_96 : jacquardlaw4_Few_In env := { fn := rfl }
theorem in_115 : jacquardlaw3_Small_1_In env := { fn := rfl }
theorem in_97 : jacquardlaw3_Small_In env := { fn := rfl, c115 := in_115 }
theorem in_151 : jacquardref2_letter_In env := { fn := rfl }
theorem in_152 : jacquardref2_digit_In env := { fn := rfl }
theorem in_135 : jacquardref2_word_In env := { fn := rfl, c151 := in_151, c152 := in_152 }
theorem in_137 : jacquardref2_named_In env := { fn := rfl }
theorem in_136 : jacquardref2_CondOk_In env := { fn := rfl, c137 := in_137 }
theorem in_153 : jacquardref2_operandOk_In env := { fn := rfl }
theorem in_138 : jacquardref2_InsOk_In env := { fn := rfl, c137 := in_137, c153 := in_153 }
theorem in_120 : jacquardref2_TestOk_In env := { fn := rfl, c135 := in_135, c136 := in_136, c137 := in_137, c138 := in_138 }
theorem in_121 : jacquardref2_Locs_In env := { fn := rfl }
theorem in_99 : jacquardref2_Check_In env := { fn := rfl, c120 := in_120, c121 := in_121 }
theorem in_122 : jacquardref6_Place_In env := { fn := rfl }
theorem in_101 : jacquardref6_Compile_In env := { fn := rfl, c121 := in_121, c122 := in_122 }
theorem in_92 : jacquardref6_Value_In env := { fn := rfl }
theorem in_93 : jacquardref2_Do_In env := { fn := rfl }
theorem in_123 : jacquardref6_normal_In env := { fn := rfl, c92 := in_92, c93 := in_93 }
theorem in_104 : jacquardref6_Start_In env := { fn := rfl, c110 := in_110, c123 := in_123 }
theorem in_106 : prog_After_In env := { fn := rfl, c105 := in_105, c113 := in_113, c114 := in_114, c124 := in_124 }
theorem in_107 : jacquardref6_After_In env := { fn := rfl, c81 := in_81, c123 := in_123 }
theorem in_232 : jacquardlaw6_ProgSteps_In env := { fn := rfl, c81 := in_81, c94 := in_94, c95 := in_95, c96 := in_96, c97 := in_97, c99 := in_99, c101 := in_101, c104 := in_104, c105 := in_105, c106 := in_106, c107 := in_107, c108 := in_108 }

end Go.Proofs.Ytldfafaiappibaa.LProgSteps

namespace Jq
open Go


end Jq

/- What a function needs of an environment. -/
namespace Jq
open Go


end Jq

namespace Jq
open Go


end Jq

/- Few numbers in one word: what the package's functions come to. -/
namespace Jq
open Go

/-- A number's bit. -/
def bitI (i : Int) : Nat := if 0 ≤ i ∧ i < 64 then 2 ^ i.toNat else 0

/-- Whether a number is in it. -/
def hasI (s : Nat) (i : Int) : Bool := decide (0 ≤ i) && s.testBit i.toNat && decide (i < 64)

variable {E : Env}

end Jq

namespace Jq
open Go


end Jq

/- What a function needs of an environment. -/
namespace Jq
open Go


end Jq

namespace Jq
open Go


end Jq

/- Relations: what the package's functions come to. -/
namespace Jq
open Go

/-- A relation's cells: over how many, the rows. -/
def relL (n : Nat) (f : Nat → Nat) : List Cell := .int .i64 n :: (List.range 64).map fun i => .int .u64 (f i)

def updF (f : Nat → Nat) (i v : Nat) : Nat → Nat := fun j => if j = i then v else f j

def zeroL : List Cell := [Cell.int .i64 0] ++ List.replicate 64 (Cell.int .u64 0)
/-- All rows are words. -/
def Words (f : Nat → Nat) : Prop := ∀ i, f i < 2 ^ 64

/-- Numbers, brought between nought and 64. -/
def clamp (a : Int) : Nat := min a.toNat 64

variable {E : Env}

def inR (n : Nat) (a : Int) : Bool := decide (0 ≤ a) && decide (a < n)

/-- Whether a leads to b. -/
def hasR (n : Nat) (f : Nat → Nat) (a b : Int) : Bool := inR n a && hasI (f a.toNat) b

/-- A relation with a pair. -/
def addR (n : Nat) (f : Nat → Nat) (a b : Int) : Nat → Nat := if inR n a && inR n b then updF f a.toNat (f a.toNat ||| bitI b) else f

/- Closing. -/

/-- One of a round: from i by k. -/
def clS (f : Nat → Nat) (k i : Nat) : Nat → Nat := if (f i).testBit k then updF f i (f i ||| f k) else f

def cl1 (k : Nat) : Nat → (Nat → Nat) → Nat → Nat
  | 0, f => f
  | i + 1, f => clS (cl1 k i f) k i

/-- The first k rounds. -/
def clK (n : Nat) (f : Nat → Nat) : Nat → Nat → Nat
  | 0 => f
  | k + 1 => cl1 k n (clK n f k)

/-- Whether none leads to itself. -/
def acycR (n : Nat) (f : Nat → Nat) : Bool := !(List.range n).any fun i => (clK n f n i).testBit i

end Jq

/- Relations: what closing is. -/
namespace Jq

/-- A way from one to another whose stops in between are below k. -/
inductive Way (f : Nat → Nat) (k : Nat) : Nat → Nat → Prop
  | one {a b : Nat} : (f a).testBit b = true → Way f k a b
  | step {a c b : Nat} : (f a).testBit c = true → c < k → Way f k c b → Way f k a b

theorem Way.mono {f : Nat → Nat} {k m : Nat} (hkm : k ≤ m) {a b : Nat} (w : Way f k a b) : Way f m a b := by
  induction w with
  | one h => exact .one h
  | step h hc _ ih => exact .step h (by omega) ih

theorem Way.trans {f : Nat → Nat} {k a c b : Nat} (w : Way f k a c) (hc : c < k) (v : Way f k c b) : Way f k a b := by
  induction w with
  | one h => exact .step h hc v
  | step h hc' _ ih => exact .step h hc' (ih hc v)

theorem Way.succ {f : Nat → Nat} {k a b : Nat} : Way f (k + 1) a b ↔ Way f k a b ∨ (Way f k a k ∧ Way f k k b) := by
  constructor
  · intro w
    induction w with
    | one h => exact .inl (.one h)
    | step h hc _ ih =>
      rcases Nat.lt_or_ge _ k with hk | hk
      · rcases ih with ih | ⟨i1, i2⟩
        · exact .inl (.step h hk ih)
        · exact .inr ⟨.step h hk i1, i2⟩
      · have : _ = k := Nat.le_antisymm (Nat.lt_succ_iff.1 hc) hk
        subst this
        rcases ih with ih | ⟨_, i2⟩
        · exact .inr ⟨.one h, ih⟩
        · exact .inr ⟨.one h, i2⟩
  · rintro (w | ⟨w1, w2⟩)
    · exact w.mono (by omega)
    · exact (w1.mono (by omega)).trans (Nat.lt_succ_self k) (w2.mono (by omega))

end Jq

namespace Jq
open Go


end Jq

/- What a function needs of an environment. -/
namespace Jq
open Go


end Jq

namespace Jq
open Go


end Jq

namespace Jq
open Go

/- jacquard/jacquardref6.Next: 81 -/
set_option maxRecDepth 100000 in
theorem jacquardref6_Next_eq (C : CallF) (L : LoopF) (G : Glo) (l0 : List Cell) (a1 : Int) (l2 : List Cell) (h0 : AHeap) :
    jacquardref6_Next.body C L G [(.agg l0), (.c (.int .i64 a1)), (.agg l2)] h0 =
    if 0 = 0 ∧ l0.length = 3 then c1 (qh h0 (C 110 [(.agg l0), (.c (.int .i64 a1))] h0)) fun y_2 h_1 => asB y_2 fun b_3 => scK (!b_3) false (atK l2 0 fun q_4 => asI .i64 (.c q_4) fun n_5 => some ((decide (n_5 < 0)), h0)) true h0 fun b_6 h_7 => scK b_6 false (atK l2 0 fun q_8 => asI .i64 (.c q_8) fun n_9 => atK l0 2 fun q_10 => idxSK 1 q_10 a1 fun k_11 N_12 o_13 => rdH h_7 k_11 N_12 fun l_14 => atK l_14 o_13 fun q_15 => lenK q_15 fun n_16 => some ((decide (n_9 ≥ n_16)), h_7)) true h_7 fun b_17 h_18 => if b_17 = true then if 0 = 0 ∧ (List.replicate 9 (Cell.int .i64 0)).length = 9 ∧ (List.replicate 9 (Cell.int .i64 0)).length = 9 then if 0 = 0 ∧ (List.replicate 9 (Cell.int .i64 0)).length = 9 then some ([(.agg (List.replicate 9 (Cell.int .i64 0))), (.c (.bool false))], h_18) else none else none else atK l0 2 fun q_19 => idxSK 1 q_19 a1 fun k_20 N_21 o_22 => rdH h_18 k_20 N_21 fun l_23 => atK l_23 o_22 fun q_24 => atK l2 0 fun q_25 => asI .i64 (.c q_25) fun n_26 => idxSK 9 q_24 n_26 fun k_27 N_28 o_29 => rdH h_18 k_27 N_28 fun l_30 => if o_29 + 9 ≤ l_30.length then if 0 = 0 ∧ (List.replicate 9 (Cell.int .i64 0)).length = 9 ∧ ((l_30.drop o_29).take 9).length = 9 then atK ((l_30.drop o_29).take 9) 0 fun q_31 => asI .i64 (.c q_31) fun n_32 => scK (n_32 == 5) false (atK ((l_30.drop o_29).take 9) 0 fun q_33 => asI .i64 (.c q_33) fun n_34 => some ((n_34 == 6), h_18)) true h_18 fun b_35 h_36 => if b_35 = true then if 0 = 0 ∧ (List.replicate 9 (Cell.int .i64 0)).length = 9 ∧ (List.replicate 9 (Cell.int .i64 0)).length = 9 then if 0 = 0 ∧ (List.replicate 9 (Cell.int .i64 0)).length = 9 then some ([(.agg (List.replicate 9 (Cell.int .i64 0))), (.c (.bool false))], h_36) else none else none else if 0 = 0 ∧ ((l_30.drop o_29).take 9).length = 9 then if 0 = 0 ∧ (List.replicate 9 (Cell.int .i64 0)).length = 9 ∧ ((l_30.drop o_29).take 9).length = 9 then if 0 = 0 ∧ ((l_30.drop o_29).take 9).length = 9 then some ([(.agg ((l_30.drop o_29).take 9)), (.c (.bool true))], h_36) else none else none else none else none else none else none := by kernel_rfl

/- jacquard/jacquardref6.Value: 92 -/
set_option maxRecDepth 100000 in
theorem jacquardref6_Value_eq (C : CallF) (L : LoopF) (G : Glo) (l0 : List Cell) (l1 : List Cell) (h0 : AHeap) :
    jacquardref6_Value.body C L G [(.agg l0), (.agg l1)] h0 =
    atK l0 0 fun q_1 => asI .i64 (.c q_1) fun n_2 => scK (decide (n_2 ≥ 0)) true (atK l0 0 fun q_3 => asI .i64 (.c q_3) fun n_4 => some ((decide (n_4 ≤ 3)), h0)) false h0 fun b_5 h_6 => if b_5 = true then atK l0 0 fun q_7 => asI .i64 (.c q_7) fun n_8 => if 0 ≤ n_8 ∧ n_8 < ((4 : Nat) : Int) then atK l1 (1 + ((Int.toNat n_8) * 1)) fun q_9 => asI .i64 (.c q_9) fun n_10 => some ([(.c (.int .i64 n_10))], h_6) else none else atK l0 1 fun q_11 => asI .i64 (.c q_11) fun n_12 => some ([(.c (.int .i64 n_12))], h_6) := by kernel_rfl

/- jacquard/jacquardref6.Compile: 101 -/
def jacquardref6_Compile_k2 (C : CallF) (L : LoopF) (G : Glo) (h0 : AHeap) : Ex → St → Option (List AV × AHeap) :=
  kSeq (fun st => jacquardref6_Compile_p1.exec C L G st (jacquardref6_Compile.fin G h0)) (jacquardref6_Compile.fin G h0)
def jacquardref6_Compile_k3 (C : CallF) (L : LoopF) (G : Glo) (h0 : AHeap) : Ex → St → Option (List AV × AHeap) :=
  kBlk 0 (jacquardref6_Compile_k2 C L G h0)
def jacquardref6_Compile_s2 (a4 : Int) (s0 : List Cell) (s1 : List Cell) (s2 : List Cell) (h : AHeap) : St := ⟨[.top, .loc 0 0, .loc 1 0, .loc 2 0, .v (.c (.int .i64 a4)), .top, .top, .top, .top, .top, .top, .top, .top, .top, .top, .top, .top, .top, .top, .top, .top, .top, .top, .top, .top, .top, .top, .top, .top, .top, .top, .top, .top, .top, .top, .top, .top, .top, .top, .top, .top, .top, .top, .top, .top, .top, .top, .top, .top, .top, .top, .top, .top, .top, .top, .top, .top, .top, .top, .top, .top, .top, .top, .top, .top, .top, .top, .top, .top, .top, .top, .top, .top, .top, .top, .top, .top, .top, .top, .top, .top, .top, .top, .top, .top, .top, .top, .top, .top, .top, .top, .top, .top, .top, .top, .top, .top], [some s0, some s1, some s2, none], h⟩
def jacquardref6_Compile_F2 (C : CallF) (L : LoopF) (G : Glo) : St → Option (Ex × St) :=
  roundF (fun st f => jacquardref6_Compile_b2.exec C L G st f) [1, 2, 3, 4] [0, 1, 2] [(1, [1, 2, 3], [0, 1, 2])]
def jacquardref6_Compile_k4 (C : CallF) (L : LoopF) (G : Glo) : Ex → St → Option (Ex × St) :=
  kSeq (fun st => jacquardref6_Compile_p2.exec C L G st (kLoop [1, 2, 3, 4] [0, 1, 2] [(1, [1, 2, 3], [0, 1, 2])])) (kLoop [1, 2, 3, 4] [0, 1, 2] [(1, [1, 2, 3], [0, 1, 2])])
def jacquardref6_Compile_k5 (C : CallF) (L : LoopF) (G : Glo) : Ex → St → Option (Ex × St) :=
  kBlk 1 (jacquardref6_Compile_k4 C L G)
def jacquardref6_Compile_k6 (C : CallF) (L : LoopF) (G : Glo) : Ex → St → Option (Ex × St) :=
  kSeq (fun st => jacquardref6_Compile_p3.exec C L G st (jacquardref6_Compile_k5 C L G)) (jacquardref6_Compile_k5 C L G)
def jacquardref6_Compile_k7 (C : CallF) (L : LoopF) (G : Glo) : Ex → St → Option (Ex × St) :=
  kBlk 2 (jacquardref6_Compile_k6 C L G)
def jacquardref6_Compile_s1 (a4 : Int) (a5 : Int) (a6 : Int) (s0 : List Cell) (s1 : List Cell) (s2 : List Cell) (h : AHeap) : St := ⟨[.top, .loc 0 0, .loc 1 0, .loc 2 0, .v (.c (.int .i64 a4)), .v (.c (.int .i64 a5)), .v (.c (.int .i64 a6)), .top, .top, .top, .top, .top, .top, .top, .top, .top, .top, .top, .top, .top, .top, .top, .top, .top, .top, .top, .top, .top, .top, .top, .top, .top, .top, .top, .top, .top, .top, .top, .top, .top, .top, .top, .top, .top, .top, .top, .top, .top, .top, .top, .top, .top, .top, .top, .top, .top, .top, .top, .top, .top, .top, .top, .top, .top, .top, .top, .top, .top, .top, .top, .top, .top, .top, .top, .top, .top, .top, .top, .top, .top, .top, .top, .top, .top, .top, .top, .top, .top, .top, .top, .top, .top, .top, .top, .top, .top, .top], [some s0, some s1, some s2, none], h⟩
def jacquardref6_Compile_F1 (C : CallF) (L : LoopF) (G : Glo) : St → Option (Ex × St) :=
  roundF (fun st f => jacquardref6_Compile_b1.exec C L G st f) [1, 2, 3, 4, 5, 6] [0, 1, 2] [(3, [1, 2, 3, 4, 5], [0, 1, 2])]
def jacquardref6_Compile_x1_3 (a4 : Int) (a5 : Int) (s0 : List Cell) (s1 : List Cell) (s2 : List Cell) (h : AHeap) : St := ⟨[.top, .loc 0 0, .loc 1 0, .loc 2 0, .v (.c (.int .i64 a4)), .v (.c (.int .i64 a5)), .top, .top, .top, .top, .top, .top, .top, .top, .top, .top, .top, .top, .top, .top, .top, .top, .top, .top, .top, .top, .top, .top, .top, .top, .top, .top, .top, .top, .top, .top, .top, .top, .top, .top, .top, .top, .top, .top, .top, .top, .top, .top, .top, .top, .top, .top, .top, .top, .top, .top, .top, .top, .top, .top, .top, .top, .top, .top, .top, .top, .top, .top, .top, .top, .top, .top, .top, .top, .top, .top, .top, .top, .top, .top, .top, .top, .top, .top, .top, .top, .top, .top, .top, .top, .top, .top, .top, .top, .top, .top, .top], [some s0, some s1, some s2, none], h⟩
def jacquardref6_Compile_x2_1 (s0 : List Cell) (s1 : List Cell) (s2 : List Cell) (h : AHeap) : St := ⟨[.top, .loc 0 0, .loc 1 0, .loc 2 0, .top, .top, .top, .top, .top, .top, .top, .top, .top, .top, .top, .top, .top, .top, .top, .top, .top, .top, .top, .top, .top, .top, .top, .top, .top, .top, .top, .top, .top, .top, .top, .top, .top, .top, .top, .top, .top, .top, .top, .top, .top, .top, .top, .top, .top, .top, .top, .top, .top, .top, .top, .top, .top, .top, .top, .top, .top, .top, .top, .top, .top, .top, .top, .top, .top, .top, .top, .top, .top, .top, .top, .top, .top, .top, .top, .top, .top, .top, .top, .top, .top, .top, .top, .top, .top, .top, .top, .top, .top, .top, .top, .top, .top], [some s0, some s1, some s2, none], h⟩
def jacquardref6_Compile_k8 (C : CallF) (L : LoopF) (G : Glo) (h0 : AHeap) : Ex → St → Option (List AV × AHeap) :=
  kSeq (fun st => jacquardref6_Compile_p4.exec C L G st (jacquardref6_Compile.fin G h0)) (jacquardref6_Compile.fin G h0)
def jacquardref6_Compile_k9 (C : CallF) (L : LoopF) (G : Glo) (h0 : AHeap) : Ex → St → Option (List AV × AHeap) :=
  kBlk 4 (jacquardref6_Compile_k8 C L G h0)
def jacquardref6_Compile_s4 (a7 : Int) (s0 : List Cell) (s1 : List Cell) (s2 : List Cell) (h : AHeap) : St := ⟨[.top, .loc 0 0, .loc 1 0, .loc 2 0, .top, .top, .top, .v (.c (.int .i64 a7)), .top, .top, .top, .top, .top, .top, .top, .top, .top, .top, .top, .top, .top, .top, .top, .top, .top, .top, .top, .top, .top, .top, .top, .top, .top, .top, .top, .top, .top, .top, .top, .top, .top, .top, .top, .top, .top, .top, .top, .top, .top, .top, .top, .top, .top, .top, .top, .top, .top, .top, .top, .top, .top, .top, .top, .top, .top, .top, .top, .top, .top, .top, .top, .top, .top, .top, .top, .top, .top, .top, .top, .top, .top, .top, .top, .top, .top, .top, .top, .top, .top, .top, .top, .top, .top, .top, .top, .top, .top], [some s0, some s1, some s2, none], h⟩
def jacquardref6_Compile_F4 (C : CallF) (L : LoopF) (G : Glo) : St → Option (Ex × St) :=
  roundF (fun st f => jacquardref6_Compile_b4.exec C L G st f) [1, 2, 3, 7] [0, 1, 2] [(5, [2, 3], [1, 2])]
def jacquardref6_Compile_k10 (C : CallF) (L : LoopF) (G : Glo) : Ex → St → Option (Ex × St) :=
  kSeq (fun st => jacquardref6_Compile_p5.exec C L G st (kLoop [1, 2, 3, 7] [0, 1, 2] [(5, [2, 3], [1, 2])])) (kLoop [1, 2, 3, 7] [0, 1, 2] [(5, [2, 3], [1, 2])])
def jacquardref6_Compile_k11 (C : CallF) (L : LoopF) (G : Glo) : Ex → St → Option (Ex × St) :=
  kBlk 5 (jacquardref6_Compile_k10 C L G)
def jacquardref6_Compile_k12 (C : CallF) (L : LoopF) (G : Glo) : Ex → St → Option (Ex × St) :=
  kSeq (fun st => jacquardref6_Compile_p6.exec C L G st (jacquardref6_Compile_k11 C L G)) (jacquardref6_Compile_k11 C L G)
def jacquardref6_Compile_k13 (C : CallF) (L : LoopF) (G : Glo) : Ex → St → Option (Ex × St) :=
  kBlk 6 (jacquardref6_Compile_k12 C L G)
def jacquardref6_Compile_s3 (a7 : Int) (x8 : Cell) (a9 : Int) (s0 : List Cell) (s1 : List Cell) (s2 : List Cell) (h : AHeap) : St := ⟨[.top, .loc 0 0, .loc 1 0, .loc 2 0, .top, .top, .top, .v (.c (.int .i64 a7)), .v (.c x8), .v (.c (.int .i64 a9)), .top, .top, .top, .top, .top, .top, .top, .top, .top, .top, .top, .top, .top, .top, .top, .top, .top, .top, .top, .top, .top, .top, .top, .top, .top, .top, .top, .top, .top, .top, .top, .top, .top, .top, .top, .top, .top, .top, .top, .top, .top, .top, .top, .top, .top, .top, .top, .top, .top, .top, .top, .top, .top, .top, .top, .top, .top, .top, .top, .top, .top, .top, .top, .top, .top, .top, .top, .top, .top, .top, .top, .top, .top, .top, .top, .top, .top, .top, .top, .top, .top, .top, .top, .top, .top, .top, .top], [some s0, some s1, some s2, none], h⟩
def jacquardref6_Compile_F3 (C : CallF) (L : LoopF) (G : Glo) : St → Option (Ex × St) :=
  roundF (fun st f => jacquardref6_Compile_b3.exec C L G st f) [1, 2, 3, 7, 8, 9] [0, 1, 2] [(7, [1, 2, 3, 7, 8], [0, 1, 2])]
def jacquardref6_Compile_x3_7 (a7 : Int) (x8 : Cell) (s0 : List Cell) (s1 : List Cell) (s2 : List Cell) (h : AHeap) : St := ⟨[.top, .loc 0 0, .loc 1 0, .loc 2 0, .top, .top, .top, .v (.c (.int .i64 a7)), .v (.c x8), .top, .top, .top, .top, .top, .top, .top, .top, .top, .top, .top, .top, .top, .top, .top, .top, .top, .top, .top, .top, .top, .top, .top, .top, .top, .top, .top, .top, .top, .top, .top, .top, .top, .top, .top, .top, .top, .top, .top, .top, .top, .top, .top, .top, .top, .top, .top, .top, .top, .top, .top, .top, .top, .top, .top, .top, .top, .top, .top, .top, .top, .top, .top, .top, .top, .top, .top, .top, .top, .top, .top, .top, .top, .top, .top, .top, .top, .top, .top, .top, .top, .top, .top, .top, .top, .top, .top, .top], [some s0, some s1, some s2, none], h⟩
def jacquardref6_Compile_x4_5 (s1 : List Cell) (s2 : List Cell) (h : AHeap) : St := ⟨[.top, .top, .loc 1 0, .loc 2 0, .top, .top, .top, .top, .top, .top, .top, .top, .top, .top, .top, .top, .top, .top, .top, .top, .top, .top, .top, .top, .top, .top, .top, .top, .top, .top, .top, .top, .top, .top, .top, .top, .top, .top, .top, .top, .top, .top, .top, .top, .top, .top, .top, .top, .top, .top, .top, .top, .top, .top, .top, .top, .top, .top, .top, .top, .top, .top, .top, .top, .top, .top, .top, .top, .top, .top, .top, .top, .top, .top, .top, .top, .top, .top, .top, .top, .top, .top, .top, .top, .top, .top, .top, .top, .top, .top, .top, .top, .top, .top, .top, .top, .top], [none, some s1, some s2, none], h⟩
theorem jacquardref6_Compile_r1 (C : CallF) (L : LoopF) (G : Glo) (a4 : Int) (a5 : Int) (a6 : Int) (s0 : List Cell) (s1 : List Cell) (s2 : List Cell) (h : AHeap) :
    jacquardref6_Compile_F1 C L G (jacquardref6_Compile_s1 a4 a5 a6 s0 s1 s2 h) =
    atK s0 1 fun q_6 => lenK q_6 fun n_7 => if (decide (a6 < n_7)) = true then atK s0 1 fun q_8 => idxSK 2 q_8 a6 fun k_9 N_10 o_11 => rdH h k_9 N_10 fun l_12 => atK l_12 (o_11 + 0) fun q_13 => asI .i64 (.c q_13) fun n_14 => atK s2 0 fun q_15 => idxSK 1 q_15 a4 fun k_16 N_17 o_18 => rdH h k_16 N_17 fun l_19 => atK l_19 o_18 fun q_20 => asI .u8 (.c q_20) fun n_21 => if (n_14 == (G.wrap .i64 n_21)) = true then atK s0 1 fun q_22 => idxSK 2 q_22 a6 fun k_23 N_24 o_25 => rdH h k_23 N_24 fun l_26 => atK l_26 (o_25 + 1) fun q_27 => asI .i64 (.c q_27) fun n_28 => some (.normal, (jacquardref6_Compile_s1 a4 n_28 (G.wrap .i64 (a6 + 1)) s0 s1 s2 h)) else some (.normal, (jacquardref6_Compile_s1 a4 a5 (G.wrap .i64 (a6 + 1)) s0 s1 s2 h)) else some ((.exit 2), (jacquardref6_Compile_x1_3 a4 a5 s0 s1 s2 h)) := by kernel_rfl
theorem jacquardref6_Compile_e1_3 (C : CallF) (L : LoopF) (G : Glo) (a4 : Int) (a5 : Int) (s0 : List Cell) (s1 : List Cell) (s2 : List Cell) (h : AHeap) :
    (jacquardref6_Compile_k7 C L G) (.exit 2) (jacquardref6_Compile_x1_3 a4 a5 s0 s1 s2 h) =
    atK s2 1 fun q_29 => if (splice [Cell.int .i64 0] 0 ([(.int .i64 a5)] : List Cell)).length = 1 * 1 then appK 1 8 q_29 (splice [Cell.int .i64 0] 0 ([(.int .i64 a5)] : List Cell)) h fun x_30 h_31 => if 1 < s2.length then some (.normal, (jacquardref6_Compile_s2 (G.wrap .i64 (a4 + 1)) s0 s1 (s2.set 1 x_30) h_31)) else none else none := by kernel_rfl
theorem jacquardref6_Compile_r2 (C : CallF) (L : LoopF) (G : Glo) (a4 : Int) (s0 : List Cell) (s1 : List Cell) (s2 : List Cell) (h : AHeap) :
    jacquardref6_Compile_F2 C L G (jacquardref6_Compile_s2 a4 s0 s1 s2 h) =
    atK s2 0 fun q_4 => lenK q_4 fun n_5 => if (decide (a4 < n_5)) = true then (L (jacquardref6_Compile_F1 C L G) (jacquardref6_Compile_s1 a4 0 0 s0 s1 s2 h)).bind fun p_32 => (jacquardref6_Compile_k7 C L G) p_32.1 p_32.2 else some ((.exit 0), (jacquardref6_Compile_x2_1 s0 s1 s2 h)) := by kernel_rfl
theorem jacquardref6_Compile_r3 (C : CallF) (L : LoopF) (G : Glo) (a7 : Int) (x8 : Cell) (a9 : Int) (s0 : List Cell) (s1 : List Cell) (s2 : List Cell) (h : AHeap) :
    jacquardref6_Compile_F3 C L G (jacquardref6_Compile_s3 a7 x8 a9 s0 s1 s2 h) =
    atK s0 2 fun q_35 => idxSK 1 q_35 a7 fun k_36 N_37 o_38 => rdH h k_36 N_37 fun l_39 => atK l_39 o_38 fun q_40 => lenK q_40 fun n_41 => if (decide (a9 < n_41)) = true then atK s0 2 fun q_42 => idxSK 1 q_42 a7 fun k_43 N_44 o_45 => rdH h k_43 N_44 fun l_46 => atK l_46 o_45 fun q_47 => idxSK 9 q_47 a9 fun k_48 N_49 o_50 => rdH h k_48 N_49 fun l_51 => if o_50 + 9 ≤ l_51.length then if 0 = 0 ∧ (List.replicate 9 (Cell.int .i64 0)).length = 9 ∧ ((l_51.drop o_50).take 9).length = 9 then atK ((l_51.drop o_50).take 9) 2 fun q_52 => asI .i64 (.c q_52) fun n_53 => if (n_53 != 0) = true then if 0 = 0 ∧ s2.length = 3 then atK ((l_51.drop o_50).take 9) 2 fun q_54 => asI .i64 (.c q_54) fun n_55 => c1 (C 122 [(.agg s2), (.c (.int .i64 n_55))] h) fun y_57 h_56 => asI .i64 y_57 fun n_58 => if 2 < ((l_51.drop o_50).take 9).length then if 0 = 0 ∧ (((l_51.drop o_50).take 9).set 2 (.int .i64 n_58)).length = 9 then if (((l_51.drop o_50).take 9).set 2 (.int .i64 n_58)).length = 9 ∧ 0 + 9 ≤ (List.replicate 9 (Cell.int .i64 0)).length then if (splice (List.replicate 9 (Cell.int .i64 0)) 0 (((l_51.drop o_50).take 9).set 2 (.int .i64 n_58))).length = 1 * 9 then appK 9 72 x8 (splice (List.replicate 9 (Cell.int .i64 0)) 0 (((l_51.drop o_50).take 9).set 2 (.int .i64 n_58))) h_56 fun x_59 h_60 => some (.normal, (jacquardref6_Compile_s3 a7 x_59 (G.wrap .i64 (a9 + 1)) s0 s1 s2 h_60)) else none else none else none else none else none else if 0 = 0 ∧ ((l_51.drop o_50).take 9).length = 9 then if ((l_51.drop o_50).take 9).length = 9 ∧ 0 + 9 ≤ (List.replicate 9 (Cell.int .i64 0)).length then if (splice (List.replicate 9 (Cell.int .i64 0)) 0 ((l_51.drop o_50).take 9)).length = 1 * 9 then appK 9 72 x8 (splice (List.replicate 9 (Cell.int .i64 0)) 0 ((l_51.drop o_50).take 9)) h fun x_61 h_62 => some (.normal, (jacquardref6_Compile_s3 a7 x_61 (G.wrap .i64 (a9 + 1)) s0 s1 s2 h_62)) else none else none else none else none else none else some ((.exit 6), (jacquardref6_Compile_x3_7 a7 x8 s0 s1 s2 h)) := by kernel_rfl
theorem jacquardref6_Compile_e3_7 (C : CallF) (L : LoopF) (G : Glo) (a7 : Int) (x8 : Cell) (s0 : List Cell) (s1 : List Cell) (s2 : List Cell) (h : AHeap) :
    (jacquardref6_Compile_k13 C L G) (.exit 6) (jacquardref6_Compile_x3_7 a7 x8 s0 s1 s2 h) =
    atK s2 2 fun q_63 => if (splice [Cell.nils] 0 ([x8] : List Cell)).length = 1 * 1 then appK 1 24 q_63 (splice [Cell.nils] 0 ([x8] : List Cell)) h fun x_64 h_65 => if 2 < s2.length then some (.normal, (jacquardref6_Compile_s4 (G.wrap .i64 (a7 + 1)) s0 s1 (s2.set 2 x_64) h_65)) else none else none := by kernel_rfl
theorem jacquardref6_Compile_r4 (C : CallF) (L : LoopF) (G : Glo) (a7 : Int) (s0 : List Cell) (s1 : List Cell) (s2 : List Cell) (h : AHeap) :
    jacquardref6_Compile_F4 C L G (jacquardref6_Compile_s4 a7 s0 s1 s2 h) =
    atK s0 2 fun q_33 => lenK q_33 fun n_34 => if (decide (a7 < n_34)) = true then (L (jacquardref6_Compile_F3 C L G) (jacquardref6_Compile_s3 a7 .nils 0 s0 s1 s2 h)).bind fun p_66 => (jacquardref6_Compile_k13 C L G) p_66.1 p_66.2 else some ((.exit 4), (jacquardref6_Compile_x4_5 s1 s2 h)) := by kernel_rfl
theorem jacquardref6_Compile_e4_5 (C : CallF) (L : LoopF) (G : Glo) (h0 : AHeap) (s1 : List Cell) (s2 : List Cell) (h : AHeap) :
    (jacquardref6_Compile_k9 C L G h0) (.exit 4) (jacquardref6_Compile_x4_5 s1 s2 h) =
    if 0 = 0 ∧ s2.length = 3 then if 0 = 0 ∧ s1.length = 3 ∧ s2.length = 3 then if 0 = 0 ∧ s2.length = 3 then some ([(.agg s2)], h) else none else none else none := by kernel_rfl
theorem jacquardref6_Compile_e2_1 (C : CallF) (L : LoopF) (G : Glo) (h0 : AHeap) (s0 : List Cell) (s1 : List Cell) (s2 : List Cell) (h : AHeap) :
    (jacquardref6_Compile_k3 C L G h0) (.exit 0) (jacquardref6_Compile_x2_1 s0 s1 s2 h) =
    (L (jacquardref6_Compile_F4 C L G) (jacquardref6_Compile_s4 0 s0 s1 s2 h)).bind fun p_67 => (jacquardref6_Compile_k9 C L G h0) p_67.1 p_67.2 := by kernel_rfl
set_option maxRecDepth 100000 in
theorem jacquardref6_Compile_eq (C : CallF) (L : LoopF) (G : Glo) (l0 : List Cell) (h0 : AHeap) :
    jacquardref6_Compile.body C L G [(.agg l0)] h0 =
    if 0 = 0 ∧ l0.length = 5 then c1 (C 121 [(.agg l0)] h0) fun y_2 h_1 => asC y_2 fun x_3 => if 0 = 0 ∧ [Cell.nils, Cell.nils, Cell.nils].length = 3 ∧ (splice [Cell.nils, Cell.nils, Cell.nils] 0 ([x_3] : List Cell)).length = 3 then (L (jacquardref6_Compile_F2 C L G) (jacquardref6_Compile_s2 0 l0 [Cell.nils, Cell.nils, Cell.nils] (splice [Cell.nils, Cell.nils, Cell.nils] 0 ([x_3] : List Cell)) h_1)).bind fun p_68 => (jacquardref6_Compile_k3 C L G h0) p_68.1 p_68.2 else none else none := by kernel_rfl

/- jacquard/jacquardref6.Start: 104 -/
set_option maxRecDepth 100000 in
theorem jacquardref6_Start_eq (C : CallF) (L : LoopF) (G : Glo) (l0 : List Cell) (a1 : Int) (h0 : AHeap) :
    jacquardref6_Start.body C L G [(.agg l0), (.c (.int .i64 a1))] h0 =
    if 0 = 0 ∧ l0.length = 3 then c1 (C 110 [(.agg l0), (.c (.int .i64 a1))] h0) fun y_2 h_1 => asB y_2 fun b_3 => if (!b_3) = true then if 0 = 0 ∧ [Cell.int .i64 0, Cell.int .i64 0, Cell.int .i64 0, Cell.int .i64 0, Cell.int .i64 0].length = 5 ∧ [Cell.int .i64 0, Cell.int .i64 0, Cell.int .i64 0, Cell.int .i64 0, Cell.int .i64 0].length = 5 then if 0 = 0 ∧ [Cell.int .i64 0, Cell.int .i64 0, Cell.int .i64 0, Cell.int .i64 0, Cell.int .i64 0].length = 5 then some ([(.agg [Cell.int .i64 0, Cell.int .i64 0, Cell.int .i64 0, Cell.int .i64 0, Cell.int .i64 0])], h_1) else none else none else if 0 = 0 ∧ l0.length = 3 then c1 (C 123 [(.agg l0), (.c (.int .i64 a1)), (.agg [Cell.int .i64 0, Cell.int .i64 0, Cell.int .i64 0, Cell.int .i64 0, Cell.int .i64 0])] h_1) fun y_5 h_4 => asA y_5 fun l_6 => if 0 = 0 ∧ [Cell.int .i64 0, Cell.int .i64 0, Cell.int .i64 0, Cell.int .i64 0, Cell.int .i64 0].length = 5 ∧ l_6.length = 5 then if 0 = 0 ∧ l_6.length = 5 then some ([(.agg l_6)], h_4) else none else none else none else none := by kernel_rfl

/- jacquard/jacquardref6.After: 107 -/
set_option maxRecDepth 100000 in
theorem jacquardref6_After_eq (C : CallF) (L : LoopF) (G : Glo) (l0 : List Cell) (a1 : Int) (l2 : List Cell) (a3 : Int) (h0 : AHeap) :
    jacquardref6_After.body C L G [(.agg l0), (.c (.int .i64 a1)), (.agg l2), (.c (.int .i64 a3))] h0 =
    if 0 = 0 ∧ l0.length = 3 then if 0 = 0 ∧ l2.length = 5 then c2 (C 81 [(.agg l0), (.c (.int .i64 a1)), (.agg l2)] h0) fun y_2 y_3 h_1 => asA y_2 fun l_4 => asB y_3 fun b_5 => if 0 = 0 ∧ (List.replicate 9 (Cell.int .i64 0)).length = 9 ∧ l_4.length = 9 then if (!b_5) = true then if 0 = 0 ∧ l2.length = 5 then if 0 = 0 ∧ [Cell.int .i64 0, Cell.int .i64 0, Cell.int .i64 0, Cell.int .i64 0, Cell.int .i64 0].length = 5 ∧ l2.length = 5 then if 0 = 0 ∧ l2.length = 5 then some ([(.agg l2)], h_1) else none else none else none else atK l_4 0 fun q_6 => asI .i64 (.c q_6) fun n_7 => scK (n_7 == 2) false (atK l_4 0 fun q_8 => asI .i64 (.c q_8) fun n_9 => some ((n_9 == 4), h_1)) true h_1 fun b_10 h_11 => if b_10 = true then atK l_4 1 fun q_12 => asI .i64 (.c q_12) fun n_13 => if 0 ≤ n_13 ∧ n_13 < ((4 : Nat) : Int) then if (1 + ((Int.toNat n_13) * 1)) < l2.length then atK (l2.set (1 + ((Int.toNat n_13) * 1)) (.int .i64 a3)) 0 fun q_14 => asI .i64 (.c q_14) fun n_15 => if 0 < (l2.set (1 + ((Int.toNat n_13) * 1)) (.int .i64 a3)).length then if 0 = 0 ∧ l0.length = 3 then if 0 = 0 ∧ ((l2.set (1 + ((Int.toNat n_13) * 1)) (.int .i64 a3)).set 0 (.int .i64 (G.wrap .i64 (n_15 + 1)))).length = 5 then c1 (C 123 [(.agg l0), (.c (.int .i64 a1)), (.agg ((l2.set (1 + ((Int.toNat n_13) * 1)) (.int .i64 a3)).set 0 (.int .i64 (G.wrap .i64 (n_15 + 1)))))] h_11) fun y_17 h_16 => asA y_17 fun l_18 => if 0 = 0 ∧ [Cell.int .i64 0, Cell.int .i64 0, Cell.int .i64 0, Cell.int .i64 0, Cell.int .i64 0].length = 5 ∧ l_18.length = 5 then if 0 = 0 ∧ l_18.length = 5 then some ([(.agg l_18)], h_16) else none else none else none else none else none else none else none else atK l2 0 fun q_19 => asI .i64 (.c q_19) fun n_20 => if 0 < l2.length then if 0 = 0 ∧ l0.length = 3 then if 0 = 0 ∧ (l2.set 0 (.int .i64 (G.wrap .i64 (n_20 + 1)))).length = 5 then c1 (C 123 [(.agg l0), (.c (.int .i64 a1)), (.agg (l2.set 0 (.int .i64 (G.wrap .i64 (n_20 + 1)))))] h_11) fun y_22 h_21 => asA y_22 fun l_23 => if 0 = 0 ∧ [Cell.int .i64 0, Cell.int .i64 0, Cell.int .i64 0, Cell.int .i64 0, Cell.int .i64 0].length = 5 ∧ l_23.length = 5 then if 0 = 0 ∧ l_23.length = 5 then some ([(.agg l_23)], h_21) else none else none else none else none else none else none else none else none := by kernel_rfl

/- jacquard/jacquardref6.there: 110 -/
set_option maxRecDepth 100000 in
theorem jacquardref6_there_eq (C : CallF) (L : LoopF) (G : Glo) (l0 : List Cell) (a1 : Int) (h0 : AHeap) :
    jacquardref6_there.body C L G [(.agg l0), (.c (.int .i64 a1))] h0 =
    scK (decide (a1 ≥ 0)) true (atK l0 2 fun q_1 => lenK q_1 fun n_2 => some ((decide (a1 < n_2)), h0)) false h0 fun b_3 h_4 => some ([(.c (.bool b_3))], h_4) := by kernel_rfl

/- jacquard/jacquardref6.Place: 122 -/
def jacquardref6_Place_k2 (C : CallF) (L : LoopF) (G : Glo) (h0 : AHeap) : Ex → St → Option (List AV × AHeap) :=
  kSeq (fun st => jacquardref6_Place_p1.exec C L G st (jacquardref6_Place.fin G h0)) (jacquardref6_Place.fin G h0)
def jacquardref6_Place_k3 (C : CallF) (L : LoopF) (G : Glo) (h0 : AHeap) : Ex → St → Option (List AV × AHeap) :=
  kBlk 0 (jacquardref6_Place_k2 C L G h0)
def jacquardref6_Place_s1 (a1 : Int) (a5 : Int) (s0 : List Cell) (h : AHeap) : St := ⟨[.top, .v (.c (.int .i64 a1)), .loc 0 0, .top, .top, .v (.c (.int .i64 a5)), .top, .top, .top, .top, .top, .top, .top, .top, .top, .top, .top, .top, .top, .top, .top, .top], [some s0], h⟩
def jacquardref6_Place_F1 (C : CallF) (L : LoopF) (G : Glo) : St → Option (Ex × St) :=
  roundF (fun st f => jacquardref6_Place_b1.exec C L G st f) [1, 2, 5] [0] [(0, [4], []), (1, [], [])]
def jacquardref6_Place_x1_0 (a4 : Int) (h : AHeap) : St := ⟨[.top, .top, .top, .top, .v (.c (.int .i64 a4)), .top, .top, .top, .top, .top, .top, .top, .top, .top, .top, .top, .top, .top, .top, .top, .top, .top], [none], h⟩
def jacquardref6_Place_x1_1 (h : AHeap) : St := ⟨[.top, .top, .top, .top, .top, .top, .top, .top, .top, .top, .top, .top, .top, .top, .top, .top, .top, .top, .top, .top, .top, .top], [none], h⟩
theorem jacquardref6_Place_r1 (C : CallF) (L : LoopF) (G : Glo) (a1 : Int) (a5 : Int) (s0 : List Cell) (h : AHeap) :
    jacquardref6_Place_F1 C L G (jacquardref6_Place_s1 a1 a5 s0 h) =
    atK s0 0 fun q_1 => lenK q_1 fun n_2 => if (decide (a5 < n_2)) = true then atK s0 0 fun q_3 => idxSK 1 q_3 a5 fun k_4 N_5 o_6 => rdH h k_4 N_5 fun l_7 => atK l_7 o_6 fun q_8 => asI .u8 (.c q_8) fun n_9 => if ((G.wrap .i64 n_9) == a1) = true then some (.ret, (jacquardref6_Place_x1_0 a5 h)) else some (.normal, (jacquardref6_Place_s1 a1 (G.wrap .i64 (a5 + 1)) s0 h)) else some ((.exit 0), (jacquardref6_Place_x1_1 h)) := by kernel_rfl
theorem jacquardref6_Place_e1_0 (C : CallF) (L : LoopF) (G : Glo) (h0 : AHeap) (a4 : Int) (h : AHeap) :
    (jacquardref6_Place_k3 C L G h0) .ret (jacquardref6_Place_x1_0 a4 h) =
    some ([(.c (.int .i64 a4))], h) := by kernel_rfl
theorem jacquardref6_Place_e1_1 (C : CallF) (L : LoopF) (G : Glo) (h0 : AHeap) (h : AHeap) :
    (jacquardref6_Place_k3 C L G h0) (.exit 0) (jacquardref6_Place_x1_1 h) =
    some ([(.c (.int .i64 (-1)))], h) := by kernel_rfl
set_option maxRecDepth 100000 in
theorem jacquardref6_Place_eq (C : CallF) (L : LoopF) (G : Glo) (l0 : List Cell) (a1 : Int) (h0 : AHeap) :
    jacquardref6_Place.body C L G [(.agg l0), (.c (.int .i64 a1))] h0 =
    (L (jacquardref6_Place_F1 C L G) (jacquardref6_Place_s1 a1 0 l0 h0)).bind fun p_10 => (jacquardref6_Place_k3 C L G h0) p_10.1 p_10.2 := by kernel_rfl

/- jacquard/jacquardref6.normal: 123 -/
def jacquardref6_normal_k2 (C : CallF) (L : LoopF) (G : Glo) (h0 : AHeap) : Ex → St → Option (List AV × AHeap) :=
  kSeq (fun st => jacquardref6_normal_p1.exec C L G st (jacquardref6_normal.fin G h0)) (jacquardref6_normal.fin G h0)
def jacquardref6_normal_k3 (C : CallF) (L : LoopF) (G : Glo) (h0 : AHeap) : Ex → St → Option (List AV × AHeap) :=
  kBlk 0 (jacquardref6_normal_k2 C L G h0)
def jacquardref6_normal_s1 (a1 : Int) (s0 : List Cell) (s1 : List Cell) (s2 : List Cell) (h : AHeap) : St := ⟨[.top, .v (.c (.int .i64 a1)), .top, .loc 0 0, .top, .loc 1 0, .loc 2 0, .top, .top, .top, .top, .top, .top, .top, .top, .top, .top, .top, .top, .top, .top, .top, .top, .top, .top, .top, .top, .top, .top, .top, .top, .top, .top, .top, .top, .top, .top, .top, .top, .top, .top, .top, .top, .top, .top, .top, .top, .top, .top, .top, .top, .top, .top, .top, .top, .top, .top, .top, .top, .top, .top, .top, .top, .top, .top, .top, .top, .top, .top, .top, .top, .top, .top, .top, .top, .top, .top, .top, .top, .top, .top], [some s0, some s1, some s2, none], h⟩
def jacquardref6_normal_F1 (C : CallF) (L : LoopF) (G : Glo) : St → Option (Ex × St) :=
  roundF (fun st f => jacquardref6_normal_b1.exec C L G st f) [1, 3, 5, 6] [0, 1, 2] [(0, [6], [2]), (1, [5, 6], [1, 2])]
def jacquardref6_normal_x1_0 (s2 : List Cell) (h : AHeap) : St := ⟨[.top, .top, .top, .top, .top, .top, .loc 2 0, .top, .top, .top, .top, .top, .top, .top, .top, .top, .top, .top, .top, .top, .top, .top, .top, .top, .top, .top, .top, .top, .top, .top, .top, .top, .top, .top, .top, .top, .top, .top, .top, .top, .top, .top, .top, .top, .top, .top, .top, .top, .top, .top, .top, .top, .top, .top, .top, .top, .top, .top, .top, .top, .top, .top, .top, .top, .top, .top, .top, .top, .top, .top, .top, .top, .top, .top, .top, .top, .top, .top, .top, .top, .top], [none, none, some s2, none], h⟩
def jacquardref6_normal_x1_1 (s1 : List Cell) (s2 : List Cell) (h : AHeap) : St := ⟨[.top, .top, .top, .top, .top, .loc 1 0, .loc 2 0, .top, .top, .top, .top, .top, .top, .top, .top, .top, .top, .top, .top, .top, .top, .top, .top, .top, .top, .top, .top, .top, .top, .top, .top, .top, .top, .top, .top, .top, .top, .top, .top, .top, .top, .top, .top, .top, .top, .top, .top, .top, .top, .top, .top, .top, .top, .top, .top, .top, .top, .top, .top, .top, .top, .top, .top, .top, .top, .top, .top, .top, .top, .top, .top, .top, .top, .top, .top, .top, .top, .top, .top, .top, .top], [none, some s1, some s2, none], h⟩
theorem jacquardref6_normal_r1 (C : CallF) (L : LoopF) (G : Glo) (a1 : Int) (s0 : List Cell) (s1 : List Cell) (s2 : List Cell) (h : AHeap) :
    jacquardref6_normal_F1 C L G (jacquardref6_normal_s1 a1 s0 s1 s2 h) =
    atK s1 0 fun q_1 => asI .i64 (.c q_1) fun n_2 => atK s0 2 fun q_3 => idxSK 1 q_3 a1 fun k_4 N_5 o_6 => rdH h k_4 N_5 fun l_7 => atK l_7 o_6 fun q_8 => lenK q_8 fun n_9 => if (decide (n_2 < n_9)) = true then atK s0 2 fun q_10 => idxSK 1 q_10 a1 fun k_11 N_12 o_13 => rdH h k_11 N_12 fun l_14 => atK l_14 o_13 fun q_15 => atK s1 0 fun q_16 => asI .i64 (.c q_16) fun n_17 => idxSK 9 q_15 n_17 fun k_18 N_19 o_20 => rdH h k_18 N_19 fun l_21 => if o_20 + 9 ≤ l_21.length then if 0 = 0 ∧ (List.replicate 9 (Cell.int .i64 0)).length = 9 ∧ ((l_21.drop o_20).take 9).length = 9 then atK ((l_21.drop o_20).take 9) 0 fun q_22 => asI .i64 (.c q_22) fun n_23 => if (n_23 == 5) = true then if 3 + 2 ≤ ((l_21.drop o_20).take 9).length then if 0 = 0 ∧ s1.length = 5 then c1 (C 92 [(.agg ((((l_21.drop o_20).take 9).drop 3).take 2)), (.agg s1)] h) fun y_25 h_24 => asI .i64 y_25 fun n_26 => atK ((l_21.drop o_20).take 9) 5 fun q_27 => asI .i64 (.c q_27) fun n_28 => if (n_28 != 0) = true then atK ((l_21.drop o_20).take 9) 5 fun q_29 => asI .i64 (.c q_29) fun n_30 => if 6 + 2 ≤ ((l_21.drop o_20).take 9).length then if 0 = 0 ∧ s1.length = 5 then c1 (qh h_24 (C 92 [(.agg ((((l_21.drop o_20).take 9).drop 6).take 2)), (.agg s1)] h_24)) fun y_32 h_31 => asI .i64 y_32 fun n_33 => c2 (qh h_24 (C 93 [(.c (.int .i64 n_30)), (.c (.int .i64 n_26)), (.c (.int .i64 n_33))] h_24)) fun y_35 y_36 h_34 => asI .i64 y_35 fun n_37 => asB y_36 fun b_38 => atK ((l_21.drop o_20).take 9) 1 fun q_39 => asI .i64 (.c q_39) fun n_40 => if 0 ≤ n_40 ∧ n_40 < ((4 : Nat) : Int) then if (1 + ((Int.toNat n_40) * 1)) < s1.length then atK (s1.set (1 + ((Int.toNat n_40) * 1)) (.int .i64 n_37)) 0 fun q_41 => asI .i64 (.c q_41) fun n_42 => if 0 < (s1.set (1 + ((Int.toNat n_40) * 1)) (.int .i64 n_37)).length then some (.normal, (jacquardref6_normal_s1 a1 s0 ((s1.set (1 + ((Int.toNat n_40) * 1)) (.int .i64 n_37)).set 0 (.int .i64 (G.wrap .i64 (n_42 + 1)))) s2 h_24)) else none else none else none else none else none else atK ((l_21.drop o_20).take 9) 1 fun q_43 => asI .i64 (.c q_43) fun n_44 => if 0 ≤ n_44 ∧ n_44 < ((4 : Nat) : Int) then if (1 + ((Int.toNat n_44) * 1)) < s1.length then atK (s1.set (1 + ((Int.toNat n_44) * 1)) (.int .i64 n_26)) 0 fun q_45 => asI .i64 (.c q_45) fun n_46 => if 0 < (s1.set (1 + ((Int.toNat n_44) * 1)) (.int .i64 n_26)).length then some (.normal, (jacquardref6_normal_s1 a1 s0 ((s1.set (1 + ((Int.toNat n_44) * 1)) (.int .i64 n_26)).set 0 (.int .i64 (G.wrap .i64 (n_46 + 1)))) s2 h_24)) else none else none else none else none else none else if (n_23 == 6) = true then if 3 + 2 ≤ ((l_21.drop o_20).take 9).length then if 0 = 0 ∧ s1.length = 5 then c1 (qh h (C 92 [(.agg ((((l_21.drop o_20).take 9).drop 3).take 2)), (.agg s1)] h)) fun y_48 h_47 => asI .i64 y_48 fun n_49 => if 6 + 2 ≤ ((l_21.drop o_20).take 9).length then if 0 = 0 ∧ s1.length = 5 then c1 (qh h (C 92 [(.agg ((((l_21.drop o_20).take 9).drop 6).take 2)), (.agg s1)] h)) fun y_51 h_50 => asI .i64 y_51 fun n_52 => if (n_49 == n_52) = true then atK s1 0 fun q_53 => asI .i64 (.c q_53) fun n_54 => atK ((l_21.drop o_20).take 9) 8 fun q_55 => asI .i64 (.c q_55) fun n_56 => if 0 < s1.length then atK (s1.set 0 (.int .i64 (G.wrap .i64 (n_54 + n_56)))) 0 fun q_57 => asI .i64 (.c q_57) fun n_58 => if 0 < (s1.set 0 (.int .i64 (G.wrap .i64 (n_54 + n_56)))).length then some (.normal, (jacquardref6_normal_s1 a1 s0 ((s1.set 0 (.int .i64 (G.wrap .i64 (n_54 + n_56)))).set 0 (.int .i64 (G.wrap .i64 (n_58 + 1)))) s2 h)) else none else none else atK s1 0 fun q_59 => asI .i64 (.c q_59) fun n_60 => if 0 < s1.length then some (.normal, (jacquardref6_normal_s1 a1 s0 (s1.set 0 (.int .i64 (G.wrap .i64 (n_60 + 1)))) s2 h)) else none else none else none else none else none else if 0 = 0 ∧ s1.length = 5 then if 0 = 0 ∧ s2.length = 5 ∧ s1.length = 5 then some (.ret, (jacquardref6_normal_x1_0 s1 h)) else none else none else none else none else some ((.exit 0), (jacquardref6_normal_x1_1 s1 s2 h)) := by kernel_rfl
theorem jacquardref6_normal_e1_0 (C : CallF) (L : LoopF) (G : Glo) (h0 : AHeap) (s2 : List Cell) (h : AHeap) :
    (jacquardref6_normal_k3 C L G h0) .ret (jacquardref6_normal_x1_0 s2 h) =
    if 0 = 0 ∧ s2.length = 5 then some ([(.agg s2)], h) else none := by kernel_rfl
theorem jacquardref6_normal_e1_1 (C : CallF) (L : LoopF) (G : Glo) (h0 : AHeap) (s1 : List Cell) (s2 : List Cell) (h : AHeap) :
    (jacquardref6_normal_k3 C L G h0) (.exit 0) (jacquardref6_normal_x1_1 s1 s2 h) =
    if 0 = 0 ∧ s1.length = 5 then if 0 = 0 ∧ s2.length = 5 ∧ s1.length = 5 then if 0 = 0 ∧ s1.length = 5 then some ([(.agg s1)], h) else none else none else none := by kernel_rfl
set_option maxRecDepth 100000 in
theorem jacquardref6_normal_eq (C : CallF) (L : LoopF) (G : Glo) (l0 : List Cell) (a1 : Int) (l2 : List Cell) (h0 : AHeap) :
    jacquardref6_normal.body C L G [(.agg l0), (.c (.int .i64 a1)), (.agg l2)] h0 =
    (L (jacquardref6_normal_F1 C L G) (jacquardref6_normal_s1 a1 l0 l2 [Cell.int .i64 0, Cell.int .i64 0, Cell.int .i64 0, Cell.int .i64 0, Cell.int .i64 0] h0)).bind fun p_61 => (jacquardref6_normal_k3 C L G h0) p_61.1 p_61.2 := by kernel_rfl


end Jq

/- The statements of relations: what their helpers come to. -/
namespace Jq
open Go

/-- A relation of pairs. -/
def ofR (n : Nat) (l : List (Int × Int)) : Nat → Nat := l.foldl (fun f p => addR n f p.1 p.2) fun _ => 0

variable {E : Env}

end Jq

namespace Jq
open Go


end Jq

/- Bits counted, and the lowest one: what math/bits comes to. -/
namespace Jq
open Go

/-- How many of the first k bits are set. -/
def pcN : Nat → Nat → Nat
  | 0, _ => 0
  | k + 1, x => x % 2 + pcN k (x / 2)

/-- How many numbers a word has. -/
def pc (x : Nat) : Nat := pcN 64 x

/-- A function of each byte. -/
def mapB (f : Nat → Nat) : Nat → Nat → Nat
  | 0, _ => 0
  | k + 1, x => f (x % 256) + 256 * mapB f k (x / 256)

def repB (c : Nat) : Nat → Nat
  | 0 => 0
  | k + 1 => c + 256 * repB c k

def fb1 (b : Nat) : Nat := ((b / 2) &&& 0x55) + (b &&& 0x55)
def fb2 (b : Nat) : Nat := ((b / 4) &&& 0x33) + (b &&& 0x33)
def fb3 (b : Nat) : Nat := (b + b / 16) &&& 0x0f

variable {E : Env}

end Jq

/- The lowest bit: what math/bits comes to. -/
namespace Jq
open Go

variable {E : Env}

end Jq

/- The numbers of a word, in order. -/
namespace Jq
open Go

/-- A word's numbers, rising. -/
def bitsL (s : Nat) : List Nat := (List.range 64).filter fun i => s.testBit i

/-- The first number; none: less than nought. -/
def firstI (s : Nat) : Int := if s = 0 then -1 else Lib.ctz 64 s

/-- What math/bits reads. -/
def TabOk (E : Env) : Prop := ∀ k, k < 64 → (E.tab 1)[k]? = (Lib.deBruijn64tab[k]?).map fun (n : Nat) => Cell.int .u8 (n : Int)

variable {E : Env}

/-- A row of natural numbers, as cells. -/
def natC (l : List Nat) : List Cell := intC .i64 (l.map fun (n : Nat) => (n : Int))

/-- A word of numbers. -/
def ofL (l : List Int) : Nat := l.foldl (fun s i => s ||| bitI i) 0

/-- The next greater word of as many numbers. -/
def nextN (s : Nat) : Nat :=
  if s = 0 then 0 else
    let up := (s + 2 ^ Lib.ctz 64 s) % 2 ^ 64
    if up = 0 then 0 else up ||| (((s ^^^ up) >>> 2) >>> Lib.ctz 64 s)

end Jq

/- Relations: joining, meeting, putting behind one another, turning, cutting down, pairs. -/
namespace Jq
open Go

/-- The word of these numbers. -/
def mkN (p : Nat → Bool) : Nat := (List.range 64).foldl (fun a j => if p j then a ||| 2 ^ j else a) 0

/-- Rows told so far. -/
def upF (T : Nat → Nat) (i : Nat) : Nat → Nat := fun j => if j < i then T j else 0

variable {E : Env}

/-- A relation by what it has. -/
def relM (n : Nat) (p : Nat → Nat → Bool) : List Cell := relL n fun i => mkN (p i)

/- Putting behind one another. -/
def orL (T : Nat → Nat) (l : List Nat) : Nat := l.foldl (fun a k => a ||| T k) 0

def thenF (n : Nat) (f g : Nat → Nat) (i : Nat) : Nat := orL (fun k => g k &&& (2 ^ n - 1)) (bitsL (f i &&& (2 ^ n - 1)))

/- Turning about. -/
/-- What has been turned: all of the rows below i, of row i what is done. -/
def invP (f : Nat → Nat) (i : Nat) (done : List Nat) : Nat → Nat := fun k => mkN fun j => (decide (j < i) && (f j).testBit k) || (decide (j = i) && decide (k ∈ done))

end Jq

/- Relations over one number: by what they have. -/
namespace Jq
open Go

def TH (n : Nat) (f g : Nat → Nat) : Nat → Nat := fun i => mkN fun j => decide (i < n) && decide (j < n) && (List.range n).any fun k => (f i).testBit k && (g k).testBit j
def UNI (n : Nat) (f g : Nat → Nat) : Nat → Nat := fun i => mkN fun j => decide (i < n) && decide (j < n) && ((f i).testBit j || (g i).testBit j)
def MIN (n : Nat) (f g : Nat → Nat) : Nat → Nat := fun i => mkN fun j => decide (i < n) && decide (j < n) && ((f i).testBit j && !(g i).testBit j)
def MEE (n : Nat) (f g : Nat → Nat) : Nat → Nat := fun i => mkN fun j => decide (i < n) && decide (j < n) && ((f i).testBit j && (g i).testBit j)
def INV (n : Nat) (f : Nat → Nat) : Nat → Nat := fun i => mkN fun j => decide (j < n) && (f j).testBit i
def KEE (n : Nat) (f : Nat → Nat) (s : Nat) : Nat → Nat := fun i => mkN fun j => decide (i < n) && s.testBit i && ((f i).testBit j && s.testBit j)

/-- All pairs are over n. -/
def Fit (n : Nat) (f : Nat → Nat) : Prop := ∀ i j, (f i).testBit j = true → i < n ∧ j < n

variable {E : Env} {n : Nat}

end Jq

/- A relation's pairs, told rising. -/
namespace Jq
open Go

/-- The pairs of one row. -/
def rowP (f : Nat → Nat) (i : Nat) : List (Int × Int) := (bitsL (f i)).map fun (k : Nat) => ((i : Int), (k : Int))

/-- All pairs. -/
def pairsP (n : Nat) (f : Nat → Nat) : List (Int × Int) := (List.range n).flatMap (rowP f)

theorem Own.keep {n : Nat} {h h' : AHeap} {x : Cell} {esz len : Nat} {cs : List Cell} (o : Own n h x esz cs len) (a : Kp h.length h h') : Own n h' x esz cs len := by
  refine ⟨o.1, o.2.imp id ?_⟩
  rintro ⟨k, rfl, hk, hb⟩
  exact ⟨k, rfl, hk, by rw [a.blk (blk_lt' hb)]; exact hb⟩

/-- Two rows lie apart. -/
def ApartB (x y : Cell) : Prop := ∀ k, isBlk y k → ¬ isBlk x k

theorem Own.apart {n m : Nat} {h : AHeap} {x y : Cell} {e1 e2 l1 l2 : Nat} {c1 c2 : List Cell} (o : Own n h x e1 c1 l1) (hm : h.length ≤ m) {h' : AHeap} (o2 : Own m h' y e2 c2 l2) : ApartB x y := by
  intro k hk hx
  rcases o.2 with ⟨rfl, _⟩ | ⟨k1, rfl, _, hb⟩
  · cases hx
  · rcases o2.2 with ⟨rfl, _⟩ | ⟨k2, rfl, hk2, _⟩
    · cases hk
    · have e1 : k1 = k := hx
      have e2 : k2 = k := hk
      have := blk_lt' hb
      omega

variable {E : Env}

end Jq

/- RelPairs: the pairs are the ones had, in order, no more; the relation of its pairs is itself. -/
namespace Jq
open Go

/-- A row's pairs below j. -/
def rowU (f : Nat → Nat) (i j : Nat) : List (Int × Int) := ((List.range j).filter fun k => (f i).testBit k).map fun (k : Nat) => ((i : Int), (k : Int))

section
variable {E : Env}
end

variable {E : Env}

end Jq

namespace Jq
open Go


end Jq

namespace Jq
open Go


end Jq

namespace Jq
open Go


end Jq

/- What a function needs of an environment. -/
namespace Jq
open Go


end Jq

namespace Jq
open Go


end Jq

/- What a function needs of an environment. -/
namespace Jq
open Go


end Jq

namespace Jq
open Go


end Jq

namespace Jq
open Go


end Jq

namespace Jq
open Go


end Jq

/- What a function needs of an environment. -/
namespace Jq
open Go


end Jq

/- What a function needs of an environment. -/
namespace Jq
open Go


end Jq

namespace Jq
open Go


end Jq

namespace Jq
open Go


end Jq

/- What a function needs of an environment. -/
namespace Jq
open Go


end Jq

namespace Jq
open Go


end Jq

namespace Jq
open Go


end Jq

/- What a function needs of an environment. -/
namespace Jq
open Go


end Jq

/- What a function needs of an environment. -/
namespace Jq
open Go


end Jq

/- What a function needs of an environment. -/
namespace Jq
open Go


end Jq

/- What a function needs of an environment. -/
namespace Jq
open Go


end Jq

/- What a function needs of an environment. -/
namespace Jq
open Go


end Jq

/- What a function needs of an environment. -/
namespace Jq
open Go


end Jq

namespace Jq
open Go


end Jq

namespace Jq
open Go


end Jq

namespace Jq
open Go


end Jq

/- What a function needs of an environment. -/
namespace Jq
open Go


end Jq

namespace Jq
open Go


end Jq

