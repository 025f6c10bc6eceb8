/- YtkgaeiihabibmaaSleepSwapsA: a part of the proof; no conditions of its own. -/
import Derived.Test.YtkgaeiihabibmaaRows
import Derived.KernelRfl
import Derived.Lib.TrailingZeros
import Derived.Test.YtkgaeiihabibmaaCoreC
set_option linter.unusedVariables false
set_option linter.unusedSimpArgs false

namespace Jq
open Go

/- jacquard/jacquardlaw17.Any: 254 -/
def jacquardlaw17_Any_b1 : IC :=
  (.seq (.seq (.reg 4 false (.op (some 15) .mov [(.t 9)]
    (.op (some 16) (.bin .lss) [(.t 15), (.k (.c (.int .i64 60)))]
    .nil)))
  (.cond (.t 16)
  .skip
  (.exit 0)))
  (.seq (.blk 1 (.seq (.reg 6 false (.op (some 19) .mov [(.t 7)]
    (.op (some 20) (.call 181 [.any]) [(.t 19)]
    (.op (some 10) .mov [(.t 20)]
    .nil))))
  (.seq (.seq (.reg 7 false (.op (some 21) .mov [(.t 10)]
    (.op (some 22) .len [(.t 21)]
    (.op (some 23) (.bin .eql) [(.t 22), (.k (.c (.int .i64 0)))]
    .nil))))
  (.cond (.t 23)
  (.seq (.reg 8 false (.op (some 24) .mov [(.t 8)]
    (.op (some 6) .mov [(.t 24)]
    .nil)))
  .ret)
  .skip))
  (.seq (.reg 9 false (.op (some 25) .mov [(.t 9)]
    (.op (some 26) (.bin .mul) [(.t 25), (.k (.c (.int .i64 3)))]
    (.op (some 11) .mov [(.t 26)]
    .nil))))
  (.seq (.seq (.reg 10 false (.op (some 27) .mov [(.t 9)]
    (.op (some 28) .mov [(.t 2)]
    (.op (some 29) .len [(.t 28)]
    (.op (some 30) (.bin .lss) [(.t 27), (.t 29)]
    .nil)))))
  (.cond (.t 30)
  (.reg 11 false (.op (some 31) .mov [(.t 2)]
    (.op (some 32) .mov [(.t 9)]
    (.op (some 33) (.idxS 1) [(.t 31), (.t 32)]
    (.op (some 34) (.ld .heap (.i .i64)) [(.t 33)]
    (.op (some 35) (.bin .and) [(.t 34), (.k (.c (.int .i64 65535)))]
    (.op (some 11) .mov [(.t 35)]
    .nil)))))))
  .skip))
  (.seq (.reg 12 false (.op (some 36) .mov [(.t 7)]
    (.op (some 37) .mov [(.t 10)]
    (.op (some 38) .mov [(.t 11)]
    (.op (some 39) .mov [(.t 10)]
    (.op (some 40) .len [(.t 39)]
    (.op (some 41) (.bin .rem) [(.t 38), (.t 40)]
    (.op (some 42) (.idxS 1) [(.t 37), (.t 41)]
    (.op (some 43) (.ld .heap (.i .i64)) [(.t 42)]
    (.op (some 44) (.call 182 [.agg, .b]) [(.t 36), (.t 43)]
    .nil))))))))))
  (.reg 13 false (.op (some 45) .mov [(.t 8)]
    (.op (some 46) .mov [(.t 10)]
    (.op (some 47) .mov [(.t 11)]
    (.op (some 48) .mov [(.t 10)]
    (.op (some 49) .len [(.t 48)]
    (.op (some 50) (.bin .rem) [(.t 47), (.t 49)]
    (.op (some 51) (.idxS 1) [(.t 46), (.t 50)]
    (.op (some 52) (.ld .heap (.i .i64)) [(.t 51)]
    (.op (some 53) (.lit 1 1 ([Cell.int .i64 0]) [(0, 1)]) [(.t 52)]
    (.op (some 54) (.app 1 8) [(.t 45), (.t 53)]
    (.op (some 8) .mov [(.t 54)]
    .nil))))))))))))))))))
  (.reg 5 false (.op (some 17) .mov [(.t 9)]
    (.op (some 18) (.bin .add) [(.t 17), (.k (.c (.int .i64 1)))]
    (.op (some 9) .mov [(.t 18)]
    .nil))))))
def jacquardlaw17_Any_p1 : IC :=
  (.seq (.reg 14 false (.op (some 55) .mov [(.t 8)]
    (.op (some 6) .mov [(.t 55)]
    .nil)))
  .ret)
def jacquardlaw17_Any : Fn := { np := 3, nt := 56, ns := 1, res := [.t 6 .any], gc := false, code :=
  (.seq (.reg 0 false (.box 3 0 (.t 0)
    (.op (some 6) .mov [(.k (.c .nils))]
    .nil)))
  (.seq (.reg 1 false (.op (some 12) (.ldAll (.slot 0) 3) [(.t 3)]
    (.op (some 13) .mov [(.t 1)]
    (.op (some 14) (.call 180 [.any]) [(.t 12), (.t 13)]
    (.op (some 7) .mov [(.t 14)]
    .nil)))))
  (.seq (.reg 2 false (.op (some 8) .mov [(.k (.c .nils))]
    .nil))
  (.seq (.seq (.reg 3 false (.op (some 9) .mov [(.k (.c (.int .i64 0)))]
    .nil))
  (.blk 0 (.loop [2, 7, 8, 9] [] [(0, [6], []), (1, [8], [])] jacquardlaw17_Any_b1)))
  jacquardlaw17_Any_p1)))) }


end Jq

namespace Jq
open Go


end Jq

/- What a function needs of an environment. -/
namespace Jq
open Go


end Jq

namespace Jq
open Go

/- jacquard/jacquardlaw6.Of: 76 -/
def jacquardlaw6_Of : Fn := { np := 2, nt := 9, ns := 1, res := [.all (.slot 0) 4 3], gc := false, code :=
  (.seq (.reg 0 false (.al 4 0 ([Cell.nils, Cell.nils, Cell.nils])
    .nil))
  (.seq (.reg 1 false (.op (some 5) .mov [(.t 0)]
    (.op (some 6) .mov [(.t 1)]
    (.op (some 7) (.call 97 [.agg]) [(.t 5), (.t 6)]
    (.op (some 8) (.call 101 [.agg]) [(.t 7)]
    (.op none (.stAll (.slot 0) 3) [(.t 4), (.t 8)]
    .nil))))))
  .ret)) }


end Jq

namespace Jq
open Go

/- jacquard/jacquardlaw3.Small: 97 -/
def jacquardlaw3_Small_p8 : IC :=
  (.cond (.t 108)
  (.seq (.reg 35 false (.op (some 113) .mov [(.t 12)]
    (.op (some 114) .mov [(.t 17)]
    (.op (some 115) .mov [(.t 15)]
    (.op (some 116) (.build (List.replicate 9 (Cell.int .i64 0)) [(0, 1), (1, 1), (2, 1)]) [(.k (.c (.int .i64 2))), (.t 114), (.t 115)]
    (.op (some 117) (.lit 9 1 (List.replicate 9 (Cell.int .i64 0)) [(0, 9)]) [(.t 116)]
    (.op (some 118) (.app 9 72) [(.t 113), (.t 117)]
    (.op (some 12) .mov [(.t 118)]
    .nil))))))))
  (.reg 36 false (.op (some 119) .mov [(.t 10)]
    (.op (some 120) (.bin .add) [(.t 119), (.k (.c (.int .i64 1)))]
    (.op (some 10) .mov [(.t 120)]
    .nil)))))
  (.seq (.reg 37 false (.op (some 122) (.bin .eql) [(.t 83), (.k (.c (.int .i64 8)))]
    (.op (some 121) .mov [(.t 122)]
    .nil)))
  (.cond (.t 121)
  (.reg 38 false (.op (some 123) .mov [(.t 12)]
    (.op (some 124) (.build (List.replicate 9 (Cell.int .i64 0)) [(0, 1)]) [(.k (.c (.int .i64 3)))]
    (.op (some 125) (.lit 9 1 (List.replicate 9 (Cell.int .i64 0)) [(0, 9)]) [(.t 124)]
    (.op (some 126) (.app 9 72) [(.t 123), (.t 125)]
    (.op (some 12) .mov [(.t 126)]
    .nil))))))
  (.seq (.reg 39 false (.op (some 128) (.bin .eql) [(.t 83), (.k (.c (.int .i64 9)))]
    (.op (some 127) .mov [(.t 128)]
    .nil)))
  (.cond (.t 127)
  (.seq (.reg 40 false (.op (some 129) .mov [(.t 12)]
    (.op (some 130) .mov [(.t 17)]
    (.op (some 131) .mov [(.t 15)]
    (.op (some 132) (.ldAll (.slot 2) 2) [(.t 16)]
    (.op (some 133) (.build ([Cell.int .i64 0, Cell.int .i64 0]) [(0, 1), (1, 1)]) [(.k (.c (.int .i64 (-1)))), (.k (.c (.int .i64 1)))]
    (.op (some 134) (.build (List.replicate 9 (Cell.int .i64 0)) [(0, 1), (1, 1), (2, 1), (3, 2), (6, 2)]) [(.k (.c (.int .i64 4))), (.t 130), (.t 131), (.t 132), (.t 133)]
    (.op (some 135) (.lit 9 1 (List.replicate 9 (Cell.int .i64 0)) [(0, 9)]) [(.t 134)]
    (.op (some 136) (.app 9 72) [(.t 129), (.t 135)]
    (.op (some 12) .mov [(.t 136)]
    .nil))))))))))
  (.reg 41 false (.op (some 137) .mov [(.t 10)]
    (.op (some 138) (.bin .add) [(.t 137), (.k (.c (.int .i64 1)))]
    (.op (some 10) .mov [(.t 138)]
    .nil)))))
  (.seq (.reg 42 false (.op (some 140) (.bin .eql) [(.t 83), (.k (.c (.int .i64 10)))]
    (.op (some 139) .mov [(.t 140)]
    .nil)))
  (.cond (.t 139)
  (.reg 43 false (.op (some 141) .mov [(.t 12)]
    (.op (some 142) .mov [(.t 17)]
    (.op (some 143) (.ldAll (.slot 2) 2) [(.t 16)]
    (.op (some 144) (.build ([Cell.int .i64 0, Cell.int .i64 0]) [(0, 1), (1, 1)]) [(.k (.c (.int .i64 (-1)))), (.k (.c (.int .i64 1)))]
    (.op (some 145) (.build (List.replicate 9 (Cell.int .i64 0)) [(0, 1), (1, 1), (3, 2), (5, 1), (6, 2)]) [(.k (.c (.int .i64 5))), (.t 142), (.t 143), (.k (.c (.int .i64 6))), (.t 144)]
    (.op (some 146) (.lit 9 1 (List.replicate 9 (Cell.int .i64 0)) [(0, 9)]) [(.t 145)]
    (.op (some 147) (.app 9 72) [(.t 141), (.t 146)]
    (.op (some 12) .mov [(.t 147)]
    .nil)))))))))
  (.seq (.reg 23 false (.op (some 84) .mov [(.t 12)]
    (.op (some 85) (.ldAll (.slot 2) 2) [(.t 16)]
    (.op (some 86) (.build ([Cell.int .i64 0, Cell.int .i64 0]) [(0, 1)]) [(.k (.c (.int .i64 (-1))))]
    (.op (some 87) (.build (List.replicate 9 (Cell.int .i64 0)) [(0, 1), (3, 2), (6, 2), (8, 1)]) [(.k (.c (.int .i64 6))), (.t 85), (.t 86), (.k (.c (.int .i64 1)))]
    (.op (some 88) .mov [(.t 15)]
    (.op (some 89) (.build ([Cell.int .i64 0, Cell.int .i64 0]) [(0, 1), (1, 1)]) [(.k (.c (.int .i64 (-1)))), (.k (.c (.int .i64 2)))]
    (.op (some 90) (.build (List.replicate 9 (Cell.int .i64 0)) [(0, 1), (2, 1), (3, 2)]) [(.k (.c (.int .i64 1))), (.t 88), (.t 89)]
    (.op (some 91) (.lit 9 2 (List.replicate 18 (Cell.int .i64 0)) [(0, 9), (9, 9)]) [(.t 87), (.t 90)]
    (.op (some 92) (.app 9 72) [(.t 84), (.t 91)]
    (.op (some 12) .mov [(.t 92)]
    .nil)))))))))))
  (.reg 24 false (.op (some 93) .mov [(.t 10)]
    (.op (some 94) (.bin .add) [(.t 93), (.k (.c (.int .i64 1)))]
    (.op (some 10) .mov [(.t 94)]
    .nil))))))))))))
def jacquardlaw3_Small_p7 : IC :=
  (.cond (.t 95)
  (.seq (.reg 29 false (.op (some 100) .mov [(.t 12)]
    (.op (some 101) .mov [(.t 15)]
    (.op (some 102) (.ldAll (.slot 2) 2) [(.t 16)]
    (.op (some 103) (.build (List.replicate 9 (Cell.int .i64 0)) [(0, 1), (2, 1), (3, 2)]) [(.k (.c (.int .i64 1))), (.t 101), (.t 102)]
    (.op (some 104) (.lit 9 1 (List.replicate 9 (Cell.int .i64 0)) [(0, 9)]) [(.t 103)]
    (.op (some 105) (.app 9 72) [(.t 100), (.t 104)]
    (.op (some 12) .mov [(.t 105)]
    .nil))))))))
  (.reg 30 false (.op (some 106) .mov [(.t 10)]
    (.op (some 107) (.bin .add) [(.t 106), (.k (.c (.int .i64 1)))]
    (.op (some 10) .mov [(.t 107)]
    .nil)))))
  (.cut [1, 4, 5, 7, 8, 9, 10, 11, 12, 13, 15, 16, 17, 83, 108] [0, 1, 2] [] (.seq (.reg 31 false (.op (some 109) (.bin .eql) [(.t 83), (.k (.c (.int .i64 4)))]
    (.op (some 108) .mov [(.t 109)]
    .nil)))
  (.cond (.t 108)
  .skip
  (.seq (.reg 32 false (.op (some 110) (.bin .eql) [(.t 83), (.k (.c (.int .i64 5)))]
    (.op (some 108) .mov [(.t 110)]
    .nil)))
  (.cond (.t 108)
  .skip
  (.seq (.reg 33 false (.op (some 111) (.bin .eql) [(.t 83), (.k (.c (.int .i64 6)))]
    (.op (some 108) .mov [(.t 111)]
    .nil)))
  (.cond (.t 108)
  .skip
  (.reg 34 false (.op (some 112) (.bin .eql) [(.t 83), (.k (.c (.int .i64 7)))]
    (.op (some 108) .mov [(.t 112)]
    .nil)))))))))
  jacquardlaw3_Small_p8))
def jacquardlaw3_Small_p6 : IC :=
  (.seq (.reg 21 false (.op (some 79) .mov [(.t 14)]
    (.op (some 80) (.bin .shr) [(.t 79), (.k (.c (.int .u64 11)))]
    (.op (some 81) (.bin .and) [(.t 80), (.k (.c (.int .i64 1)))]
    (.op (some 17) .mov [(.t 81)]
    .nil)))))
  (.seq (.reg 22 false (.op (some 82) .mov [(.t 14)]
    (.op (some 83) (.bin .rem) [(.t 82), (.k (.c (.int .i64 12)))]
    .nil)))
  (.blk 4 (.cut [1, 4, 5, 7, 8, 9, 10, 11, 12, 13, 15, 16, 17, 83, 95] [0, 1, 2] [] (.seq (.reg 25 false (.op (some 96) (.bin .eql) [(.t 83), (.k (.c (.int .i64 0)))]
    (.op (some 95) .mov [(.t 96)]
    .nil)))
  (.cond (.t 95)
  .skip
  (.seq (.reg 26 false (.op (some 97) (.bin .eql) [(.t 83), (.k (.c (.int .i64 1)))]
    (.op (some 95) .mov [(.t 97)]
    .nil)))
  (.cond (.t 95)
  .skip
  (.seq (.reg 27 false (.op (some 98) (.bin .eql) [(.t 83), (.k (.c (.int .i64 2)))]
    (.op (some 95) .mov [(.t 98)]
    .nil)))
  (.cond (.t 95)
  .skip
  (.reg 28 false (.op (some 99) (.bin .eql) [(.t 83), (.k (.c (.int .i64 3)))]
    (.op (some 95) .mov [(.t 99)]
    .nil)))))))))
  jacquardlaw3_Small_p7))))
def jacquardlaw3_Small_p5 : IC :=
  (.reg 15 false (.op (some 58) .mov [(.t 13)]
    (.op (some 59) (.bin .sub) [(.t 58), (.k (.c (.int .i64 1)))]
    (.op (some 13) .mov [(.t 59)]
    .nil))))
def jacquardlaw3_Small_b1 : IC :=
  (.seq (.seq (.reg 14 false (.op (some 51) .mov [(.t 13)]
    (.op (some 52) (.bin .gtr) [(.t 51), (.k (.c (.int .i64 0)))]
    (.op (some 53) .mov [(.t 52)]
    (.sc 53 true (.op (some 54) .mov [(.t 10)]
    (.op (some 55) .mov [(.t 1)]
    (.op (some 56) (.bin .lss) [(.t 54), (.t 55)]
    .nil))) 56 57 false
    .nil)))))
  (.cond (.t 57)
  .skip
  (.exit 2)))
  (.seq (.blk 3 (.seq (.reg 16 false (.op (some 60) .mov [(.t 7)]
    (.op (some 61) (.callv [(.i .i64)]) [(.t 60)]
    (.op (some 14) .mov [(.t 61)]
    .nil))))
  (.seq (.reg 17 false (.op (some 62) .mov [(.t 14)]
    (.op (some 63) (.bin .shr) [(.t 62), (.k (.c (.int .u64 4)))]
    (.op (some 64) .mov [(.t 9)]
    (.op (some 65) (.bin .rem) [(.t 63), (.t 64)]
    (.op (some 66) (.bin .add) [(.k (.c (.int .i64 120))), (.t 65)]
    (.op (some 15) .mov [(.t 66)]
    .nil)))))))
  (.seq (.reg 18 false (.op (some 67) .mov [(.t 14)]
    (.op (some 68) (.bin .shr) [(.t 67), (.k (.c (.int .u64 6)))]
    (.op (some 69) (.bin .rem) [(.t 68), (.k (.c (.int .i64 3)))]
    (.op (some 70) (.build ([Cell.int .i64 0, Cell.int .i64 0]) [(0, 1), (1, 1)]) [(.k (.c (.int .i64 (-1)))), (.t 69)]
    (.al 16 2 ([Cell.int .i64 0, Cell.int .i64 0])
    (.op none (.stAll (.slot 2) 2) [(.t 16), (.t 70)]
    .nil)))))))
  (.cut [1, 4, 5, 7, 8, 9, 10, 11, 12, 13, 14, 15, 16] [0, 1, 2] [] (.seq (.reg 19 false (.op (some 71) .mov [(.t 14)]
    (.op (some 72) (.bin .shr) [(.t 71), (.k (.c (.int .u64 8)))]
    (.op (some 73) (.bin .rem) [(.t 72), (.k (.c (.int .i64 3)))]
    (.op (some 74) (.bin .eql) [(.t 73), (.k (.c (.int .i64 0)))]
    .nil)))))
  (.cond (.t 74)
  (.reg 20 false (.op (some 75) .mov [(.t 14)]
    (.op (some 76) (.bin .shr) [(.t 75), (.k (.c (.int .u64 10)))]
    (.op (some 77) (.bin .and) [(.t 76), (.k (.c (.int .i64 1)))]
    (.op (some 78) (.build ([Cell.int .i64 0, Cell.int .i64 0]) [(0, 1)]) [(.t 77)]
    (.op none (.stAll (.slot 2) 2) [(.t 16), (.t 78)]
    .nil))))))
  .skip))
  jacquardlaw3_Small_p6)))))
  jacquardlaw3_Small_p5))
def jacquardlaw3_Small_p4 : IC :=
  (.reg 44 false (.op (some 148) (.addr 2) [(.t 5)]
    (.op (some 149) (.ld (.slot 1) .any) [(.t 148)]
    (.op (some 150) .mov [(.t 12)]
    (.op (some 151) (.lit 1 1 ([Cell.nils]) [(0, 1)]) [(.t 150)]
    (.op (some 152) (.app 1 24) [(.t 149), (.t 151)]
    (.op (some 153) (.addr 2) [(.t 5)]
    (.op none (.st (.slot 1)) [(.t 153), (.t 152)]
    .nil))))))))
def jacquardlaw3_Small_p3 : IC :=
  (.reg 11 false (.op (some 45) .mov [(.t 11)]
    (.op (some 46) (.bin .add) [(.t 45), (.k (.c (.int .i64 1)))]
    (.op (some 11) .mov [(.t 46)]
    .nil))))
def jacquardlaw3_Small_b2 : IC :=
  (.seq (.seq (.reg 10 false (.op (some 42) .mov [(.t 11)]
    (.op (some 43) .mov [(.t 8)]
    (.op (some 44) (.bin .lss) [(.t 42), (.t 43)]
    .nil))))
  (.cond (.t 44)
  .skip
  (.exit 0)))
  (.seq (.blk 1 (.seq (.reg 12 false (.op (some 12) .mov [(.k (.c .nils))]
    .nil))
  (.seq (.seq (.reg 13 false (.op (some 47) .mov [(.t 7)]
    (.op (some 48) (.callv [(.i .i64)]) [(.t 47)]
    (.op (some 49) (.bin .rem) [(.t 48), (.k (.c (.int .i64 3)))]
    (.op (some 50) (.bin .add) [(.t 49), (.k (.c (.int .i64 1)))]
    (.op (some 13) .mov [(.t 50)]
    .nil))))))
  (.blk 2 (.loop [1, 4, 5, 7, 8, 9, 10, 11, 12, 13] [0, 1] [(3, [1, 4, 5, 7, 8, 9, 10, 11, 12], [0, 1])] jacquardlaw3_Small_b1)))
  jacquardlaw3_Small_p4)))
  jacquardlaw3_Small_p3))
def jacquardlaw3_Small_p2 : IC :=
  (.seq (.seq (.reg 45 false (.op (some 154) .mov [(.t 7)]
    (.op (some 155) (.callv [(.i .i64)]) [(.t 154)]
    (.op (some 18) .mov [(.t 155)]
    .nil))))
  (.seq (.reg 46 false (.op (some 156) .mov [(.t 18)]
    (.op (some 157) (.bin .rem) [(.t 156), (.k (.c (.int .i64 3)))]
    (.op (some 158) (.bin .eql) [(.t 157), (.k (.c (.int .i64 0)))]
    .nil))))
  (.cond (.t 158)
  (.reg 47 false (.op (some 159) .mov [(.t 18)]
    (.op (some 160) (.bin .quo) [(.t 159), (.k (.c (.int .i64 3)))]
    (.op (some 161) (.bin .rem) [(.t 160), (.k (.c (.int .i64 2)))]
    (.op (some 162) (.bin .add) [(.t 161), (.k (.c (.int .i64 1)))]
    (.op (some 163) .mov [(.t 18)]
    (.op (some 164) (.bin .shr) [(.t 163), (.k (.c (.int .u64 3)))]
    (.op (some 165) (.bin .and) [(.t 164), (.k (.c (.int .i64 1)))]
    (.op (some 166) .mov [(.t 18)]
    (.op (some 167) (.bin .shr) [(.t 166), (.k (.c (.int .u64 4)))]
    (.op (some 168) (.bin .and) [(.t 167), (.k (.c (.int .i64 1)))]
    (.op (some 169) (.build ([Cell.int .i64 0, Cell.int .i64 0, Cell.int .i64 0, Cell.int .i64 0]) [(0, 1), (1, 1), (3, 1)]) [(.k (.c (.int .i64 0))), (.t 165), (.t 168)]
    (.op (some 170) (.bslice 4 1 ([Cell.int .i64 0, Cell.int .i64 0, Cell.int .i64 0, Cell.int .i64 0]) [(0, 4)]) [(.t 169)]
    (.op (some 171) .mov [(.t 18)]
    (.op (some 172) (.bin .shr) [(.t 171), (.k (.c (.int .u64 5)))]
    (.op (some 173) (.bin .rem) [(.t 172), (.k (.c (.int .i64 3)))]
    (.op (some 174) (.build ([Cell.int .i64 0, Cell.int .i64 0, Cell.int .i64 0, Cell.int .i64 0]) [(0, 1), (2, 1), (3, 1)]) [(.k (.c (.int .i64 (-1)))), (.k (.c (.int .i64 120))), (.t 173)]
    (.op (some 175) .mov [(.t 18)]
    (.op (some 176) (.bin .shr) [(.t 175), (.k (.c (.int .u64 7)))]
    (.op (some 177) (.bin .and) [(.t 176), (.k (.c (.int .i64 1)))]
    (.op (some 178) (.build ([Cell.int .i64 0, Cell.int .i64 0, Cell.int .i64 0, Cell.int .i64 0]) [(0, 1), (1, 1), (3, 1)]) [(.k (.c (.int .i64 1))), (.k (.c (.int .i64 0))), (.t 177)]
    (.op (some 179) (.bslice 4 2 (List.replicate 8 (Cell.int .i64 0)) [(0, 4), (4, 4)]) [(.t 174), (.t 178)]
    (.op (some 180) (.bslice 1 2 ([Cell.nils, Cell.nils]) [(0, 1), (1, 1)]) [(.t 170), (.t 179)]
    (.op (some 181) (.build ([Cell.int .i64 0, Cell.nils]) [(0, 1), (1, 1)]) [(.t 162), (.t 180)]
    (.op (some 182) (.addr 3) [(.t 5)]
    (.op none (.stN (.slot 1) 2) [(.t 182), (.t 181)]
    .nil))))))))))))))))))))))))))
  .skip)))
  (.seq (.reg 48 false (.op (some 183) (.ldAll (.slot 1) 5) [(.t 5)]
    (.op none (.stAll (.slot 0) 5) [(.t 4), (.t 183)]
    .nil)))
  .ret))
def jacquardlaw3_Small_p1 : IC :=
  (.seq (.reg 8 false (.op (some 10) .mov [(.k (.c (.int .i64 0)))]
    .nil))
  (.seq (.seq (.reg 9 false (.op (some 11) .mov [(.k (.c (.int .i64 0)))]
    .nil))
  (.blk 0 (.loop [1, 4, 5, 7, 8, 9, 10, 11] [0, 1] [(1, [4, 5, 7], [0, 1])] jacquardlaw3_Small_b2)))
  jacquardlaw3_Small_p2))
def jacquardlaw3_Small : Fn := { np := 2, nt := 184, ns := 3, res := [.all (.slot 0) 4 5], gc := false, code :=
  (.seq (.reg 0 false (.op (some 2) .boxH [(.t 0)]
    (.al 4 0 ([Cell.str (ByteArray.mk #[]), Cell.nils, Cell.nils, Cell.int .i64 0, Cell.nils])
    .nil)))
  (.seq (.reg 1 false (.op (some 19) (.build ([Cell.str (ByteArray.mk #[]), Cell.nils, Cell.nils, Cell.int .i64 0, Cell.nils]) [(0, 1)]) [(.k (.c (.str (ByteArray.mk #[116]))))]
    (.al 5 1 ([Cell.str (ByteArray.mk #[]), Cell.nils, Cell.nils, Cell.int .i64 0, Cell.nils])
    (.op none (.stAll (.slot 1) 5) [(.t 5), (.t 19)]
    .nil))))
  (.seq (.reg 2 false (.op (some 6) (.allocH ([Cell.int .i64 0])) []
    (.op none (.st .heap) [(.t 6), (.k (.c (.int .i64 0)))]
    .nil)))
  (.seq (.reg 3 false (.op (some 20) (.mkfn 115) [(.t 6), (.t 2)]
    (.op (some 7) .mov [(.t 20)]
    .nil)))
  (.seq (.reg 4 false (.op (some 21) .mov [(.t 7)]
    (.op (some 22) (.callv [(.i .i64)]) [(.t 21)]
    (.op (some 23) (.bin .rem) [(.t 22), (.k (.c (.int .i64 2)))]
    (.op (some 24) (.bin .add) [(.t 23), (.k (.c (.int .i64 2)))]
    (.op (some 8) .mov [(.t 24)]
    .nil))))))
  (.seq (.reg 5 false (.op (some 25) .mov [(.t 7)]
    (.op (some 26) (.callv [(.i .i64)]) [(.t 25)]
    (.op (some 27) (.bin .rem) [(.t 26), (.k (.c (.int .i64 2)))]
    (.op (some 28) (.bin .add) [(.t 27), (.k (.c (.int .i64 2)))]
    (.op (some 9) .mov [(.t 28)]
    .nil))))))
  (.cut [1, 4, 5, 7, 8, 9] [0, 1] [] (.seq (.reg 6 false (.op (some 29) .mov [(.t 7)]
    (.op (some 30) (.callv [(.i .i64)]) [(.t 29)]
    (.op (some 31) (.bin .rem) [(.t 30), (.k (.c (.int .i64 4)))]
    (.op (some 32) (.bin .eql) [(.t 31), (.k (.c (.int .i64 0)))]
    .nil)))))
  (.cond (.t 32)
  (.reg 7 true (.op (some 33) (.addr 1) [(.t 5)]
    (.op (some 34) (.ld (.slot 1) .any) [(.t 33)]
    (.op (some 35) .mov [(.t 7)]
    (.op (some 36) (.callv [(.i .i64)]) [(.t 35)]
    (.op (some 37) (.bin .rem) [(.t 36), (.k (.c (.int .i64 3)))]
    (.op (some 38) (.build ([Cell.int .i64 0, Cell.int .i64 0]) [(0, 1), (1, 1)]) [(.k (.c (.int .i64 120))), (.t 37)]
    (.op (some 39) (.lit 2 1 ([Cell.int .i64 0, Cell.int .i64 0]) [(0, 2)]) [(.t 38)]
    (.op (some 40) (.app 2 16) [(.t 34), (.t 39)]
    (.op (some 41) (.addr 1) [(.t 5)]
    (.op none (.st (.slot 1)) [(.t 41), (.t 40)]
    .nil)))))))))))
  .skip))
  jacquardlaw3_Small_p1))))))) }

/- jacquard/jacquardlaw3.Small$1: 115 -/
def jacquardlaw3_Small_1 : Fn := { np := 2, nt := 15, ns := 0, res := [.t 2 (.i .i64)], gc := false, code :=
  (.seq (.reg 0 false (.op (some 2) .mov [(.k (.c (.int .i64 0)))]
    .nil))
  (.seq (.reg 1 false (.op (some 3) (.ld .heap (.i .i64)) [(.t 0)]
    (.op (some 4) (.bin .add) [(.t 3), (.k (.c (.int .i64 1)))]
    (.op none (.st .heap) [(.t 0), (.t 4)]
    .nil))))
  (.seq (.seq (.reg 2 false (.op (some 5) (.ld .heap (.i .i64)) [(.t 0)]
    (.op (some 6) (.ld .heap .any) [(.t 1)]
    (.op (some 7) .len [(.t 6)]
    (.op (some 8) (.bin .gtr) [(.t 5), (.t 7)]
    .nil)))))
  (.cond (.t 8)
  (.seq (.reg 3 false (.op (some 2) .mov [(.k (.c (.int .i64 0)))]
    .nil))
  .ret)
  .skip))
  (.seq (.reg 4 false (.op (some 9) (.ld .heap .any) [(.t 1)]
    (.op (some 10) (.ld .heap (.i .i64)) [(.t 0)]
    (.op (some 11) (.bin .sub) [(.t 10), (.k (.c (.int .i64 1)))]
    (.op (some 12) (.idxS 1) [(.t 9), (.t 11)]
    (.op (some 13) (.ld .heap (.i .i64)) [(.t 12)]
    (.op (some 14) (.bin .and) [(.t 13), (.k (.c (.int .i64 65535)))]
    (.op (some 2) .mov [(.t 14)]
    .nil))))))))
  .ret)))) }


end Jq

/- What a function needs of an environment. -/
namespace Jq
open Go

structure jacquardlaw3_Small_1_In (E : Env) : Prop where
  fn : E.fn 115 = some jacquardlaw3_Small_1

structure jacquardlaw3_Small_In (E : Env) : Prop where
  fn : E.fn 97 = some jacquardlaw3_Small
  c115 : jacquardlaw3_Small_1_In E

end Jq

namespace Jq
open Go


end Jq

/- What a function needs of an environment. -/
namespace Jq
open Go


end Jq

namespace Jq
open Go

/- jacquard/jacquardref2.Do: 93 -/
def jacquardref2_Do : Fn := { np := 3, nt := 81, ns := 0, res := [.t 6 (.i .i64), .t 7 .b], gc := false, code :=
  (.seq (.reg 0 false (.op (some 6) .mov [(.k (.c (.int .i64 0)))]
    (.op (some 7) .mov [(.k (.c (.bool false)))]
    .nil)))
  (.seq (.reg 1 false (.op (some 10) .mov [(.t 2)]
    (.op (some 11) (.conv .u64) [(.t 10)]
    (.op (some 12) (.bin .rem) [(.t 11), (.k (.c (.int .u64 64)))]
    (.op (some 8) .mov [(.t 12)]
    .nil)))))
  (.seq (.reg 2 false (.op (some 9) .mov [(.k (.c (.bool false)))]
    .nil))
  (.seq (.seq (.reg 3 false (.op (some 13) .mov [(.t 0)]
    .nil))
  (.blk 0 (.seq (.reg 5 false (.op (some 15) (.bin .eql) [(.t 13), (.k (.c (.int .i64 1)))]
    (.op (some 14) .mov [(.t 15)]
    .nil)))
  (.cond (.t 14)
  (.seq (.reg 6 false (.op (some 16) .mov [(.t 1)]
    (.op (some 17) (.conv .u64) [(.t 16)]
    (.op (some 18) .mov [(.t 2)]
    (.op (some 19) (.conv .u64) [(.t 18)]
    (.op (some 20) (.bin .add) [(.t 17), (.t 19)]
    (.op (some 21) (.conv .i64) [(.t 20)]
    (.op (some 6) .mov [(.t 21)]
    (.op (some 7) .mov [(.k (.c (.bool true)))]
    .nil)))))))))
  .ret)
  (.seq (.reg 7 false (.op (some 23) (.bin .eql) [(.t 13), (.k (.c (.int .i64 2)))]
    (.op (some 22) .mov [(.t 23)]
    .nil)))
  (.cond (.t 22)
  (.seq (.reg 8 false (.op (some 24) .mov [(.t 1)]
    (.op (some 25) (.conv .u64) [(.t 24)]
    (.op (some 26) .mov [(.t 2)]
    (.op (some 27) (.conv .u64) [(.t 26)]
    (.op (some 28) (.bin .sub) [(.t 25), (.t 27)]
    (.op (some 29) (.conv .i64) [(.t 28)]
    (.op (some 6) .mov [(.t 29)]
    (.op (some 7) .mov [(.k (.c (.bool true)))]
    .nil)))))))))
  .ret)
  (.seq (.reg 9 false (.op (some 31) (.bin .eql) [(.t 13), (.k (.c (.int .i64 3)))]
    (.op (some 30) .mov [(.t 31)]
    .nil)))
  (.cond (.t 30)
  (.seq (.reg 10 false (.op (some 32) .mov [(.t 1)]
    (.op (some 33) (.conv .u64) [(.t 32)]
    (.op (some 34) .mov [(.t 2)]
    (.op (some 35) (.conv .u64) [(.t 34)]
    (.op (some 36) (.bin .mul) [(.t 33), (.t 35)]
    (.op (some 37) (.conv .i64) [(.t 36)]
    (.op (some 6) .mov [(.t 37)]
    (.op (some 7) .mov [(.k (.c (.bool true)))]
    .nil)))))))))
  .ret)
  (.seq (.reg 11 false (.op (some 39) (.bin .eql) [(.t 13), (.k (.c (.int .i64 4)))]
    (.op (some 38) .mov [(.t 39)]
    .nil)))
  (.cond (.t 38)
  (.seq (.reg 12 false (.op (some 40) .mov [(.t 1)]
    (.op (some 41) .mov [(.t 2)]
    (.op (some 42) (.bin .and) [(.t 40), (.t 41)]
    (.op (some 6) .mov [(.t 42)]
    (.op (some 7) .mov [(.k (.c (.bool true)))]
    .nil))))))
  .ret)
  (.seq (.reg 13 false (.op (some 44) (.bin .eql) [(.t 13), (.k (.c (.int .i64 5)))]
    (.op (some 43) .mov [(.t 44)]
    .nil)))
  (.cond (.t 43)
  (.seq (.reg 14 false (.op (some 45) .mov [(.t 1)]
    (.op (some 46) .mov [(.t 2)]
    (.op (some 47) (.bin .or) [(.t 45), (.t 46)]
    (.op (some 6) .mov [(.t 47)]
    (.op (some 7) .mov [(.k (.c (.bool true)))]
    .nil))))))
  .ret)
  (.seq (.reg 15 false (.op (some 49) (.bin .eql) [(.t 13), (.k (.c (.int .i64 6)))]
    (.op (some 48) .mov [(.t 49)]
    .nil)))
  (.cond (.t 48)
  (.seq (.reg 16 false (.op (some 50) .mov [(.t 1)]
    (.op (some 51) .mov [(.t 2)]
    (.op (some 52) (.bin .xor) [(.t 50), (.t 51)]
    (.op (some 6) .mov [(.t 52)]
    (.op (some 7) .mov [(.k (.c (.bool true)))]
    .nil))))))
  .ret)
  (.seq (.reg 17 false (.op (some 54) (.bin .eql) [(.t 13), (.k (.c (.int .i64 7)))]
    (.op (some 53) .mov [(.t 54)]
    .nil)))
  (.cond (.t 53)
  (.seq (.reg 18 false (.op (some 55) .mov [(.t 1)]
    (.op (some 56) (.conv .u64) [(.t 55)]
    (.op (some 57) .mov [(.t 8)]
    (.op (some 58) (.bin .shl) [(.t 56), (.t 57)]
    (.op (some 59) (.conv .i64) [(.t 58)]
    (.op (some 6) .mov [(.t 59)]
    (.op (some 7) .mov [(.k (.c (.bool true)))]
    .nil))))))))
  .ret)
  (.seq (.reg 19 false (.op (some 61) (.bin .eql) [(.t 13), (.k (.c (.int .i64 8)))]
    (.op (some 60) .mov [(.t 61)]
    .nil)))
  (.cond (.t 60)
  (.seq (.reg 20 false (.op (some 62) .mov [(.t 1)]
    (.op (some 63) .mov [(.t 8)]
    (.op (some 64) (.bin .shr) [(.t 62), (.t 63)]
    (.op (some 6) .mov [(.t 64)]
    (.op (some 7) .mov [(.k (.c (.bool true)))]
    .nil))))))
  .ret)
  (.seq (.reg 21 false (.op (some 66) (.bin .eql) [(.t 13), (.k (.c (.int .i64 9)))]
    (.op (some 65) .mov [(.t 66)]
    .nil)))
  (.cond (.t 65)
  (.reg 22 false (.op (some 67) .mov [(.t 1)]
    (.op (some 68) .mov [(.t 2)]
    (.op (some 69) (.bin .eql) [(.t 67), (.t 68)]
    (.op (some 9) .mov [(.t 69)]
    .nil)))))
  (.seq (.reg 23 false (.op (some 71) (.bin .eql) [(.t 13), (.k (.c (.int .i64 10)))]
    (.op (some 70) .mov [(.t 71)]
    .nil)))
  (.cond (.t 70)
  (.reg 24 false (.op (some 72) .mov [(.t 1)]
    (.op (some 73) .mov [(.t 2)]
    (.op (some 74) (.bin .neq) [(.t 72), (.t 73)]
    (.op (some 9) .mov [(.t 74)]
    .nil)))))
  (.seq (.reg 25 false (.op (some 76) (.bin .eql) [(.t 13), (.k (.c (.int .i64 11)))]
    (.op (some 75) .mov [(.t 76)]
    .nil)))
  (.cond (.t 75)
  (.reg 26 false (.op (some 77) .mov [(.t 1)]
    (.op (some 78) .mov [(.t 2)]
    (.op (some 79) (.bin .lss) [(.t 77), (.t 78)]
    (.op (some 9) .mov [(.t 79)]
    .nil)))))
  (.seq (.reg 4 false (.op (some 6) .mov [(.k (.c (.int .i64 0)))]
    (.op (some 7) .mov [(.k (.c (.bool false)))]
    .nil)))
  .ret)))))))))))))))))))))))))
  (.seq (.seq (.reg 27 false (.op (some 80) .mov [(.t 9)]
    .nil))
  (.cond (.t 80)
  (.seq (.reg 28 false (.op (some 6) .mov [(.k (.c (.int .i64 1)))]
    (.op (some 7) .mov [(.k (.c (.bool true)))]
    .nil)))
  .ret)
  .skip))
  (.seq (.reg 29 false (.op (some 6) .mov [(.k (.c (.int .i64 0)))]
    (.op (some 7) .mov [(.k (.c (.bool true)))]
    .nil)))
  .ret)))))) }

/- jacquard/jacquardref2.Locs: 121 -/
def jacquardref2_Locs_b1 : IC :=
  (.seq (.seq (.reg 3 false (.op (some 11) .mov [(.t 4)]
    (.op (some 12) (.addr 1) [(.t 1)]
    (.op (some 13) (.ld (.slot 0) .any) [(.t 12)]
    (.op (some 14) .len [(.t 13)]
    (.op (some 15) (.bin .lss) [(.t 11), (.t 14)]
    .nil))))))
  (.cond (.t 15)
  .skip
  (.exit 0)))
  (.seq (.blk 1 (.reg 5 false (.op (some 18) (.addr 1) [(.t 1)]
    (.op (some 19) (.ld (.slot 0) .any) [(.t 18)]
    (.op (some 20) .mov [(.t 4)]
    (.op (some 21) (.idxS 2) [(.t 19), (.t 20)]
    (.op (some 22) (.addr 0) [(.t 21)]
    (.op (some 23) (.ld .heap (.i .i64)) [(.t 22)]
    (.op (some 24) (.bin .and) [(.t 23), (.k (.c (.int .i64 255)))]
    (.op (some 25) (.idxA 256 1) [(.t 3), (.t 24)]
    (.op none (.st (.slot 1)) [(.t 25), (.k (.c (.bool true)))]
    .nil)))))))))))
  (.reg 4 false (.op (some 16) .mov [(.t 4)]
    (.op (some 17) (.bin .add) [(.t 16), (.k (.c (.int .i64 1)))]
    (.op (some 4) .mov [(.t 17)]
    .nil))))))
def jacquardref2_Locs_b2 : IC :=
  (.seq (.seq (.reg 10 false (.op (some 33) .mov [(.t 6)]
    (.op (some 34) (.addr 2) [(.t 1)]
    (.op (some 35) (.ld (.slot 0) .any) [(.t 34)]
    (.op (some 36) .mov [(.t 5)]
    (.op (some 37) (.idxS 1) [(.t 35), (.t 36)]
    (.op (some 38) (.ld .heap .any) [(.t 37)]
    (.op (some 39) .len [(.t 38)]
    (.op (some 40) (.bin .lss) [(.t 33), (.t 39)]
    .nil)))))))))
  (.cond (.t 40)
  .skip
  (.exit 4)))
  (.seq (.blk 5 (.reg 12 false (.op (some 43) (.addr 2) [(.t 1)]
    (.op (some 44) (.ld (.slot 0) .any) [(.t 43)]
    (.op (some 45) .mov [(.t 5)]
    (.op (some 46) (.idxS 1) [(.t 44), (.t 45)]
    (.op (some 47) (.ld .heap .any) [(.t 46)]
    (.op (some 48) .mov [(.t 6)]
    (.op (some 49) (.idxS 9) [(.t 47), (.t 48)]
    (.op (some 50) (.addr 2) [(.t 49)]
    (.op (some 51) (.ld .heap (.i .i64)) [(.t 50)]
    (.op (some 52) (.bin .and) [(.t 51), (.k (.c (.int .i64 255)))]
    (.op (some 53) (.idxA 256 1) [(.t 3), (.t 52)]
    (.op none (.st (.slot 1)) [(.t 53), (.k (.c (.bool true)))]
    .nil))))))))))))))
  (.reg 11 false (.op (some 41) .mov [(.t 6)]
    (.op (some 42) (.bin .add) [(.t 41), (.k (.c (.int .i64 1)))]
    (.op (some 6) .mov [(.t 42)]
    .nil))))))
def jacquardref2_Locs_p3 : IC :=
  (.reg 8 false (.op (some 31) .mov [(.t 5)]
    (.op (some 32) (.bin .add) [(.t 31), (.k (.c (.int .i64 1)))]
    (.op (some 5) .mov [(.t 32)]
    .nil))))
def jacquardref2_Locs_b3 : IC :=
  (.seq (.seq (.reg 7 false (.op (some 26) .mov [(.t 5)]
    (.op (some 27) (.addr 2) [(.t 1)]
    (.op (some 28) (.ld (.slot 0) .any) [(.t 27)]
    (.op (some 29) .len [(.t 28)]
    (.op (some 30) (.bin .lss) [(.t 26), (.t 29)]
    .nil))))))
  (.cond (.t 30)
  .skip
  (.exit 2)))
  (.seq (.blk 3 (.seq (.reg 9 false (.op (some 6) .mov [(.k (.c (.int .i64 0)))]
    .nil))
  (.blk 4 (.loop [1, 3, 5, 6] [0, 1] [(5, [1, 3, 5], [0, 1])] jacquardref2_Locs_b2))))
  jacquardref2_Locs_p3))
def jacquardref2_Locs_b4 : IC :=
  (.seq (.seq (.reg 17 false (.op (some 62) .mov [(.t 8)]
    (.op (some 63) (.addr 3) [(.t 1)]
    (.op (some 64) (.addr 1) [(.t 63)]
    (.op (some 65) (.ld (.slot 0) .any) [(.t 64)]
    (.op (some 66) .mov [(.t 7)]
    (.op (some 67) (.idxS 1) [(.t 65), (.t 66)]
    (.op (some 68) (.ld .heap .any) [(.t 67)]
    (.op (some 69) .len [(.t 68)]
    (.op (some 70) (.bin .lss) [(.t 62), (.t 69)]
    .nil))))))))))
  (.cond (.t 70)
  .skip
  (.exit 8)))
  (.seq (.blk 9 (.reg 19 false (.op (some 73) (.addr 3) [(.t 1)]
    (.op (some 74) (.addr 1) [(.t 73)]
    (.op (some 75) (.ld (.slot 0) .any) [(.t 74)]
    (.op (some 76) .mov [(.t 7)]
    (.op (some 77) (.idxS 1) [(.t 75), (.t 76)]
    (.op (some 78) (.ld .heap .any) [(.t 77)]
    (.op (some 79) .mov [(.t 8)]
    (.op (some 80) (.idxS 4) [(.t 78), (.t 79)]
    (.op (some 81) (.addr 2) [(.t 80)]
    (.op (some 82) (.ld .heap (.i .i64)) [(.t 81)]
    (.op (some 83) (.bin .and) [(.t 82), (.k (.c (.int .i64 255)))]
    (.op (some 84) (.idxA 256 1) [(.t 3), (.t 83)]
    (.op none (.st (.slot 1)) [(.t 84), (.k (.c (.bool true)))]
    .nil)))))))))))))))
  (.reg 18 false (.op (some 71) .mov [(.t 8)]
    (.op (some 72) (.bin .add) [(.t 71), (.k (.c (.int .i64 1)))]
    (.op (some 8) .mov [(.t 72)]
    .nil))))))
def jacquardref2_Locs_p5 : IC :=
  (.reg 15 false (.op (some 60) .mov [(.t 7)]
    (.op (some 61) (.bin .add) [(.t 60), (.k (.c (.int .i64 1)))]
    (.op (some 7) .mov [(.t 61)]
    .nil))))
def jacquardref2_Locs_b5 : IC :=
  (.seq (.seq (.reg 14 false (.op (some 54) .mov [(.t 7)]
    (.op (some 55) (.addr 3) [(.t 1)]
    (.op (some 56) (.addr 1) [(.t 55)]
    (.op (some 57) (.ld (.slot 0) .any) [(.t 56)]
    (.op (some 58) .len [(.t 57)]
    (.op (some 59) (.bin .lss) [(.t 54), (.t 58)]
    .nil)))))))
  (.cond (.t 59)
  .skip
  (.exit 6)))
  (.seq (.blk 7 (.seq (.reg 16 false (.op (some 8) .mov [(.k (.c (.int .i64 0)))]
    .nil))
  (.blk 8 (.loop [1, 3, 7, 8] [0, 1] [(9, [1, 3, 7], [0, 1])] jacquardref2_Locs_b4))))
  jacquardref2_Locs_p5))
def jacquardref2_Locs_b6 : IC :=
  (.seq (.seq (.reg 22 false (.op (some 85) .mov [(.t 10)]
    (.op (some 86) (.bin .leq) [(.t 85), (.k (.c (.int .i32 122)))]
    .nil)))
  (.cond (.t 86)
  .skip
  (.exit 10)))
  (.seq (.blk 11 (.seq (.reg 24 false (.op (some 89) .mov [(.t 10)]
    (.op (some 90) (.idxA 256 1) [(.t 3), (.t 89)]
    (.op (some 91) (.ld (.slot 1) .b) [(.t 90)]
    .nil))))
  (.cond (.t 91)
  (.reg 25 false (.op (some 92) .mov [(.t 9)]
    (.op (some 93) .mov [(.t 10)]
    (.op (some 94) (.conv .u8) [(.t 93)]
    (.op (some 95) (.lit 1 1 ([Cell.int .u8 0]) [(0, 1)]) [(.t 94)]
    (.op (some 96) (.app 1 1) [(.t 92), (.t 95)]
    (.op (some 9) .mov [(.t 96)]
    .nil)))))))
  .skip)))
  (.reg 23 false (.op (some 87) .mov [(.t 10)]
    (.op (some 88) (.bin .add) [(.t 87), (.k (.c (.int .i32 1)))]
    (.op (some 10) .mov [(.t 88)]
    .nil))))))
def jacquardref2_Locs_p6 : IC :=
  (.seq (.reg 26 false (.op (some 97) .mov [(.t 9)]
    (.op (some 2) .mov [(.t 97)]
    .nil)))
  .ret)
def jacquardref2_Locs_p4 : IC :=
  (.seq (.reg 20 false (.op (some 9) .mov [(.k (.c .nils))]
    .nil))
  (.seq (.seq (.reg 21 false (.op (some 10) .mov [(.k (.c (.int .i32 97)))]
    .nil))
  (.blk 10 (.loop [3, 9, 10] [1] [(11, [9], [])] jacquardref2_Locs_b6)))
  jacquardref2_Locs_p6))
def jacquardref2_Locs_p2 : IC :=
  (.seq (.seq (.reg 13 false (.op (some 7) .mov [(.k (.c (.int .i64 0)))]
    .nil))
  (.blk 6 (.loop [1, 3, 7] [0, 1] [(7, [3], [1])] jacquardref2_Locs_b5)))
  jacquardref2_Locs_p4)
def jacquardref2_Locs_p1 : IC :=
  (.seq (.seq (.reg 6 false (.op (some 5) .mov [(.k (.c (.int .i64 0)))]
    .nil))
  (.blk 2 (.loop [1, 3, 5] [0, 1] [(3, [1, 3], [0, 1])] jacquardref2_Locs_b3)))
  jacquardref2_Locs_p2)
def jacquardref2_Locs : Fn := { np := 1, nt := 98, ns := 2, res := [.t 2 .any], gc := false, code :=
  (.seq (.reg 0 false (.box 1 0 (.t 0)
    (.op (some 2) .mov [(.k (.c .nils))]
    .nil)))
  (.seq (.reg 1 false (.al 3 1 (List.replicate 256 (Cell.bool false))
    .nil))
  (.seq (.seq (.reg 2 false (.op (some 4) .mov [(.k (.c (.int .i64 0)))]
    .nil))
  (.blk 0 (.loop [1, 3, 4] [0, 1] [(1, [1, 3], [0, 1])] jacquardref2_Locs_b1)))
  jacquardref2_Locs_p1))) }


end Jq

/- What a function needs of an environment. -/
namespace Jq
open Go

structure jacquardref2_Locs_In (E : Env) : Prop where
  fn : E.fn 121 = some jacquardref2_Locs

structure jacquardref2_Do_In (E : Env) : Prop where
  fn : E.fn 93 = some jacquardref2_Do

end Jq

namespace Jq
open Go

/- jacquard/jacquardref6.Next: 81 -/
def jacquardref6_Next : Fn := { np := 3, nt := 49, ns := 4, res := [.all (.slot 2) 6 9, .t 7 .b], gc := false, code :=
  (.seq (.reg 0 false (.box 3 0 (.t 0)
    (.box 5 1 (.t 2)
    (.al 6 2 (List.replicate 9 (Cell.int .i64 0))
    (.op (some 7) .mov [(.k (.c (.bool false)))]
    .nil)))))
  (.seq (.seq (.reg 1 true (.op (some 9) (.ldAll (.slot 0) 3) [(.t 3)]
    (.op (some 10) .mov [(.t 1)]
    (.op (some 11) (.qcall 110 [.b]) [(.t 9), (.t 10)]
    (.op (some 12) (.un .not) [(.t 11)]
    (.op (some 13) .mov [(.t 12)]
    (.sc 13 false (.op (some 14) (.addr 0) [(.t 5)]
    (.op (some 15) (.ld (.slot 1) (.i .i64)) [(.t 14)]
    (.op (some 16) (.bin .lss) [(.t 15), (.k (.c (.int .i64 0)))]
    .nil))) 16 17 true
    (.op (some 18) .mov [(.t 17)]
    (.sc 18 false (.op (some 19) (.addr 0) [(.t 5)]
    (.op (some 20) (.ld (.slot 1) (.i .i64)) [(.t 19)]
    (.op (some 21) (.addr 2) [(.t 3)]
    (.op (some 22) (.ld (.slot 0) .any) [(.t 21)]
    (.op (some 23) .mov [(.t 1)]
    (.op (some 24) (.idxS 1) [(.t 22), (.t 23)]
    (.op (some 25) (.ld .heap .any) [(.t 24)]
    (.op (some 26) .len [(.t 25)]
    (.op (some 27) (.bin .geq) [(.t 20), (.t 26)]
    .nil))))))))) 27 28 true
    .nil)))))))))
  (.cond (.t 28)
  (.seq (.reg 2 false (.op (some 29) (.build (List.replicate 9 (Cell.int .i64 0)) []) []
    (.op none (.stAll (.slot 2) 9) [(.t 6), (.t 29)]
    (.op (some 7) .mov [(.k (.c (.bool false)))]
    .nil))))
  .ret)
  .skip))
  (.seq (.reg 3 true (.op (some 30) (.addr 2) [(.t 3)]
    (.op (some 31) (.ld (.slot 0) .any) [(.t 30)]
    (.op (some 32) .mov [(.t 1)]
    (.op (some 33) (.idxS 1) [(.t 31), (.t 32)]
    (.op (some 34) (.ld .heap .any) [(.t 33)]
    (.op (some 35) (.addr 0) [(.t 5)]
    (.op (some 36) (.ld (.slot 1) (.i .i64)) [(.t 35)]
    (.op (some 37) (.idxS 9) [(.t 34), (.t 36)]
    (.op (some 38) (.ldN .heap 9) [(.t 37)]
    (.al 8 3 (List.replicate 9 (Cell.int .i64 0))
    (.op none (.stAll (.slot 3) 9) [(.t 8), (.t 38)]
    .nil))))))))))))
  (.seq (.seq (.reg 4 false (.op (some 39) (.addr 0) [(.t 8)]
    (.op (some 40) (.ld (.slot 3) (.i .i64)) [(.t 39)]
    (.op (some 41) (.bin .eql) [(.t 40), (.k (.c (.int .i64 5)))]
    (.op (some 42) .mov [(.t 41)]
    (.sc 42 false (.op (some 43) (.addr 0) [(.t 8)]
    (.op (some 44) (.ld (.slot 3) (.i .i64)) [(.t 43)]
    (.op (some 45) (.bin .eql) [(.t 44), (.k (.c (.int .i64 6)))]
    .nil))) 45 46 true
    .nil))))))
  (.cond (.t 46)
  (.seq (.reg 5 false (.op (some 47) (.build (List.replicate 9 (Cell.int .i64 0)) []) []
    (.op none (.stAll (.slot 2) 9) [(.t 6), (.t 47)]
    (.op (some 7) .mov [(.k (.c (.bool false)))]
    .nil))))
  .ret)
  .skip))
  (.seq (.reg 6 false (.op (some 48) (.ldAll (.slot 3) 9) [(.t 8)]
    (.op none (.stAll (.slot 2) 9) [(.t 6), (.t 48)]
    (.op (some 7) .mov [(.k (.c (.bool true)))]
    .nil))))
  .ret))))) }

/- jacquard/jacquardref6.Value: 92 -/
def jacquardref6_Value : Fn := { np := 2, nt := 20, ns := 2, res := [.t 4 (.i .i64)], gc := false, code :=
  (.seq (.reg 0 false (.box 2 0 (.t 0)
    (.box 3 1 (.t 1)
    (.op (some 4) .mov [(.k (.c (.int .i64 0)))]
    .nil))))
  (.seq (.seq (.reg 1 false (.op (some 5) (.addr 0) [(.t 2)]
    (.op (some 6) (.ld (.slot 0) (.i .i64)) [(.t 5)]
    (.op (some 7) (.bin .geq) [(.t 6), (.k (.c (.int .i64 0)))]
    (.op (some 8) .mov [(.t 7)]
    (.sc 8 true (.op (some 9) (.addr 0) [(.t 2)]
    (.op (some 10) (.ld (.slot 0) (.i .i64)) [(.t 9)]
    (.op (some 11) (.bin .leq) [(.t 10), (.k (.c (.int .i64 3)))]
    .nil))) 11 12 false
    .nil))))))
  (.cond (.t 12)
  (.seq (.reg 2 false (.op (some 13) (.addr 0) [(.t 2)]
    (.op (some 14) (.ld (.slot 0) (.i .i64)) [(.t 13)]
    (.op (some 15) (.addr 1) [(.t 3)]
    (.op (some 16) (.idxA 4 1) [(.t 15), (.t 14)]
    (.op (some 17) (.ld (.slot 1) (.i .i64)) [(.t 16)]
    (.op (some 4) .mov [(.t 17)]
    .nil)))))))
  .ret)
  .skip))
  (.seq (.reg 3 false (.op (some 18) (.addr 1) [(.t 2)]
    (.op (some 19) (.ld (.slot 0) (.i .i64)) [(.t 18)]
    (.op (some 4) .mov [(.t 19)]
    .nil))))
  .ret))) }

/- jacquard/jacquardref6.Compile: 101 -/
def jacquardref6_Compile_b1 : IC :=
  (.seq (.seq (.reg 7 false (.op (some 21) .mov [(.t 6)]
    (.op (some 22) (.addr 1) [(.t 1)]
    (.op (some 23) (.ld (.slot 0) .any) [(.t 22)]
    (.op (some 24) .len [(.t 23)]
    (.op (some 25) (.bin .lss) [(.t 21), (.t 24)]
    .nil))))))
  (.cond (.t 25)
  .skip
  (.exit 2)))
  (.seq (.blk 3 (.seq (.reg 9 true (.op (some 28) (.addr 1) [(.t 1)]
    (.op (some 29) (.ld (.slot 0) .any) [(.t 28)]
    (.op (some 30) .mov [(.t 6)]
    (.op (some 31) (.idxS 2) [(.t 29), (.t 30)]
    (.op (some 32) (.addr 0) [(.t 31)]
    (.op (some 33) (.ld .heap (.i .i64)) [(.t 32)]
    (.op (some 34) (.addr 0) [(.t 3)]
    (.op (some 35) (.ld (.slot 2) .any) [(.t 34)]
    (.op (some 36) .mov [(.t 4)]
    (.op (some 37) (.idxS 1) [(.t 35), (.t 36)]
    (.op (some 38) (.ld .heap (.i .u8)) [(.t 37)]
    (.op (some 39) (.conv .i64) [(.t 38)]
    (.op (some 40) (.bin .eql) [(.t 33), (.t 39)]
    .nil))))))))))))))
  (.cond (.t 40)
  (.reg 10 false (.op (some 41) (.addr 1) [(.t 1)]
    (.op (some 42) (.ld (.slot 0) .any) [(.t 41)]
    (.op (some 43) .mov [(.t 6)]
    (.op (some 44) (.idxS 2) [(.t 42), (.t 43)]
    (.op (some 45) (.addr 1) [(.t 44)]
    (.op (some 46) (.ld .heap (.i .i64)) [(.t 45)]
    (.op (some 5) .mov [(.t 46)]
    .nil))))))))
  .skip)))
  (.reg 8 false (.op (some 26) .mov [(.t 6)]
    (.op (some 27) (.bin .add) [(.t 26), (.k (.c (.int .i64 1)))]
    (.op (some 6) .mov [(.t 27)]
    .nil))))))
def jacquardref6_Compile_p3 : IC :=
  (.reg 11 false (.op (some 47) (.addr 1) [(.t 3)]
    (.op (some 48) (.ld (.slot 2) .any) [(.t 47)]
    (.op (some 49) .mov [(.t 5)]
    (.op (some 50) (.lit 1 1 ([Cell.int .i64 0]) [(0, 1)]) [(.t 49)]
    (.op (some 51) (.app 1 8) [(.t 48), (.t 50)]
    (.op (some 52) (.addr 1) [(.t 3)]
    (.op none (.st (.slot 2)) [(.t 52), (.t 51)]
    .nil))))))))
def jacquardref6_Compile_p2 : IC :=
  (.reg 4 false (.op (some 19) .mov [(.t 4)]
    (.op (some 20) (.bin .add) [(.t 19), (.k (.c (.int .i64 1)))]
    (.op (some 4) .mov [(.t 20)]
    .nil))))
def jacquardref6_Compile_b2 : IC :=
  (.seq (.seq (.reg 3 false (.op (some 14) .mov [(.t 4)]
    (.op (some 15) (.addr 0) [(.t 3)]
    (.op (some 16) (.ld (.slot 2) .any) [(.t 15)]
    (.op (some 17) .len [(.t 16)]
    (.op (some 18) (.bin .lss) [(.t 14), (.t 17)]
    .nil))))))
  (.cond (.t 18)
  .skip
  (.exit 0)))
  (.seq (.blk 1 (.seq (.reg 5 false (.op (some 5) .mov [(.k (.c (.int .i64 0)))]
    .nil))
  (.seq (.seq (.reg 6 false (.op (some 6) .mov [(.k (.c (.int .i64 0)))]
    .nil))
  (.blk 2 (.loop [1, 2, 3, 4, 5, 6] [0, 1, 2] [(3, [1, 2, 3, 4, 5], [0, 1, 2])] jacquardref6_Compile_b1)))
  jacquardref6_Compile_p3)))
  jacquardref6_Compile_p2))
def jacquardref6_Compile_b3 : IC :=
  (.seq (.seq (.reg 17 false (.op (some 60) .mov [(.t 9)]
    (.op (some 61) (.addr 2) [(.t 1)]
    (.op (some 62) (.ld (.slot 0) .any) [(.t 61)]
    (.op (some 63) .mov [(.t 7)]
    (.op (some 64) (.idxS 1) [(.t 62), (.t 63)]
    (.op (some 65) (.ld .heap .any) [(.t 64)]
    (.op (some 66) .len [(.t 65)]
    (.op (some 67) (.bin .lss) [(.t 60), (.t 66)]
    .nil)))))))))
  (.cond (.t 67)
  .skip
  (.exit 6)))
  (.seq (.blk 7 (.seq (.reg 19 false (.op (some 70) (.addr 2) [(.t 1)]
    (.op (some 71) (.ld (.slot 0) .any) [(.t 70)]
    (.op (some 72) .mov [(.t 7)]
    (.op (some 73) (.idxS 1) [(.t 71), (.t 72)]
    (.op (some 74) (.ld .heap .any) [(.t 73)]
    (.op (some 75) .mov [(.t 9)]
    (.op (some 76) (.idxS 9) [(.t 74), (.t 75)]
    (.op (some 77) (.ldN .heap 9) [(.t 76)]
    (.al 10 3 (List.replicate 9 (Cell.int .i64 0))
    (.op none (.stAll (.slot 3) 9) [(.t 10), (.t 77)]
    .nil)))))))))))
  (.seq (.seq (.reg 20 false (.op (some 78) (.addr 2) [(.t 10)]
    (.op (some 79) (.ld (.slot 3) (.i .i64)) [(.t 78)]
    (.op (some 80) (.bin .neq) [(.t 79), (.k (.c (.int .i64 0)))]
    .nil))))
  (.cond (.t 80)
  (.reg 21 false (.op (some 81) (.ldAll (.slot 2) 3) [(.t 3)]
    (.op (some 82) (.addr 2) [(.t 10)]
    (.op (some 83) (.ld (.slot 3) (.i .i64)) [(.t 82)]
    (.op (some 84) (.call 122 [(.i .i64)]) [(.t 81), (.t 83)]
    (.op (some 85) (.addr 2) [(.t 10)]
    (.op none (.st (.slot 3)) [(.t 85), (.t 84)]
    .nil)))))))
  .skip))
  (.reg 22 false (.op (some 86) .mov [(.t 8)]
    (.op (some 87) (.ldAll (.slot 3) 9) [(.t 10)]
    (.op (some 88) (.lit 9 1 (List.replicate 9 (Cell.int .i64 0)) [(0, 9)]) [(.t 87)]
    (.op (some 89) (.app 9 72) [(.t 86), (.t 88)]
    (.op (some 8) .mov [(.t 89)]
    .nil)))))))))
  (.reg 18 false (.op (some 68) .mov [(.t 9)]
    (.op (some 69) (.bin .add) [(.t 68), (.k (.c (.int .i64 1)))]
    (.op (some 9) .mov [(.t 69)]
    .nil))))))
def jacquardref6_Compile_p6 : IC :=
  (.reg 23 false (.op (some 90) (.addr 2) [(.t 3)]
    (.op (some 91) (.ld (.slot 2) .any) [(.t 90)]
    (.op (some 92) .mov [(.t 8)]
    (.op (some 93) (.lit 1 1 ([Cell.nils]) [(0, 1)]) [(.t 92)]
    (.op (some 94) (.app 1 24) [(.t 91), (.t 93)]
    (.op (some 95) (.addr 2) [(.t 3)]
    (.op none (.st (.slot 2)) [(.t 95), (.t 94)]
    .nil))))))))
def jacquardref6_Compile_p5 : IC :=
  (.reg 14 false (.op (some 58) .mov [(.t 7)]
    (.op (some 59) (.bin .add) [(.t 58), (.k (.c (.int .i64 1)))]
    (.op (some 7) .mov [(.t 59)]
    .nil))))
def jacquardref6_Compile_b4 : IC :=
  (.seq (.seq (.reg 13 false (.op (some 53) .mov [(.t 7)]
    (.op (some 54) (.addr 2) [(.t 1)]
    (.op (some 55) (.ld (.slot 0) .any) [(.t 54)]
    (.op (some 56) .len [(.t 55)]
    (.op (some 57) (.bin .lss) [(.t 53), (.t 56)]
    .nil))))))
  (.cond (.t 57)
  .skip
  (.exit 4)))
  (.seq (.blk 5 (.seq (.reg 15 false (.op (some 8) .mov [(.k (.c .nils))]
    .nil))
  (.seq (.seq (.reg 16 false (.op (some 9) .mov [(.k (.c (.int .i64 0)))]
    .nil))
  (.blk 6 (.loop [1, 2, 3, 7, 8, 9] [0, 1, 2] [(7, [1, 2, 3, 7, 8], [0, 1, 2])] jacquardref6_Compile_b3)))
  jacquardref6_Compile_p6)))
  jacquardref6_Compile_p5))
def jacquardref6_Compile_p4 : IC :=
  (.seq (.reg 24 false (.op (some 96) (.ldAll (.slot 2) 3) [(.t 3)]
    (.op none (.stAll (.slot 1) 3) [(.t 2), (.t 96)]
    .nil)))
  .ret)
def jacquardref6_Compile_p1 : IC :=
  (.seq (.seq (.reg 12 false (.op (some 7) .mov [(.k (.c (.int .i64 0)))]
    .nil))
  (.blk 4 (.loop [1, 2, 3, 7] [0, 1, 2] [(5, [2, 3], [1, 2])] jacquardref6_Compile_b4)))
  jacquardref6_Compile_p4)
def jacquardref6_Compile : Fn := { np := 1, nt := 97, ns := 4, res := [.all (.slot 1) 2 3], gc := false, code :=
  (.seq (.reg 0 false (.box 1 0 (.t 0)
    (.al 2 1 ([Cell.nils, Cell.nils, Cell.nils])
    .nil)))
  (.seq (.reg 1 false (.op (some 11) (.ldAll (.slot 0) 5) [(.t 1)]
    (.op (some 12) (.call 121 [.any]) [(.t 11)]
    (.op (some 13) (.build ([Cell.nils, Cell.nils, Cell.nils]) [(0, 1)]) [(.t 12)]
    (.al 3 2 ([Cell.nils, Cell.nils, Cell.nils])
    (.op none (.stAll (.slot 2) 3) [(.t 3), (.t 13)]
    .nil))))))
  (.seq (.seq (.reg 2 false (.op (some 4) .mov [(.k (.c (.int .i64 0)))]
    .nil))
  (.blk 0 (.loop [1, 2, 3, 4] [0, 1, 2] [(1, [1, 2, 3], [0, 1, 2])] jacquardref6_Compile_b2)))
  jacquardref6_Compile_p1))) }

/- jacquard/jacquardref6.Start: 104 -/
def jacquardref6_Start : Fn := { np := 2, nt := 14, ns := 2, res := [.all (.slot 1) 4 5], gc := false, code :=
  (.seq (.reg 0 false (.box 2 0 (.t 0)
    (.al 4 1 ([Cell.int .i64 0, Cell.int .i64 0, Cell.int .i64 0, Cell.int .i64 0, Cell.int .i64 0])
    .nil)))
  (.seq (.seq (.reg 1 false (.op (some 5) (.ldAll (.slot 0) 3) [(.t 2)]
    (.op (some 6) .mov [(.t 1)]
    (.op (some 7) (.call 110 [.b]) [(.t 5), (.t 6)]
    (.op (some 8) (.un .not) [(.t 7)]
    .nil)))))
  (.cond (.t 8)
  (.seq (.reg 2 false (.op (some 9) (.build ([Cell.int .i64 0, Cell.int .i64 0, Cell.int .i64 0, Cell.int .i64 0, Cell.int .i64 0]) []) []
    (.op none (.stAll (.slot 1) 5) [(.t 4), (.t 9)]
    .nil)))
  .ret)
  .skip))
  (.seq (.reg 3 false (.op (some 10) (.ldAll (.slot 0) 3) [(.t 2)]
    (.op (some 11) .mov [(.t 1)]
    (.op (some 12) (.build ([Cell.int .i64 0, Cell.int .i64 0, Cell.int .i64 0, Cell.int .i64 0, Cell.int .i64 0]) []) []
    (.op (some 13) (.call 123 [.agg]) [(.t 10), (.t 11), (.t 12)]
    (.op none (.stAll (.slot 1) 5) [(.t 4), (.t 13)]
    .nil))))))
  .ret))) }

/- jacquard/jacquardref6.After: 107 -/
def jacquardref6_After : Fn := { np := 4, nt := 42, ns := 4, res := [.all (.slot 2) 8 5], gc := false, code :=
  (.seq (.reg 0 false (.box 4 0 (.t 0)
    (.box 6 1 (.t 2)
    (.al 8 2 ([Cell.int .i64 0, Cell.int .i64 0, Cell.int .i64 0, Cell.int .i64 0, Cell.int .i64 0])
    .nil))))
  (.seq (.reg 1 false (.op (some 12) (.ldAll (.slot 0) 3) [(.t 4)]
    (.op (some 13) .mov [(.t 1)]
    (.op (some 14) (.ldAll (.slot 1) 5) [(.t 6)]
    (.op (some 15) (.call 81 [.agg, .b]) [(.t 12), (.t 13), (.t 14)]
    (.op (some 11) .mov [(.t 15)]
    (.op (some 16) (.ext 0) [(.t 11)]
    (.op (some 17) (.ext 1) [(.t 11)]
    (.al 9 3 (List.replicate 9 (Cell.int .i64 0))
    (.op none (.stAll (.slot 3) 9) [(.t 9), (.t 16)]
    (.op (some 10) .mov [(.t 17)]
    .nil)))))))))))
  (.seq (.seq (.reg 2 false (.op (some 18) .mov [(.t 10)]
    (.op (some 19) (.un .not) [(.t 18)]
    .nil)))
  (.cond (.t 19)
  (.seq (.reg 3 false (.op (some 20) (.ldAll (.slot 1) 5) [(.t 6)]
    (.op none (.stAll (.slot 2) 5) [(.t 8), (.t 20)]
    .nil)))
  .ret)
  .skip))
  (.seq (.seq (.reg 4 false (.op (some 21) (.addr 0) [(.t 9)]
    (.op (some 22) (.ld (.slot 3) (.i .i64)) [(.t 21)]
    (.op (some 23) (.bin .eql) [(.t 22), (.k (.c (.int .i64 2)))]
    (.op (some 24) .mov [(.t 23)]
    (.sc 24 false (.op (some 25) (.addr 0) [(.t 9)]
    (.op (some 26) (.ld (.slot 3) (.i .i64)) [(.t 25)]
    (.op (some 27) (.bin .eql) [(.t 26), (.k (.c (.int .i64 4)))]
    .nil))) 27 28 true
    .nil))))))
  (.cond (.t 28)
  (.reg 5 false (.op (some 29) (.addr 1) [(.t 9)]
    (.op (some 30) (.ld (.slot 3) (.i .i64)) [(.t 29)]
    (.op (some 31) .mov [(.t 3)]
    (.op (some 32) (.addr 1) [(.t 6)]
    (.op (some 33) (.idxA 4 1) [(.t 32), (.t 30)]
    (.op none (.st (.slot 1)) [(.t 33), (.t 31)]
    .nil)))))))
  .skip))
  (.seq (.reg 6 false (.op (some 34) (.addr 0) [(.t 6)]
    (.op (some 35) (.ld (.slot 1) (.i .i64)) [(.t 34)]
    (.op (some 36) (.bin .add) [(.t 35), (.k (.c (.int .i64 1)))]
    (.op (some 37) (.addr 0) [(.t 6)]
    (.op none (.st (.slot 1)) [(.t 37), (.t 36)]
    .nil))))))
  (.seq (.reg 7 false (.op (some 38) (.ldAll (.slot 0) 3) [(.t 4)]
    (.op (some 39) .mov [(.t 1)]
    (.op (some 40) (.ldAll (.slot 1) 5) [(.t 6)]
    (.op (some 41) (.call 123 [.agg]) [(.t 38), (.t 39), (.t 40)]
    (.op none (.stAll (.slot 2) 5) [(.t 8), (.t 41)]
    .nil))))))
  .ret)))))) }

/- jacquard/jacquardref6.there: 110 -/
def jacquardref6_there : Fn := { np := 2, nt := 14, ns := 1, res := [.t 4 .b], gc := false, code :=
  (.seq (.reg 0 false (.box 2 0 (.t 0)
    (.op (some 4) .mov [(.k (.c (.bool false)))]
    .nil)))
  (.seq (.reg 1 false (.op (some 5) .mov [(.t 1)]
    (.op (some 6) (.bin .geq) [(.t 5), (.k (.c (.int .i64 0)))]
    (.op (some 7) .mov [(.t 6)]
    (.sc 7 true (.op (some 8) .mov [(.t 1)]
    (.op (some 9) (.addr 2) [(.t 2)]
    (.op (some 10) (.ld (.slot 0) .any) [(.t 9)]
    (.op (some 11) .len [(.t 10)]
    (.op (some 12) (.bin .lss) [(.t 8), (.t 11)]
    .nil))))) 12 13 false
    (.op (some 4) .mov [(.t 13)]
    .nil))))))
  .ret)) }

/- jacquard/jacquardref6.Event: 111 -/
def jacquardref6_Event : Fn := { np := 3, nt := 45, ns := 3, res := [.all (.slot 2) 6 6], gc := false, code :=
  (.seq (.reg 0 false (.box 3 0 (.t 0)
    (.box 4 1 (.t 1)
    (.al 6 2 ([Cell.int .i64 0, Cell.int .i64 0, Cell.int .i64 0, Cell.int .i64 0, Cell.int .i64 0, Cell.int .i64 0])
    .nil))))
  (.seq (.seq (.reg 1 false (.op (some 7) (.addr 0) [(.t 3)]
    (.op (some 8) (.ld (.slot 0) (.i .i64)) [(.t 7)]
    .nil)))
  (.blk 0 (.seq (.reg 2 false (.op (some 10) (.bin .eql) [(.t 8), (.k (.c (.int .i64 1)))]
    (.op (some 9) .mov [(.t 10)]
    .nil)))
  (.cond (.t 9)
  (.seq (.reg 3 true (.op (some 11) (.addr 2) [(.t 3)]
    (.op (some 12) (.ld (.slot 0) (.i .i64)) [(.t 11)]
    (.op (some 13) (.addr 3) [(.t 3)]
    (.op (some 14) (.ldN (.slot 0) 2) [(.t 13)]
    (.op (some 15) (.ldAll (.slot 1) 5) [(.t 4)]
    (.op (some 16) (.qcall 92 [(.i .i64)]) [(.t 14), (.t 15)]
    (.op (some 17) (.build ([Cell.int .i64 0, Cell.int .i64 0, Cell.int .i64 0, Cell.int .i64 0, Cell.int .i64 0, Cell.int .i64 0]) [(2, 1), (3, 1), (5, 1)]) [(.k (.c (.int .i64 2))), (.t 12), (.t 16)]
    (.op none (.stAll (.slot 2) 6) [(.t 6), (.t 17)]
    .nil)))))))))
  .ret)
  (.seq (.reg 4 false (.op (some 19) (.bin .eql) [(.t 8), (.k (.c (.int .i64 2)))]
    (.op (some 18) .mov [(.t 19)]
    .nil)))
  (.cond (.t 18)
  (.seq (.reg 5 false (.op (some 20) (.addr 2) [(.t 3)]
    (.op (some 21) (.ld (.slot 0) (.i .i64)) [(.t 20)]
    (.op (some 22) .mov [(.t 2)]
    (.op (some 23) (.build ([Cell.int .i64 0, Cell.int .i64 0, Cell.int .i64 0, Cell.int .i64 0, Cell.int .i64 0, Cell.int .i64 0]) [(2, 1), (3, 1), (4, 1)]) [(.k (.c (.int .i64 1))), (.t 21), (.t 22)]
    (.op none (.stAll (.slot 2) 6) [(.t 6), (.t 23)]
    .nil))))))
  .ret)
  (.seq (.reg 6 false (.op (some 25) (.bin .eql) [(.t 8), (.k (.c (.int .i64 4)))]
    (.op (some 24) .mov [(.t 25)]
    .nil)))
  (.cond (.t 24)
  (.seq (.seq (.reg 7 false (.op (some 26) .mov [(.t 2)]
    (.op (some 27) (.addr 3) [(.t 3)]
    (.op (some 28) (.ldN (.slot 0) 2) [(.t 27)]
    (.op (some 29) (.ldAll (.slot 1) 5) [(.t 4)]
    (.op (some 30) (.call 92 [(.i .i64)]) [(.t 28), (.t 29)]
    (.op (some 31) (.bin .eql) [(.t 26), (.t 30)]
    .nil)))))))
  (.cond (.t 31)
  (.seq (.reg 8 true (.op (some 32) (.addr 2) [(.t 3)]
    (.op (some 33) (.ld (.slot 0) (.i .i64)) [(.t 32)]
    (.op (some 34) .mov [(.t 2)]
    (.op (some 35) (.addr 6) [(.t 3)]
    (.op (some 36) (.ldN (.slot 0) 2) [(.t 35)]
    (.op (some 37) (.ldAll (.slot 1) 5) [(.t 4)]
    (.op (some 38) (.qcall 92 [(.i .i64)]) [(.t 36), (.t 37)]
    (.op (some 39) (.build ([Cell.int .i64 0, Cell.int .i64 0, Cell.int .i64 0, Cell.int .i64 0, Cell.int .i64 0, Cell.int .i64 0]) [(2, 1), (3, 1), (4, 1), (5, 1)]) [(.k (.c (.int .i64 4))), (.t 33), (.t 34), (.t 38)]
    (.op none (.stAll (.slot 2) 6) [(.t 6), (.t 39)]
    .nil))))))))))
  .ret)
  .skip))
  (.seq (.reg 9 false (.op (some 40) (.addr 2) [(.t 3)]
    (.op (some 41) (.ld (.slot 0) (.i .i64)) [(.t 40)]
    (.op (some 42) .mov [(.t 2)]
    (.op (some 43) (.build ([Cell.int .i64 0, Cell.int .i64 0, Cell.int .i64 0, Cell.int .i64 0, Cell.int .i64 0, Cell.int .i64 0]) [(2, 1), (3, 1), (4, 1)]) [(.k (.c (.int .i64 5))), (.t 41), (.t 42)]
    (.op none (.stAll (.slot 2) 6) [(.t 6), (.t 43)]
    .nil))))))
  .ret))
  .skip))))))))
  (.seq (.reg 10 false (.op (some 44) (.build ([Cell.int .i64 0, Cell.int .i64 0, Cell.int .i64 0, Cell.int .i64 0, Cell.int .i64 0, Cell.int .i64 0]) [(2, 1)]) [(.k (.c (.int .i64 3)))]
    (.op none (.stAll (.slot 2) 6) [(.t 6), (.t 44)]
    .nil)))
  .ret))) }

/- jacquard/jacquardref6.Place: 122 -/
def jacquardref6_Place_b1 : IC :=
  (.seq (.seq (.reg 2 false (.op (some 6) .mov [(.t 5)]
    (.op (some 7) (.addr 0) [(.t 2)]
    (.op (some 8) (.ld (.slot 0) .any) [(.t 7)]
    (.op (some 9) .len [(.t 8)]
    (.op (some 10) (.bin .lss) [(.t 6), (.t 9)]
    .nil))))))
  (.cond (.t 10)
  .skip
  (.exit 0)))
  (.seq (.blk 1 (.seq (.reg 4 false (.op (some 13) (.addr 0) [(.t 2)]
    (.op (some 14) (.ld (.slot 0) .any) [(.t 13)]
    (.op (some 15) .mov [(.t 5)]
    (.op (some 16) (.idxS 1) [(.t 14), (.t 15)]
    (.op (some 17) (.ld .heap (.i .u8)) [(.t 16)]
    (.op (some 18) (.conv .i64) [(.t 17)]
    (.op (some 19) .mov [(.t 1)]
    (.op (some 20) (.bin .eql) [(.t 18), (.t 19)]
    .nil)))))))))
  (.cond (.t 20)
  (.seq (.reg 5 false (.op (some 21) .mov [(.t 5)]
    (.op (some 4) .mov [(.t 21)]
    .nil)))
  .ret)
  .skip)))
  (.reg 3 false (.op (some 11) .mov [(.t 5)]
    (.op (some 12) (.bin .add) [(.t 11), (.k (.c (.int .i64 1)))]
    (.op (some 5) .mov [(.t 12)]
    .nil))))))
def jacquardref6_Place_p1 : IC :=
  (.seq (.reg 6 false (.op (some 4) .mov [(.k (.c (.int .i64 (-1))))]
    .nil))
  .ret)
def jacquardref6_Place : Fn := { np := 2, nt := 22, ns := 1, res := [.t 4 (.i .i64)], gc := false, code :=
  (.seq (.reg 0 false (.box 2 0 (.t 0)
    (.op (some 4) .mov [(.k (.c (.int .i64 0)))]
    .nil)))
  (.seq (.seq (.reg 1 false (.op (some 5) .mov [(.k (.c (.int .i64 0)))]
    .nil))
  (.blk 0 (.loop [1, 2, 5] [0] [(0, [4], []), (1, [], [])] jacquardref6_Place_b1)))
  jacquardref6_Place_p1)) }

/- jacquard/jacquardref6.normal: 123 -/
def jacquardref6_normal_b1 : IC :=
  (.seq (.seq (.reg 1 true (.op (some 9) (.addr 0) [(.t 5)]
    (.op (some 10) (.ld (.slot 1) (.i .i64)) [(.t 9)]
    (.op (some 11) (.addr 2) [(.t 3)]
    (.op (some 12) (.ld (.slot 0) .any) [(.t 11)]
    (.op (some 13) .mov [(.t 1)]
    (.op (some 14) (.idxS 1) [(.t 12), (.t 13)]
    (.op (some 15) (.ld .heap .any) [(.t 14)]
    (.op (some 16) .len [(.t 15)]
    (.op (some 17) (.bin .lss) [(.t 10), (.t 16)]
    .nil))))))))))
  (.cond (.t 17)
  .skip
  (.exit 0)))
  (.blk 1 (.seq (.reg 2 true (.op (some 18) (.addr 2) [(.t 3)]
    (.op (some 19) (.ld (.slot 0) .any) [(.t 18)]
    (.op (some 20) .mov [(.t 1)]
    (.op (some 21) (.idxS 1) [(.t 19), (.t 20)]
    (.op (some 22) (.ld .heap .any) [(.t 21)]
    (.op (some 23) (.addr 0) [(.t 5)]
    (.op (some 24) (.ld (.slot 1) (.i .i64)) [(.t 23)]
    (.op (some 25) (.idxS 9) [(.t 22), (.t 24)]
    (.op (some 26) (.ldN .heap 9) [(.t 25)]
    (.al 7 3 (List.replicate 9 (Cell.int .i64 0))
    (.op none (.stAll (.slot 3) 9) [(.t 7), (.t 26)]
    .nil))))))))))))
  (.seq (.reg 3 false (.op (some 27) (.addr 0) [(.t 7)]
    (.op (some 28) (.ld (.slot 3) (.i .i64)) [(.t 27)]
    .nil)))
  (.blk 2 (.seq (.reg 5 false (.op (some 31) (.bin .eql) [(.t 28), (.k (.c (.int .i64 5)))]
    (.op (some 30) .mov [(.t 31)]
    .nil)))
  (.cond (.t 30)
  (.seq (.reg 6 false (.op (some 32) (.addr 3) [(.t 7)]
    (.op (some 33) (.ldN (.slot 3) 2) [(.t 32)]
    (.op (some 34) (.ldAll (.slot 1) 5) [(.t 5)]
    (.op (some 35) (.call 92 [(.i .i64)]) [(.t 33), (.t 34)]
    (.op (some 8) .mov [(.t 35)]
    .nil))))))
  (.seq (.seq (.reg 7 false (.op (some 36) (.addr 5) [(.t 7)]
    (.op (some 37) (.ld (.slot 3) (.i .i64)) [(.t 36)]
    (.op (some 38) (.bin .neq) [(.t 37), (.k (.c (.int .i64 0)))]
    .nil))))
  (.cond (.t 38)
  (.reg 8 true (.op (some 40) (.addr 5) [(.t 7)]
    (.op (some 41) (.ld (.slot 3) (.i .i64)) [(.t 40)]
    (.op (some 42) .mov [(.t 8)]
    (.op (some 43) (.addr 6) [(.t 7)]
    (.op (some 44) (.ldN (.slot 3) 2) [(.t 43)]
    (.op (some 45) (.ldAll (.slot 1) 5) [(.t 5)]
    (.op (some 46) (.qcall 92 [(.i .i64)]) [(.t 44), (.t 45)]
    (.op (some 47) (.qcall 93 [(.i .i64), .b]) [(.t 41), (.t 42), (.t 46)]
    (.op (some 39) .mov [(.t 47)]
    (.op (some 48) (.ext 0) [(.t 39)]
    (.op (some 49) (.ext 1) [(.t 39)]
    (.op (some 8) .mov [(.t 48)]
    .nil)))))))))))))
  .skip))
  (.seq (.reg 9 false (.op (some 50) (.addr 1) [(.t 7)]
    (.op (some 51) (.ld (.slot 3) (.i .i64)) [(.t 50)]
    (.op (some 52) .mov [(.t 8)]
    (.op (some 53) (.addr 1) [(.t 5)]
    (.op (some 54) (.idxA 4 1) [(.t 53), (.t 51)]
    (.op none (.st (.slot 1)) [(.t 54), (.t 52)]
    .nil)))))))
  (.reg 10 false (.op (some 55) (.addr 0) [(.t 5)]
    (.op (some 56) (.ld (.slot 1) (.i .i64)) [(.t 55)]
    (.op (some 57) (.bin .add) [(.t 56), (.k (.c (.int .i64 1)))]
    (.op (some 58) (.addr 0) [(.t 5)]
    (.op none (.st (.slot 1)) [(.t 58), (.t 57)]
    .nil)))))))))
  (.seq (.reg 11 false (.op (some 60) (.bin .eql) [(.t 28), (.k (.c (.int .i64 6)))]
    (.op (some 59) .mov [(.t 60)]
    .nil)))
  (.cond (.t 59)
  (.seq (.seq (.reg 12 true (.op (some 61) (.addr 3) [(.t 7)]
    (.op (some 62) (.ldN (.slot 3) 2) [(.t 61)]
    (.op (some 63) (.ldAll (.slot 1) 5) [(.t 5)]
    (.op (some 64) (.qcall 92 [(.i .i64)]) [(.t 62), (.t 63)]
    (.op (some 65) (.addr 6) [(.t 7)]
    (.op (some 66) (.ldN (.slot 3) 2) [(.t 65)]
    (.op (some 67) (.ldAll (.slot 1) 5) [(.t 5)]
    (.op (some 68) (.qcall 92 [(.i .i64)]) [(.t 66), (.t 67)]
    (.op (some 69) (.bin .eql) [(.t 64), (.t 68)]
    .nil))))))))))
  (.cond (.t 69)
  (.reg 13 false (.op (some 70) (.addr 0) [(.t 5)]
    (.op (some 71) (.ld (.slot 1) (.i .i64)) [(.t 70)]
    (.op (some 72) (.addr 8) [(.t 7)]
    (.op (some 73) (.ld (.slot 3) (.i .i64)) [(.t 72)]
    (.op (some 74) (.bin .add) [(.t 71), (.t 73)]
    (.op (some 75) (.addr 0) [(.t 5)]
    (.op none (.st (.slot 1)) [(.t 75), (.t 74)]
    .nil))))))))
  .skip))
  (.reg 14 false (.op (some 76) (.addr 0) [(.t 5)]
    (.op (some 77) (.ld (.slot 1) (.i .i64)) [(.t 76)]
    (.op (some 78) (.bin .add) [(.t 77), (.k (.c (.int .i64 1)))]
    (.op (some 79) (.addr 0) [(.t 5)]
    (.op none (.st (.slot 1)) [(.t 79), (.t 78)]
    .nil)))))))
  (.seq (.reg 4 false (.op (some 29) (.ldAll (.slot 1) 5) [(.t 5)]
    (.op none (.stAll (.slot 2) 5) [(.t 6), (.t 29)]
    .nil)))
  .ret))))))))))
def jacquardref6_normal_p1 : IC :=
  (.seq (.reg 15 false (.op (some 80) (.ldAll (.slot 1) 5) [(.t 5)]
    (.op none (.stAll (.slot 2) 5) [(.t 6), (.t 80)]
    .nil)))
  .ret)
def jacquardref6_normal : Fn := { np := 3, nt := 81, ns := 4, res := [.all (.slot 2) 6 5], gc := false, code :=
  (.seq (.reg 0 false (.box 3 0 (.t 0)
    (.box 5 1 (.t 2)
    (.al 6 2 ([Cell.int .i64 0, Cell.int .i64 0, Cell.int .i64 0, Cell.int .i64 0, Cell.int .i64 0])
    .nil))))
  (.seq (.blk 0 (.loop [1, 3, 5, 6] [0, 1, 2] [(0, [6], [2]), (1, [5, 6], [1, 2])] jacquardref6_normal_b1))
  jacquardref6_normal_p1)) }


end Jq

/- What a function needs of an environment. -/
namespace Jq
open Go

structure jacquardref6_Place_In (E : Env) : Prop where
  fn : E.fn 122 = some jacquardref6_Place

structure jacquardref6_Compile_In (E : Env) : Prop where
  fn : E.fn 101 = some jacquardref6_Compile
  c121 : jacquardref2_Locs_In E
  c122 : jacquardref6_Place_In E

structure jacquardref6_there_In (E : Env) : Prop where
  fn : E.fn 110 = some jacquardref6_there

structure jacquardref6_Next_In (E : Env) : Prop where
  fn : E.fn 81 = some jacquardref6_Next
  c110 : jacquardref6_there_In E

structure jacquardref6_Value_In (E : Env) : Prop where
  fn : E.fn 92 = some jacquardref6_Value

structure jacquardref6_normal_In (E : Env) : Prop where
  fn : E.fn 123 = some jacquardref6_normal
  c92 : jacquardref6_Value_In E
  c93 : jacquardref2_Do_In E

structure jacquardref6_Start_In (E : Env) : Prop where
  fn : E.fn 104 = some jacquardref6_Start
  c110 : jacquardref6_there_In E
  c123 : jacquardref6_normal_In E

structure jacquardref6_After_In (E : Env) : Prop where
  fn : E.fn 107 = some jacquardref6_After
  c81 : jacquardref6_Next_In E
  c123 : jacquardref6_normal_In E

structure jacquardref6_Event_In (E : Env) : Prop where
  fn : E.fn 111 = some jacquardref6_Event
  c92 : jacquardref6_Value_In E

end Jq

namespace Jq
open Go


end Jq

namespace Jq
open Go


end Jq

/- What a function needs of an environment. -/
namespace Jq
open Go


end Jq

namespace Jq
open Go


end Jq

namespace Jq
open Go


end Jq

namespace Jq
open Go


end Jq

/- What a function needs of an environment. -/
namespace Jq
open Go


end Jq

namespace Jq
open Go


end Jq

/- What a function needs of an environment. -/
namespace Jq
open Go


end Jq

/- What a function needs of an environment. -/
namespace Jq
open Go


end Jq

/- What a function needs of an environment. -/
namespace Jq
open Go


end Jq

namespace Jq
open Go


end Jq

/- What a function needs of an environment. -/
namespace Jq
open Go


end Jq

/- What a function needs of an environment. -/
namespace Jq
open Go


end Jq

/- What a function needs of an environment. -/
namespace Jq
open Go

structure jacquardlaw6_Of_In (E : Env) : Prop where
  fn : E.fn 76 = some jacquardlaw6_Of
  c97 : jacquardlaw3_Small_In E
  c101 : jacquardref6_Compile_In E

end Jq

namespace Jq
open Go

/- jacquard/jacquardref16.New: 180 -/
def jacquardref16_New_b1 : IC :=
  (.seq (.seq (.reg 3 false (.op (some 13) .mov [(.t 6)]
    (.op (some 14) (.addr 1) [(.t 2)]
    (.op (some 15) (.ld (.slot 0) .any) [(.t 14)]
    (.op (some 16) .len [(.t 15)]
    (.op (some 17) (.bin .lss) [(.t 13), (.t 16)]
    .nil))))))
  (.cond (.t 17)
  .skip
  (.exit 0)))
  (.seq (.blk 1 (.reg 5 true (.op (some 20) .mov [(.t 5)]
    (.op (some 21) .mov [(.t 6)]
    (.op (some 22) (.addr 1) [(.t 2)]
    (.op (some 23) (.ld (.slot 0) .any) [(.t 22)]
    (.op (some 24) .mov [(.t 6)]
    (.op (some 25) (.idxS 1) [(.t 23), (.t 24)]
    (.op (some 26) (.ld .heap (.i .i64)) [(.t 25)]
    (.op (some 27) .nilchk [(.t 20)]
    (.op (some 28) (.addr 4) [(.t 27)]
    (.op (some 29) (.idxA 4 1) [(.t 28), (.t 21)]
    (.op none (.st .heap) [(.t 29), (.t 26)]
    .nil)))))))))))))
  (.reg 4 false (.op (some 18) .mov [(.t 6)]
    (.op (some 19) (.bin .add) [(.t 18), (.k (.c (.int .i64 1)))]
    (.op (some 6) .mov [(.t 19)]
    .nil))))))
def jacquardref16_New_b2 : IC :=
  (.seq (.seq (.reg 7 false (.op (some 30) .mov [(.t 7)]
    (.op (some 31) (.addr 2) [(.t 2)]
    (.op (some 32) (.ld (.slot 0) .any) [(.t 31)]
    (.op (some 33) .len [(.t 32)]
    (.op (some 34) (.bin .lss) [(.t 30), (.t 33)]
    .nil))))))
  (.cond (.t 34)
  .skip
  (.exit 2)))
  (.seq (.blk 3 (.reg 9 true (.op (some 37) .mov [(.t 5)]
    (.op (some 38) .mov [(.t 7)]
    (.op (some 39) (.ldAll (.slot 0) 3) [(.t 2)]
    (.op (some 40) .mov [(.t 7)]
    (.op (some 41) (.qcall 104 [.agg]) [(.t 39), (.t 40)]
    (.op (some 42) .nilchk [(.t 37)]
    (.op (some 43) (.addr 12) [(.t 42)]
    (.op (some 44) (.idxA 4 5) [(.t 43), (.t 38)]
    (.op none (.stN .heap 5) [(.t 44), (.t 41)]
    .nil)))))))))))
  (.reg 8 false (.op (some 35) .mov [(.t 7)]
    (.op (some 36) (.bin .add) [(.t 35), (.k (.c (.int .i64 1)))]
    (.op (some 7) .mov [(.t 36)]
    .nil))))))
def jacquardref16_New_p2 : IC :=
  (.seq (.reg 10 false (.op (some 45) .mov [(.t 5)]
    (.op (some 4) .mov [(.t 45)]
    .nil)))
  .ret)
def jacquardref16_New_p1 : IC :=
  (.seq (.seq (.reg 6 false (.op (some 7) .mov [(.k (.c (.int .i64 0)))]
    .nil))
  (.blk 2 (.loop [2, 5, 7] [0] [(3, [5], [])] jacquardref16_New_b2)))
  jacquardref16_New_p2)
def jacquardref16_New : Fn := { np := 2, nt := 46, ns := 1, res := [.t 4 .any], gc := false, code :=
  (.seq (.reg 0 false (.box 2 0 (.t 0)
    (.op (some 4) .mov [(.k (.c .nilp))]
    .nil)))
  (.seq (.reg 1 false (.op (some 8) (.ldAll (.slot 0) 3) [(.t 2)]
    (.op (some 9) .mov [(.t 1)]
    (.op (some 10) (.build ([Cell.int .i64 0, Cell.int .i64 0, Cell.int .i64 0, Cell.int .i64 0]) [(0, 1), (1, 1), (2, 1), (3, 1)]) [(.k (.c (.int .i64 (-1)))), (.k (.c (.int .i64 (-1)))), (.k (.c (.int .i64 (-1)))), (.k (.c (.int .i64 (-1))))]
    (.op (some 11) (.build ([Cell.nils, Cell.nils, Cell.nils] ++ List.replicate 29 (Cell.int .i64 0) ++ List.replicate 5 (Cell.nils)) [(0, 3), (3, 1), (8, 4)]) [(.t 8), (.t 9), (.t 10)]
    (.op (some 12) .boxH [(.t 11)]
    (.op (some 5) .mov [(.t 12)]
    .nil)))))))
  (.seq (.seq (.reg 2 false (.op (some 6) .mov [(.k (.c (.int .i64 0)))]
    .nil))
  (.blk 0 (.loop [2, 5, 6] [0] [(1, [2, 5], [0])] jacquardref16_New_b1)))
  jacquardref16_New_p1))) }

/- (*jacquard/jacquardref16.VM).Enabled: 181 -/
def jacquardref16_VM_Enabled_b1 : IC :=
  (.seq (.seq (.reg 3 false (.op (some 5) .mov [(.t 4)]
    (.op (some 6) (.bin .lss) [(.t 5), (.k (.c (.int .i64 24)))]
    .nil)))
  (.cond (.t 6)
  .skip
  (.exit 0)))
  (.seq (.blk 1 (.seq (.reg 5 false (.op (some 9) .mov [(.t 0)]
    (.op (some 10) .mov [(.t 4)]
    (.op (some 11) (.call 196 [.b]) [(.t 9), (.t 10)]
    .nil))))
  (.cond (.t 11)
  (.reg 6 false (.op (some 12) .mov [(.t 3)]
    (.op (some 13) .mov [(.t 4)]
    (.op (some 14) (.lit 1 1 ([Cell.int .i64 0]) [(0, 1)]) [(.t 13)]
    (.op (some 15) (.app 1 8) [(.t 12), (.t 14)]
    (.op (some 3) .mov [(.t 15)]
    .nil))))))
  .skip)))
  (.reg 4 false (.op (some 7) .mov [(.t 4)]
    (.op (some 8) (.bin .add) [(.t 7), (.k (.c (.int .i64 1)))]
    (.op (some 4) .mov [(.t 8)]
    .nil))))))
def jacquardref16_VM_Enabled_p1 : IC :=
  (.seq (.reg 7 false (.op (some 16) .mov [(.t 3)]
    (.op (some 2) .mov [(.t 16)]
    .nil)))
  .ret)
def jacquardref16_VM_Enabled : Fn := { np := 1, nt := 17, ns := 0, res := [.t 2 .any], gc := false, code :=
  (.seq (.reg 0 false (.op (some 2) .mov [(.k (.c .nils))]
    .nil))
  (.seq (.reg 1 false (.op (some 3) .mov [(.k (.c .nils))]
    .nil))
  (.seq (.seq (.reg 2 false (.op (some 4) .mov [(.k (.c (.int .i64 0)))]
    .nil))
  (.blk 0 (.loop [0, 3, 4] [] [(1, [3], [])] jacquardref16_VM_Enabled_b1)))
  jacquardref16_VM_Enabled_p1))) }

/- (*jacquard/jacquardref16.VM).Pick: 182 -/
def jacquardref16_VM_Pick_p10 : IC :=
  (.seq (.reg 12 true (.op (some 105) .mov [(.t 0)]
    (.op (some 106) .mov [(.t 0)]
    (.op (some 107) .nilchk [(.t 106)]
    (.op (some 108) (.addr 36) [(.t 107)]
    (.op (some 109) (.ld .heap .any) [(.t 108)]
    (.op (some 110) (.ldAll (.slot 1) 7) [(.t 7)]
    (.op (some 111) (.lit 7 1 (List.replicate 7 (Cell.int .i64 0)) [(0, 7)]) [(.t 110)]
    (.op (some 112) (.app 7 56) [(.t 109), (.t 111)]
    (.op (some 113) .nilchk [(.t 105)]
    (.op (some 114) (.addr 36) [(.t 113)]
    (.op none (.st .heap) [(.t 114), (.t 112)]
    .nil))))))))))))
  (.seq (.reg 13 false (.op (some 115) (.ldAll (.slot 1) 7) [(.t 7)]
    (.op none (.stAll (.slot 0) 7) [(.t 4), (.t 115)]
    (.op (some 5) .mov [(.k (.c (.bool true)))]
    .nil))))
  .ret))
def jacquardref16_VM_Pick_p9 : IC :=
  (.cut [0, 4, 7] [0, 1] [] (.reg 11 true (.op (some 93) .mov [(.t 8)]
    (.op (some 94) (.addr 0) [(.t 12)]
    (.op (some 95) (.ld (.slot 2) (.i .i64)) [(.t 94)]
    (.op (some 96) (.addr 1) [(.t 12)]
    (.op (some 97) (.ld (.slot 2) (.i .i64)) [(.t 96)]
    (.op (some 98) (.addr 2) [(.t 12)]
    (.op (some 99) (.ld (.slot 2) (.i .i64)) [(.t 98)]
    (.op (some 100) (.addr 1) [(.t 7)]
    (.op none (.st (.slot 1)) [(.t 100), (.t 93)]
    (.op (some 101) (.addr 2) [(.t 7)]
    (.op none (.st (.slot 1)) [(.t 101), (.k (.c (.int .i64 6)))]
    (.op (some 102) (.addr 3) [(.t 7)]
    (.op none (.st (.slot 1)) [(.t 102), (.t 95)]
    (.op (some 103) (.addr 5) [(.t 7)]
    (.op none (.st (.slot 1)) [(.t 103), (.t 97)]
    (.op (some 104) (.addr 6) [(.t 7)]
    (.op none (.st (.slot 1)) [(.t 104), (.t 99)]
    .nil))))))))))))))))))
  jacquardref16_VM_Pick_p10)
def jacquardref16_VM_Pick_p8 : IC :=
  (.cut [0, 4, 7, 8, 12] [0, 1, 2] [] (.reg 10 true (.op (some 77) .mov [(.t 0)]
    (.op (some 78) (.addr 0) [(.t 12)]
    (.op (some 79) (.ld (.slot 2) (.i .i64)) [(.t 78)]
    (.op (some 80) .mov [(.t 0)]
    (.op (some 81) (.addr 0) [(.t 12)]
    (.op (some 82) (.ld (.slot 2) (.i .i64)) [(.t 81)]
    (.op (some 83) (.addr 1) [(.t 12)]
    (.op (some 84) (.ld (.slot 2) (.i .i64)) [(.t 83)]
    (.op (some 85) (.addr 2) [(.t 12)]
    (.op (some 86) (.ld (.slot 2) (.i .i64)) [(.t 85)]
    (.op (some 87) .nilchk [(.t 77)]
    (.op (some 88) (.addr 4) [(.t 87)]
    (.op (some 89) (.idxA 4 1) [(.t 88), (.t 79)]
    (.op none (.st .heap) [(.t 89), (.t 84)]
    (.op (some 90) .nilchk [(.t 80)]
    (.op (some 91) (.addr 8) [(.t 90)]
    (.op (some 92) (.idxA 4 1) [(.t 91), (.t 82)]
    (.op none (.st .heap) [(.t 92), (.t 86)]
    .nil)))))))))))))))))))
  jacquardref16_VM_Pick_p9)
def jacquardref16_VM_Pick_p7 : IC :=
  (.cut [0, 4, 7, 8, 12] [0, 1, 2] [] (.reg 9 true (.op (some 52) .mov [(.t 0)]
    (.op (some 53) .mov [(.t 8)]
    (.op (some 54) (.bslice 3 0 (([] : List Cell)) []) []
    (.op (some 55) .mov [(.t 0)]
    (.op (some 56) .mov [(.t 8)]
    (.op (some 57) .nilchk [(.t 55)]
    (.op (some 58) (.addr 32) [(.t 57)]
    (.op (some 59) (.idxA 4 1) [(.t 58), (.t 56)]
    (.op (some 60) (.ld0 .any) [(.t 59)]
    (.op (some 61) .mov [(.t 11)]
    (.op (some 62) (.slc 3 false true) [(.t 60), (.t 61)]
    (.op (some 63) (.app 3 24) [(.t 54), (.t 62)]
    (.op (some 64) .mov [(.t 0)]
    (.op (some 65) .mov [(.t 8)]
    (.op (some 66) .nilchk [(.t 64)]
    (.op (some 67) (.addr 32) [(.t 66)]
    (.op (some 68) (.idxA 4 1) [(.t 67), (.t 65)]
    (.op (some 69) (.ld0 .any) [(.t 68)]
    (.op (some 70) .mov [(.t 11)]
    (.op (some 71) (.bin .add) [(.t 70), (.k (.c (.int .i64 1)))]
    (.op (some 72) (.slc 3 true false) [(.t 69), (.t 71)]
    (.op (some 73) (.app 3 24) [(.t 63), (.t 72)]
    (.op (some 74) .nilchk [(.t 52)]
    (.op (some 75) (.addr 32) [(.t 74)]
    (.op (some 76) (.idxA 4 1) [(.t 75), (.t 53)]
    (.op none (.st .heap) [(.t 76), (.t 73)]
    .nil)))))))))))))))))))))))))))
  jacquardref16_VM_Pick_p8)
def jacquardref16_VM_Pick_p6 : IC :=
  (.cut [0, 4, 7, 8, 11, 12] [0, 1, 2] [] (.reg 8 false (.op (some 43) .mov [(.t 0)]
    (.op (some 44) .mov [(.t 8)]
    (.op (some 45) .nilchk [(.t 43)]
    (.op (some 46) (.addr 32) [(.t 45)]
    (.op (some 47) (.idxA 4 1) [(.t 46), (.t 44)]
    (.op (some 48) (.ld .heap .any) [(.t 47)]
    (.op (some 49) .mov [(.t 11)]
    (.op (some 50) (.idxS 3) [(.t 48), (.t 49)]
    (.op (some 51) (.ldN .heap 3) [(.t 50)]
    (.al 12 2 ([Cell.int .i64 0, Cell.int .i64 0, Cell.int .i64 0])
    (.op none (.stAll (.slot 2) 3) [(.t 12), (.t 51)]
    .nil))))))))))))
  jacquardref16_VM_Pick_p7)
def jacquardref16_VM_Pick_p5 : IC :=
  (.seq (.reg 6 false (.op (some 38) .mov [(.t 10)]
    .nil))
  (.cond (.t 38)
  (.cut [0, 4, 7, 8, 11] [0, 1] [] (.reg 7 false (.op (some 39) .mov [(.t 0)]
    (.op (some 40) .mov [(.t 8)]
    (.op (some 41) .mov [(.t 9)]
    (.op (some 42) (.call 198 [(.i .i64)]) [(.t 39), (.t 40), (.t 41)]
    (.op (some 11) .mov [(.t 42)]
    .nil))))))
  jacquardref16_VM_Pick_p6)
  .skip))
def jacquardref16_VM_Pick_p17 : IC :=
  (.cond (.t 177)
  (.reg 22 true (.op (some 178) .mov [(.t 0)]
    (.op (some 179) .mov [(.t 1)]
    (.op (some 180) .nilchk [(.t 178)]
    (.op (some 181) (.addr 32) [(.t 180)]
    (.op (some 182) (.idxA 4 1) [(.t 181), (.t 179)]
    (.op (some 183) (.ld .heap .any) [(.t 182)]
    (.op (some 184) .mov [(.t 16)]
    (.op (some 185) (.idxS 3) [(.t 183), (.t 184)]
    (.op (some 186) (.addr 1) [(.t 185)]
    (.op (some 187) (.ld .heap (.i .i64)) [(.t 186)]
    (.op (some 188) .mov [(.t 0)]
    (.op (some 189) .mov [(.t 1)]
    (.op (some 190) .nilchk [(.t 188)]
    (.op (some 191) (.addr 32) [(.t 190)]
    (.op (some 192) (.idxA 4 1) [(.t 191), (.t 189)]
    (.op (some 193) (.ld .heap .any) [(.t 192)]
    (.op (some 194) .mov [(.t 16)]
    (.op (some 195) (.idxS 3) [(.t 193), (.t 194)]
    (.op (some 196) (.addr 2) [(.t 195)]
    (.op (some 197) (.ld .heap (.i .i64)) [(.t 196)]
    (.op (some 15) .mov [(.t 187)]
    (.op (some 198) (.addr 6) [(.t 7)]
    (.op none (.st (.slot 1)) [(.t 198), (.t 197)]
    .nil))))))))))))))))))))))))
  .skip)
def jacquardref16_VM_Pick_p16 : IC :=
  (.reg 20 false (.op (some 163) .mov [(.t 16)]
    (.op (some 164) (.bin .add) [(.t 163), (.k (.c (.int .i64 1)))]
    (.op (some 16) .mov [(.t 164)]
    .nil))))
def jacquardref16_VM_Pick_p15 : IC :=
  (.seq (.blk 1 (.cut [0, 1, 4, 6, 7, 13, 15, 16, 177] [0, 1, 3] [] (.reg 21 true (.op (some 165) .mov [(.t 0)]
    (.op (some 166) .mov [(.t 1)]
    (.op (some 167) .nilchk [(.t 165)]
    (.op (some 168) (.addr 32) [(.t 167)]
    (.op (some 169) (.idxA 4 1) [(.t 168), (.t 166)]
    (.op (some 170) (.ld .heap .any) [(.t 169)]
    (.op (some 171) .mov [(.t 16)]
    (.op (some 172) (.idxS 3) [(.t 170), (.t 171)]
    (.op (some 173) (.addr 0) [(.t 172)]
    (.op (some 174) (.ld .heap (.i .i64)) [(.t 173)]
    (.op (some 175) (.addr 2) [(.t 13)]
    (.op (some 176) (.ld (.slot 3) (.i .i64)) [(.t 175)]
    (.op (some 177) (.bin .eql) [(.t 174), (.t 176)]
    .nil))))))))))))))
  jacquardref16_VM_Pick_p17))
  jacquardref16_VM_Pick_p16)
def jacquardref16_VM_Pick_b1 : IC :=
  (.cut [0, 1, 4, 6, 7, 13, 15, 16] [0, 1, 3] [(1, [0, 1, 4, 6, 7, 13, 15], [0, 1, 3])] (.seq (.reg 19 false (.op (some 154) .mov [(.t 16)]
    (.op (some 155) .mov [(.t 0)]
    (.op (some 156) .mov [(.t 1)]
    (.op (some 157) .nilchk [(.t 155)]
    (.op (some 158) (.addr 32) [(.t 157)]
    (.op (some 159) (.idxA 4 1) [(.t 158), (.t 156)]
    (.op (some 160) (.ld .heap .any) [(.t 159)]
    (.op (some 161) .len [(.t 160)]
    (.op (some 162) (.bin .lss) [(.t 154), (.t 161)]
    .nil))))))))))
  (.cond (.t 162)
  .skip
  (.exit 0)))
  jacquardref16_VM_Pick_p15)
def jacquardref16_VM_Pick_p14 : IC :=
  (.seq (.reg 18 false (.op (some 16) .mov [(.k (.c (.int .i64 0)))]
    .nil))
  (.blk 0 (.loop [0, 1, 4, 6, 7, 13, 15, 16] [0, 1, 3] [(1, [0, 1, 4, 6, 7, 13, 15], [0, 1, 3])] jacquardref16_VM_Pick_b1)))
def jacquardref16_VM_Pick_p13 : IC :=
  (.cond (.t 138)
  (.cut [0, 1, 4, 6, 7, 13, 15] [0, 1, 3] [] (.reg 17 true (.op (some 139) .mov [(.t 0)]
    (.op (some 140) (.addr 2) [(.t 13)]
    (.op (some 141) (.ld (.slot 3) (.i .i64)) [(.t 140)]
    (.op (some 142) .nilchk [(.t 139)]
    (.op (some 143) (.addr 4) [(.t 142)]
    (.op (some 144) (.idxA 4 1) [(.t 143), (.t 141)]
    (.op (some 145) (.ld .heap (.i .i64)) [(.t 144)]
    (.op (some 146) .mov [(.t 0)]
    (.op (some 147) (.addr 2) [(.t 13)]
    (.op (some 148) (.ld (.slot 3) (.i .i64)) [(.t 147)]
    (.op (some 149) .nilchk [(.t 146)]
    (.op (some 150) (.addr 8) [(.t 149)]
    (.op (some 151) (.idxA 4 1) [(.t 150), (.t 148)]
    (.op (some 152) (.ld .heap (.i .i64)) [(.t 151)]
    (.op (some 15) .mov [(.t 145)]
    (.op (some 153) (.addr 6) [(.t 7)]
    (.op none (.st (.slot 1)) [(.t 153), (.t 152)]
    .nil))))))))))))))))))
  jacquardref16_VM_Pick_p14)
  .skip)
def jacquardref16_VM_Pick_p22 : IC :=
  (.cond (.t 251)
  (.reg 28 true (.op (some 255) .mov [(.t 0)]
    (.op (some 256) .mov [(.t 1)]
    (.op (some 257) (.bslice 3 0 (([] : List Cell)) []) []
    (.op (some 258) .mov [(.t 0)]
    (.op (some 259) .mov [(.t 1)]
    (.op (some 260) .nilchk [(.t 258)]
    (.op (some 261) (.addr 32) [(.t 260)]
    (.op (some 262) (.idxA 4 1) [(.t 261), (.t 259)]
    (.op (some 263) (.ld0 .any) [(.t 262)]
    (.op (some 264) (.app 3 24) [(.t 257), (.t 263)]
    (.op (some 265) (.addr 3) [(.t 17)]
    (.op (some 266) (.ld (.slot 4) (.i .i64)) [(.t 265)]
    (.op (some 267) (.addr 5) [(.t 17)]
    (.op (some 268) (.ld (.slot 4) (.i .i64)) [(.t 267)]
    (.op (some 269) .mov [(.t 6)]
    (.op (some 270) (.build ([Cell.int .i64 0, Cell.int .i64 0, Cell.int .i64 0]) [(0, 1), (1, 1), (2, 1)]) [(.t 266), (.t 268), (.t 269)]
    (.op (some 271) (.lit 3 1 ([Cell.int .i64 0, Cell.int .i64 0, Cell.int .i64 0]) [(0, 3)]) [(.t 270)]
    (.op (some 272) (.app 3 24) [(.t 264), (.t 271)]
    (.op (some 273) .nilchk [(.t 255)]
    (.op (some 274) (.addr 32) [(.t 273)]
    (.op (some 275) (.idxA 4 1) [(.t 274), (.t 256)]
    (.op none (.st .heap) [(.t 275), (.t 272)]
    .nil)))))))))))))))))))))))
  .skip)
def jacquardref16_VM_Pick_p21 : IC :=
  (.cond (.t 220)
  (.reg 26 true (.op (some 236) .mov [(.t 0)]
    (.op (some 237) (.addr 3) [(.t 17)]
    (.op (some 238) (.ld (.slot 4) (.i .i64)) [(.t 237)]
    (.op (some 239) .mov [(.t 0)]
    (.op (some 240) (.addr 3) [(.t 17)]
    (.op (some 241) (.ld (.slot 4) (.i .i64)) [(.t 240)]
    (.op (some 242) (.addr 5) [(.t 17)]
    (.op (some 243) (.ld (.slot 4) (.i .i64)) [(.t 242)]
    (.op (some 244) .mov [(.t 6)]
    (.op (some 245) .nilchk [(.t 236)]
    (.op (some 246) (.addr 4) [(.t 245)]
    (.op (some 247) (.idxA 4 1) [(.t 246), (.t 238)]
    (.op none (.st .heap) [(.t 247), (.t 243)]
    (.op (some 248) .nilchk [(.t 239)]
    (.op (some 249) (.addr 8) [(.t 248)]
    (.op (some 250) (.idxA 4 1) [(.t 249), (.t 241)]
    (.op none (.st .heap) [(.t 250), (.t 244)]
    .nil))))))))))))))))))
  (.cut [0, 1, 4, 6, 7, 15, 17, 251] [0, 1, 4] [] (.reg 27 false (.op (some 252) (.addr 2) [(.t 17)]
    (.op (some 253) (.ld (.slot 4) (.i .i64)) [(.t 252)]
    (.op (some 254) (.bin .eql) [(.t 253), (.k (.c (.int .i64 2)))]
    (.op (some 251) .mov [(.t 254)]
    .nil)))))
  jacquardref16_VM_Pick_p22))
def jacquardref16_VM_Pick_p23 : IC :=
  (.seq (.reg 30 true (.op (some 294) .mov [(.t 0)]
    (.op (some 295) .mov [(.t 0)]
    (.op (some 296) .nilchk [(.t 295)]
    (.op (some 297) (.addr 36) [(.t 296)]
    (.op (some 298) (.ld .heap .any) [(.t 297)]
    (.op (some 299) (.ldAll (.slot 1) 7) [(.t 7)]
    (.op (some 300) (.lit 7 1 (List.replicate 7 (Cell.int .i64 0)) [(0, 7)]) [(.t 299)]
    (.op (some 301) (.app 7 56) [(.t 298), (.t 300)]
    (.op (some 302) .nilchk [(.t 294)]
    (.op (some 303) (.addr 36) [(.t 302)]
    (.op none (.st .heap) [(.t 303), (.t 301)]
    .nil))))))))))))
  (.seq (.reg 31 false (.op (some 304) (.ldAll (.slot 1) 7) [(.t 7)]
    (.op none (.stAll (.slot 0) 7) [(.t 4), (.t 304)]
    (.op (some 5) .mov [(.k (.c (.bool true)))]
    .nil))))
  .ret))
def jacquardref16_VM_Pick_p20 : IC :=
  (.cut [0, 4, 7] [0, 1] [] (.reg 29 true (.op (some 276) .mov [(.t 0)]
    (.op (some 277) .mov [(.t 1)]
    (.op (some 278) .mov [(.t 0)]
    (.op (some 279) .nilchk [(.t 278)]
    (.op (some 280) (.addr 0) [(.t 279)]
    (.op (some 281) (.ldN .heap 3) [(.t 280)]
    (.op (some 282) .mov [(.t 1)]
    (.op (some 283) .mov [(.t 0)]
    (.op (some 284) .mov [(.t 1)]
    (.op (some 285) .nilchk [(.t 283)]
    (.op (some 286) (.addr 12) [(.t 285)]
    (.op (some 287) (.idxA 4 5) [(.t 286), (.t 284)]
    (.op (some 288) (.ldN .heap 5) [(.t 287)]
    (.op (some 289) .mov [(.t 15)]
    (.op (some 290) (.qcall 107 [.agg]) [(.t 281), (.t 282), (.t 288), (.t 289)]
    (.op (some 291) .nilchk [(.t 276)]
    (.op (some 292) (.addr 12) [(.t 291)]
    (.op (some 293) (.idxA 4 5) [(.t 292), (.t 277)]
    (.op none (.stN .heap 5) [(.t 293), (.t 290)]
    .nil))))))))))))))))))))
  jacquardref16_VM_Pick_p23)
def jacquardref16_VM_Pick_p19 : IC :=
  (.cut [0, 1, 4, 7, 15] [0, 1] [] (.blk 2 (.cut [0, 1, 4, 6, 7, 15, 17, 220] [0, 1, 4] [] (.reg 25 false (.op (some 221) (.addr 2) [(.t 17)]
    (.op (some 222) (.ld (.slot 4) (.i .i64)) [(.t 221)]
    (.op (some 223) (.bin .eql) [(.t 222), (.k (.c (.int .i64 4)))]
    (.op (some 224) .mov [(.t 223)]
    (.sc 224 false (.op (some 225) (.addr 2) [(.t 17)]
    (.op (some 226) (.ld (.slot 4) (.i .i64)) [(.t 225)]
    (.op (some 227) (.bin .eql) [(.t 226), (.k (.c (.int .i64 2)))]
    (.op (some 228) .mov [(.t 227)]
    (.sc 228 true (.op (some 229) .mov [(.t 0)]
    (.op (some 230) .nilchk [(.t 229)]
    (.op (some 231) (.addr 3) [(.t 230)]
    (.op (some 232) (.ld .heap (.i .i64)) [(.t 231)]
    (.op (some 233) (.bin .eql) [(.t 232), (.k (.c (.int .i64 1)))]
    .nil))))) 233 234 false
    .nil))))) 234 235 true
    (.op (some 220) .mov [(.t 235)]
    .nil)))))))
  jacquardref16_VM_Pick_p21))
  jacquardref16_VM_Pick_p20)
def jacquardref16_VM_Pick_p18 : IC :=
  (.cut [0, 1, 4, 6, 7, 15, 17] [0, 1, 4] [] (.reg 24 true (.op (some 208) (.addr 2) [(.t 17)]
    (.op (some 209) (.ld (.slot 4) (.i .i64)) [(.t 208)]
    (.op (some 210) (.addr 3) [(.t 17)]
    (.op (some 211) (.ld (.slot 4) (.i .i64)) [(.t 210)]
    (.op (some 212) (.addr 4) [(.t 17)]
    (.op (some 213) (.ld (.slot 4) (.i .i64)) [(.t 212)]
    (.op (some 214) (.addr 5) [(.t 17)]
    (.op (some 215) (.ld (.slot 4) (.i .i64)) [(.t 214)]
    (.op (some 216) (.addr 2) [(.t 7)]
    (.op none (.st (.slot 1)) [(.t 216), (.t 209)]
    (.op (some 217) (.addr 3) [(.t 7)]
    (.op none (.st (.slot 1)) [(.t 217), (.t 211)]
    (.op (some 218) (.addr 4) [(.t 7)]
    (.op none (.st (.slot 1)) [(.t 218), (.t 213)]
    (.op (some 219) (.addr 5) [(.t 7)]
    (.op none (.st (.slot 1)) [(.t 219), (.t 215)]
    .nil)))))))))))))))))
  jacquardref16_VM_Pick_p19)
def jacquardref16_VM_Pick_p12 : IC :=
  (.cut [0, 1, 4, 6, 7, 15, 17] [0, 1, 4] [] (.reg 23 true (.op (some 199) (.ldAll (.slot 3) 9) [(.t 13)]
    (.op (some 200) .mov [(.t 0)]
    (.op (some 201) .mov [(.t 1)]
    (.op (some 202) .nilchk [(.t 200)]
    (.op (some 203) (.addr 12) [(.t 202)]
    (.op (some 204) (.idxA 4 5) [(.t 203), (.t 201)]
    (.op (some 205) (.ldN .heap 5) [(.t 204)]
    (.op (some 206) .mov [(.t 15)]
    (.op (some 207) (.qcall 111 [.agg]) [(.t 199), (.t 205), (.t 206)]
    (.al 17 4 ([Cell.int .i64 0, Cell.int .i64 0, Cell.int .i64 0, Cell.int .i64 0, Cell.int .i64 0, Cell.int .i64 0])
    (.op none (.stAll (.slot 4) 6) [(.t 17), (.t 207)]
    .nil))))))))))))
  jacquardref16_VM_Pick_p18)
def jacquardref16_VM_Pick_p11 : IC :=
  (.seq (.reg 15 false (.op (some 15) .mov [(.k (.c (.int .i64 0)))]
    .nil))
  (.cut [0, 1, 4, 6, 7, 13, 15] [0, 1, 3] [] (.cut [0, 1, 4, 6, 7, 13, 15, 138] [0, 1, 3] [] (.reg 16 false (.op (some 131) (.addr 0) [(.t 13)]
    (.op (some 132) (.ld (.slot 3) (.i .i64)) [(.t 131)]
    (.op (some 133) (.bin .eql) [(.t 132), (.k (.c (.int .i64 2)))]
    (.op (some 134) .mov [(.t 133)]
    (.sc 134 false (.op (some 135) (.addr 0) [(.t 13)]
    (.op (some 136) (.ld (.slot 3) (.i .i64)) [(.t 135)]
    (.op (some 137) (.bin .eql) [(.t 136), (.k (.c (.int .i64 4)))]
    .nil))) 137 138 true
    .nil))))))
  jacquardref16_VM_Pick_p13)
  jacquardref16_VM_Pick_p12))
def jacquardref16_VM_Pick_p4 : IC :=
  (.cut [0, 1, 4, 6, 7, 13] [0, 1, 3] [] (.reg 14 true (.op (some 117) .mov [(.t 0)]
    (.op (some 118) .nilchk [(.t 117)]
    (.op (some 119) (.addr 0) [(.t 118)]
    (.op (some 120) (.ldN .heap 3) [(.t 119)]
    (.op (some 121) .mov [(.t 1)]
    (.op (some 122) .mov [(.t 0)]
    (.op (some 123) .mov [(.t 1)]
    (.op (some 124) .nilchk [(.t 122)]
    (.op (some 125) (.addr 12) [(.t 124)]
    (.op (some 126) (.idxA 4 5) [(.t 125), (.t 123)]
    (.op (some 127) (.ldN .heap 5) [(.t 126)]
    (.op (some 128) (.qcall 81 [.agg, .b]) [(.t 120), (.t 121), (.t 127)]
    (.op (some 116) .mov [(.t 128)]
    (.op (some 129) (.ext 0) [(.t 116)]
    (.op (some 130) (.ext 1) [(.t 116)]
    (.al 13 3 (List.replicate 9 (Cell.int .i64 0))
    (.op none (.stAll (.slot 3) 9) [(.t 13), (.t 129)]
    (.op (some 14) .mov [(.t 130)]
    .nil)))))))))))))))))))
  jacquardref16_VM_Pick_p11)
def jacquardref16_VM_Pick_p3 : IC :=
  (.cut [0, 1, 4, 6, 7] [0, 1] [(0, [4, 5], [0])] (.cut [0, 1, 4, 6, 7, 8, 9, 10] [0, 1] [] (.reg 5 false (.op (some 32) .mov [(.t 0)]
    (.op (some 33) .mov [(.t 1)]
    (.op (some 34) (.call 197 [(.i .i64), (.i .i64), .b]) [(.t 32), (.t 33)]
    (.op (some 31) .mov [(.t 34)]
    (.op (some 35) (.ext 0) [(.t 31)]
    (.op (some 36) (.ext 1) [(.t 31)]
    (.op (some 37) (.ext 2) [(.t 31)]
    (.op (some 8) .mov [(.t 35)]
    (.op (some 9) .mov [(.t 36)]
    (.op (some 10) .mov [(.t 37)]
    .nil)))))))))))
  jacquardref16_VM_Pick_p5)
  jacquardref16_VM_Pick_p4)
def jacquardref16_VM_Pick_p2 : IC :=
  (.cut [0, 1, 4, 6, 7] [0, 1] [] (.reg 4 false (.op (some 28) .mov [(.t 1)]
    (.op (some 29) .mov [(.t 1)]
    (.op (some 30) (.build (List.replicate 7 (Cell.int .i64 0)) [(0, 1), (1, 1), (6, 1)]) [(.t 28), (.t 29), (.k (.c (.int .i64 (-1))))]
    (.al 7 1 (List.replicate 7 (Cell.int .i64 0))
    (.op none (.stAll (.slot 1) 7) [(.t 7), (.t 30)]
    .nil))))))
  jacquardref16_VM_Pick_p3)
def jacquardref16_VM_Pick_p1 : IC :=
  (.cut [0, 1, 4, 6] [0] [] (.reg 3 false (.op (some 23) .mov [(.t 0)]
    (.op (some 24) .nilchk [(.t 23)]
    (.op (some 25) (.addr 36) [(.t 24)]
    (.op (some 26) (.ld .heap .any) [(.t 25)]
    (.op (some 27) .len [(.t 26)]
    (.op (some 6) .mov [(.t 27)]
    .nil)))))))
  jacquardref16_VM_Pick_p2)
def jacquardref16_VM_Pick : Fn := { np := 2, nt := 305, ns := 5, res := [.all (.slot 0) 4 7, .t 5 .b], gc := false, code :=
  (.seq (.reg 0 false (.al 4 0 (List.replicate 7 (Cell.int .i64 0))
    (.op (some 5) .mov [(.k (.c (.bool false)))]
    .nil)))
  (.cut [0, 1, 4] [0] [(0, [4, 5], [0])] (.seq (.reg 1 false (.op (some 18) .mov [(.t 0)]
    (.op (some 19) .mov [(.t 1)]
    (.op (some 20) (.call 196 [.b]) [(.t 18), (.t 19)]
    (.op (some 21) (.un .not) [(.t 20)]
    .nil)))))
  (.cond (.t 21)
  (.seq (.reg 2 false (.op (some 22) (.build (List.replicate 7 (Cell.int .i64 0)) []) []
    (.op none (.stAll (.slot 0) 7) [(.t 4), (.t 22)]
    (.op (some 5) .mov [(.k (.c (.bool false)))]
    .nil))))
  .ret)
  .skip))
  jacquardref16_VM_Pick_p1)) }

/- jacquard/jacquardref16.Run: 186 -/
def jacquardref16_Run_b1 : IC :=
  (.seq (.seq (.reg 3 false (.op (some 15) .mov [(.t 9)]
    (.op (some 16) .mov [(.t 2)]
    (.op (some 17) .len [(.t 16)]
    (.op (some 18) (.bin .lss) [(.t 15), (.t 17)]
    .nil)))))
  (.cond (.t 18)
  .skip
  (.exit 0)))
  (.seq (.blk 1 (.seq (.reg 5 false (.op (some 22) .mov [(.t 8)]
    (.op (some 23) .mov [(.t 2)]
    (.op (some 24) .mov [(.t 9)]
    (.op (some 25) (.idxS 1) [(.t 23), (.t 24)]
    (.op (some 26) (.ld .heap (.i .i64)) [(.t 25)]
    (.op (some 27) (.call 182 [.agg, .b]) [(.t 22), (.t 26)]
    (.op (some 21) .mov [(.t 27)]
    (.op (some 28) (.ext 0) [(.t 21)]
    (.op (some 29) (.ext 1) [(.t 21)]
    (.al 10 1 (List.replicate 7 (Cell.int .i64 0))
    (.op none (.stAll (.slot 1) 7) [(.t 10), (.t 28)]
    (.op (some 11) .mov [(.t 29)]
    .nil)))))))))))))
  (.seq (.reg 6 false (.op (some 30) .mov [(.t 11)]
    (.op (some 31) (.un .not) [(.t 30)]
    .nil)))
  (.cond (.t 31)
  (.seq (.reg 7 false (.op (some 32) .mov [(.t 8)]
    (.op (some 33) .mov [(.t 9)]
    (.op (some 6) .mov [(.t 32)]
    (.op (some 7) .mov [(.t 33)]
    .nil)))))
  .ret)
  .skip))))
  (.reg 4 false (.op (some 19) .mov [(.t 9)]
    (.op (some 20) (.bin .add) [(.t 19), (.k (.c (.int .i64 1)))]
    (.op (some 9) .mov [(.t 20)]
    .nil))))))
def jacquardref16_Run_p1 : IC :=
  (.seq (.reg 8 false (.op (some 34) .mov [(.t 8)]
    (.op (some 35) .mov [(.t 2)]
    (.op (some 36) .len [(.t 35)]
    (.op (some 6) .mov [(.t 34)]
    (.op (some 7) .mov [(.t 36)]
    .nil))))))
  .ret)
def jacquardref16_Run : Fn := { np := 3, nt := 37, ns := 2, res := [.t 6 .any, .t 7 (.i .i64)], gc := false, code :=
  (.seq (.reg 0 false (.box 3 0 (.t 0)
    (.op (some 6) .mov [(.k (.c .nilp))]
    (.op (some 7) .mov [(.k (.c (.int .i64 0)))]
    .nil))))
  (.seq (.reg 1 false (.op (some 12) (.ldAll (.slot 0) 3) [(.t 3)]
    (.op (some 13) .mov [(.t 1)]
    (.op (some 14) (.call 180 [.any]) [(.t 12), (.t 13)]
    (.op (some 8) .mov [(.t 14)]
    .nil)))))
  (.seq (.seq (.reg 2 false (.op (some 9) .mov [(.k (.c (.int .i64 0)))]
    .nil))
  (.blk 0 (.loop [2, 8, 9] [] [(0, [6, 7], []), (1, [2, 8], [])] jacquardref16_Run_b1)))
  jacquardref16_Run_p1))) }

/- (*jacquard/jacquardref16.VM).May: 196 -/
def jacquardref16_VM_May : Fn := { np := 2, nt := 67, ns := 1, res := [.t 4 .b], gc := false, code :=
  (.seq (.reg 0 false (.op (some 4) .mov [(.k (.c (.bool false)))]
    .nil))
  (.seq (.seq (.reg 1 false (.op (some 10) .mov [(.t 1)]
    (.op (some 11) (.bin .geq) [(.t 10), (.k (.c (.int .i64 0)))]
    (.op (some 12) .mov [(.t 11)]
    (.sc 12 true (.op (some 13) .mov [(.t 1)]
    (.op (some 14) (.bin .lss) [(.t 13), (.k (.c (.int .i64 4)))]
    .nil)) 14 15 false
    .nil)))))
  (.cond (.t 15)
  (.seq (.reg 2 true (.op (some 17) .mov [(.t 0)]
    (.op (some 18) .nilchk [(.t 17)]
    (.op (some 19) (.addr 0) [(.t 18)]
    (.op (some 20) (.ldN .heap 3) [(.t 19)]
    (.op (some 21) .mov [(.t 1)]
    (.op (some 22) .mov [(.t 0)]
    (.op (some 23) .mov [(.t 1)]
    (.op (some 24) .nilchk [(.t 22)]
    (.op (some 25) (.addr 12) [(.t 24)]
    (.op (some 26) (.idxA 4 5) [(.t 25), (.t 23)]
    (.op (some 27) (.ldN .heap 5) [(.t 26)]
    (.op (some 28) (.qcall 81 [.agg, .b]) [(.t 20), (.t 21), (.t 27)]
    (.op (some 16) .mov [(.t 28)]
    (.op (some 29) (.ext 0) [(.t 16)]
    (.op (some 30) (.ext 1) [(.t 16)]
    (.al 5 0 (List.replicate 9 (Cell.int .i64 0))
    (.op none (.stAll (.slot 0) 9) [(.t 5), (.t 29)]
    (.op (some 6) .mov [(.t 30)]
    .nil)))))))))))))))))))
  (.seq (.reg 3 false (.op (some 31) .mov [(.t 6)]
    (.op (some 32) .mov [(.t 31)]
    (.sc 32 true (.op (some 33) (.addr 0) [(.t 5)]
    (.op (some 34) (.ld (.slot 0) (.i .i64)) [(.t 33)]
    (.op (some 35) (.bin .neq) [(.t 34), (.k (.c (.int .i64 3)))]
    (.op (some 36) .mov [(.t 35)]
    (.sc 36 true (.op (some 37) (.addr 0) [(.t 5)]
    (.op (some 38) (.ld (.slot 0) (.i .i64)) [(.t 37)]
    (.op (some 39) (.bin .neq) [(.t 38), (.k (.c (.int .i64 4)))]
    .nil))) 39 40 false
    (.op (some 41) .mov [(.t 40)]
    (.sc 41 false (.op (some 42) .mov [(.t 0)]
    (.op (some 43) .mov [(.t 1)]
    (.op (some 44) .nilchk [(.t 42)]
    (.op (some 45) (.addr 32) [(.t 44)]
    (.op (some 46) (.idxA 4 1) [(.t 45), (.t 43)]
    (.op (some 47) (.ld .heap .any) [(.t 46)]
    (.op (some 48) .len [(.t 47)]
    (.op (some 49) (.bin .eql) [(.t 48), (.k (.c (.int .i64 0)))]
    .nil)))))))) 49 50 true
    .nil))))))) 50 51 false
    (.op (some 4) .mov [(.t 51)]
    .nil)))))
  .ret))
  .skip))
  (.seq (.reg 4 false (.op (some 53) .mov [(.t 0)]
    (.op (some 54) .mov [(.t 1)]
    (.op (some 55) (.call 197 [(.i .i64), (.i .i64), .b]) [(.t 53), (.t 54)]
    (.op (some 52) .mov [(.t 55)]
    (.op (some 56) (.ext 0) [(.t 52)]
    (.op (some 57) (.ext 1) [(.t 52)]
    (.op (some 58) (.ext 2) [(.t 52)]
    (.op (some 7) .mov [(.t 56)]
    (.op (some 8) .mov [(.t 57)]
    (.op (some 9) .mov [(.t 58)]
    .nil)))))))))))
  (.seq (.reg 5 false (.op (some 59) .mov [(.t 9)]
    (.op (some 60) .mov [(.t 59)]
    (.sc 60 true (.op (some 61) .mov [(.t 0)]
    (.op (some 62) .mov [(.t 7)]
    (.op (some 63) .mov [(.t 8)]
    (.op (some 64) (.call 198 [(.i .i64)]) [(.t 61), (.t 62), (.t 63)]
    (.op (some 65) (.bin .geq) [(.t 64), (.k (.c (.int .i64 0)))]
    .nil))))) 65 66 false
    (.op (some 4) .mov [(.t 66)]
    .nil)))))
  .ret)))) }

/- (*jacquard/jacquardref16.VM).flush: 197 -/
def jacquardref16_VM_flush : Fn := { np := 2, nt := 43, ns := 0, res := [.t 4 (.i .i64), .t 5 (.i .i64), .t 6 .b], gc := false, code :=
  (.seq (.reg 0 false (.op (some 4) .mov [(.k (.c (.int .i64 0)))]
    (.op (some 5) .mov [(.k (.c (.int .i64 0)))]
    (.op (some 6) .mov [(.k (.c (.bool false)))]
    .nil))))
  (.seq (.blk 0 (.seq (.reg 1 false (.op (some 8) .mov [(.t 0)]
    (.op (some 9) .nilchk [(.t 8)]
    (.op (some 10) (.addr 3) [(.t 9)]
    (.op (some 11) (.ld .heap (.i .i64)) [(.t 10)]
    (.op (some 12) (.bin .eql) [(.t 11), (.k (.c (.int .i64 2)))]
    (.op (some 13) .mov [(.t 12)]
    (.sc 13 true (.op (some 14) .mov [(.t 1)]
    (.op (some 15) (.bin .geq) [(.t 14), (.k (.c (.int .i64 4)))]
    .nil)) 15 16 false
    (.op (some 17) .mov [(.t 16)]
    (.sc 17 true (.op (some 18) .mov [(.t 1)]
    (.op (some 19) (.bin .lss) [(.t 18), (.k (.c (.int .i64 8)))]
    .nil)) 19 20 false
    (.op (some 7) .mov [(.t 20)]
    .nil)))))))))))
  (.cond (.t 7)
  (.seq (.reg 2 false (.op (some 21) .mov [(.t 1)]
    (.op (some 22) (.bin .sub) [(.t 21), (.k (.c (.int .i64 4)))]
    (.op (some 4) .mov [(.t 22)]
    (.op (some 5) .mov [(.k (.c (.int .i64 (-1))))]
    (.op (some 6) .mov [(.k (.c (.bool true)))]
    .nil))))))
  .ret)
  (.seq (.reg 3 false (.op (some 24) .mov [(.t 0)]
    (.op (some 25) .nilchk [(.t 24)]
    (.op (some 26) (.addr 3) [(.t 25)]
    (.op (some 27) (.ld .heap (.i .i64)) [(.t 26)]
    (.op (some 28) (.bin .eql) [(.t 27), (.k (.c (.int .i64 3)))]
    (.op (some 29) .mov [(.t 28)]
    (.sc 29 true (.op (some 30) .mov [(.t 1)]
    (.op (some 31) (.bin .geq) [(.t 30), (.k (.c (.int .i64 8)))]
    .nil)) 31 32 false
    (.op (some 33) .mov [(.t 32)]
    (.sc 33 true (.op (some 34) .mov [(.t 1)]
    (.op (some 35) (.bin .lss) [(.t 34), (.k (.c (.int .i64 24)))]
    .nil)) 35 36 false
    (.op (some 23) .mov [(.t 36)]
    .nil)))))))))))
  (.cond (.t 23)
  (.seq (.reg 4 false (.op (some 37) .mov [(.t 1)]
    (.op (some 38) (.bin .sub) [(.t 37), (.k (.c (.int .i64 8)))]
    (.op (some 39) (.bin .quo) [(.t 38), (.k (.c (.int .i64 4)))]
    (.op (some 40) .mov [(.t 1)]
    (.op (some 41) (.bin .sub) [(.t 40), (.k (.c (.int .i64 8)))]
    (.op (some 42) (.bin .rem) [(.t 41), (.k (.c (.int .i64 4)))]
    (.op (some 4) .mov [(.t 39)]
    (.op (some 5) .mov [(.t 42)]
    (.op (some 6) .mov [(.k (.c (.bool true)))]
    .nil))))))))))
  .ret)
  .skip)))))
  (.seq (.reg 5 false (.op (some 4) .mov [(.k (.c (.int .i64 0)))]
    (.op (some 5) .mov [(.k (.c (.int .i64 0)))]
    (.op (some 6) .mov [(.k (.c (.bool false)))]
    .nil))))
  .ret))) }

/- (*jacquard/jacquardref16.VM).oldest: 198 -/
def jacquardref16_VM_oldest_b1 : IC :=
  (.seq (.seq (.reg 2 false (.op (some 8) .mov [(.t 7)]
    (.op (some 9) .mov [(.t 0)]
    (.op (some 10) .mov [(.t 1)]
    (.op (some 11) .nilchk [(.t 9)]
    (.op (some 12) (.addr 32) [(.t 11)]
    (.op (some 13) (.idxA 4 1) [(.t 12), (.t 10)]
    (.op (some 14) (.ld .heap .any) [(.t 13)]
    (.op (some 15) .len [(.t 14)]
    (.op (some 16) (.bin .lss) [(.t 8), (.t 15)]
    .nil))))))))))
  (.cond (.t 16)
  .skip
  (.exit 0)))
  (.seq (.blk 1 (.seq (.reg 4 false (.op (some 19) .mov [(.t 2)]
    (.op (some 20) (.bin .lss) [(.t 19), (.k (.c (.int .i64 0)))]
    (.op (some 21) .mov [(.t 20)]
    (.sc 21 false (.op (some 22) .mov [(.t 0)]
    (.op (some 23) .mov [(.t 1)]
    (.op (some 24) .nilchk [(.t 22)]
    (.op (some 25) (.addr 32) [(.t 24)]
    (.op (some 26) (.idxA 4 1) [(.t 25), (.t 23)]
    (.op (some 27) (.ld .heap .any) [(.t 26)]
    (.op (some 28) .mov [(.t 7)]
    (.op (some 29) (.idxS 3) [(.t 27), (.t 28)]
    (.op (some 30) (.addr 0) [(.t 29)]
    (.op (some 31) (.ld .heap (.i .i64)) [(.t 30)]
    (.op (some 32) .mov [(.t 2)]
    (.op (some 33) (.bin .eql) [(.t 31), (.t 32)]
    .nil)))))))))))) 33 34 true
    .nil)))))
  (.cond (.t 34)
  (.seq (.reg 5 false (.op (some 35) .mov [(.t 7)]
    (.op (some 6) .mov [(.t 35)]
    .nil)))
  .ret)
  .skip)))
  (.reg 3 false (.op (some 17) .mov [(.t 7)]
    (.op (some 18) (.bin .add) [(.t 17), (.k (.c (.int .i64 1)))]
    (.op (some 7) .mov [(.t 18)]
    .nil))))))
def jacquardref16_VM_oldest_p1 : IC :=
  (.seq (.reg 6 false (.op (some 6) .mov [(.k (.c (.int .i64 (-1))))]
    .nil))
  .ret)
def jacquardref16_VM_oldest : Fn := { np := 3, nt := 36, ns := 0, res := [.t 6 (.i .i64)], gc := false, code :=
  (.seq (.reg 0 false (.op (some 6) .mov [(.k (.c (.int .i64 0)))]
    .nil))
  (.seq (.seq (.reg 1 false (.op (some 7) .mov [(.k (.c (.int .i64 0)))]
    .nil))
  (.blk 0 (.loop [0, 1, 2, 7] [] [(0, [6], []), (1, [], [])] jacquardref16_VM_oldest_b1)))
  jacquardref16_VM_oldest_p1)) }

/- (*jacquard/jacquardref16.VM).Copy: 404 -/
def jacquardref16_VM_Copy_b1 : IC :=
  (.seq (.seq (.reg 3 false (.op (some 8) .mov [(.t 4)]
    (.op (some 9) (.bin .lss) [(.t 8), (.k (.c (.int .i64 4)))]
    .nil)))
  (.cond (.t 9)
  .skip
  (.exit 0)))
  (.seq (.blk 1 (.reg 5 false (.op (some 12) .mov [(.t 4)]
    (.op (some 13) (.bslice 3 0 (([] : List Cell)) []) []
    (.op (some 14) .mov [(.t 0)]
    (.op (some 15) .mov [(.t 4)]
    (.op (some 16) .nilchk [(.t 14)]
    (.op (some 17) (.addr 32) [(.t 16)]
    (.op (some 18) (.idxA 4 1) [(.t 17), (.t 15)]
    (.op (some 19) (.ld .heap .any) [(.t 18)]
    (.op (some 20) (.app 3 24) [(.t 13), (.t 19)]
    (.op (some 21) (.addr 32) [(.t 3)]
    (.op (some 22) (.idxA 4 1) [(.t 21), (.t 12)]
    (.op none (.st .heap) [(.t 22), (.t 20)]
    .nil))))))))))))))
  (.reg 4 false (.op (some 10) .mov [(.t 4)]
    (.op (some 11) (.bin .add) [(.t 10), (.k (.c (.int .i64 1)))]
    (.op (some 4) .mov [(.t 11)]
    .nil))))))
def jacquardref16_VM_Copy_p1 : IC :=
  (.seq (.reg 6 false (.op (some 23) (.bslice 7 0 (([] : List Cell)) []) []
    (.op (some 24) .mov [(.t 0)]
    (.op (some 25) .nilchk [(.t 24)]
    (.op (some 26) (.addr 36) [(.t 25)]
    (.op (some 27) (.ld .heap .any) [(.t 26)]
    (.op (some 28) (.app 7 56) [(.t 23), (.t 27)]
    (.op (some 29) (.addr 36) [(.t 3)]
    (.op none (.st .heap) [(.t 29), (.t 28)]
    .nil)))))))))
  (.seq (.reg 7 false (.op (some 2) .mov [(.t 3)]
    .nil))
  .ret))
def jacquardref16_VM_Copy : Fn := { np := 1, nt := 30, ns := 0, res := [.t 2 .any], gc := false, code :=
  (.seq (.reg 0 false (.op (some 2) .mov [(.k (.c .nilp))]
    .nil))
  (.seq (.reg 1 false (.op (some 5) .mov [(.t 0)]
    (.op (some 6) .nilchk [(.t 5)]
    (.op (some 7) (.ldN .heap 37) [(.t 6)]
    (.op (some 3) (.allocH ([Cell.nils, Cell.nils, Cell.nils] ++ List.replicate 29 (Cell.int .i64 0) ++ List.replicate 5 (Cell.nils))) []
    (.op none (.stAll .heap 37) [(.t 3), (.t 7)]
    .nil))))))
  (.seq (.seq (.reg 2 false (.op (some 4) .mov [(.k (.c (.int .i64 0)))]
    .nil))
  (.blk 0 (.loop [0, 3, 4] [] [(1, [0, 3], [])] jacquardref16_VM_Copy_b1)))
  jacquardref16_VM_Copy_p1))) }


end Jq

/- What a function needs of an environment. -/
namespace Jq
open Go

structure jacquardref16_New_In (E : Env) : Prop where
  fn : E.fn 180 = some jacquardref16_New
  c104 : jacquardref6_Start_In E

structure jacquardref16_VM_flush_In (E : Env) : Prop where
  fn : E.fn 197 = some jacquardref16_VM_flush

structure jacquardref16_VM_oldest_In (E : Env) : Prop where
  fn : E.fn 198 = some jacquardref16_VM_oldest

structure jacquardref16_VM_May_In (E : Env) : Prop where
  fn : E.fn 196 = some jacquardref16_VM_May
  c81 : jacquardref6_Next_In E
  c197 : jacquardref16_VM_flush_In E
  c198 : jacquardref16_VM_oldest_In E

structure jacquardref16_VM_Enabled_In (E : Env) : Prop where
  fn : E.fn 181 = some jacquardref16_VM_Enabled
  c196 : jacquardref16_VM_May_In E

structure jacquardref16_VM_Pick_In (E : Env) : Prop where
  fn : E.fn 182 = some jacquardref16_VM_Pick
  c81 : jacquardref6_Next_In E
  c107 : jacquardref6_After_In E
  c111 : jacquardref6_Event_In E
  c196 : jacquardref16_VM_May_In E
  c197 : jacquardref16_VM_flush_In E
  c198 : jacquardref16_VM_oldest_In E

structure jacquardref16_Run_In (E : Env) : Prop where
  fn : E.fn 186 = some jacquardref16_Run
  c180 : jacquardref16_New_In E
  c182 : jacquardref16_VM_Pick_In E

structure jacquardref16_VM_Copy_In (E : Env) : Prop where
  fn : E.fn 404 = some jacquardref16_VM_Copy

end Jq

namespace Jq
open Go


end Jq

namespace Jq
open Go

/- (jacquard/set.Set).Has: 17 -/
def set_Set_Has : Fn := { np := 2, nt := 10, ns := 0, res := [.t 4 .b], gc := false, code :=
  (.seq (.reg 0 false (.op (some 4) .mov [(.k (.c (.bool false)))]
    .nil))
  (.seq (.reg 1 false (.op (some 5) .mov [(.t 0)]
    (.op (some 6) .mov [(.t 1)]
    (.op (some 7) (.call 19 [(.i .u64)]) [(.t 6)]
    (.op (some 8) (.bin .and) [(.t 5), (.t 7)]
    (.op (some 9) (.bin .neq) [(.t 8), (.k (.c (.int .u64 0)))]
    (.op (some 4) .mov [(.t 9)]
    .nil)))))))
  .ret)) }

/- (jacquard/set.Set).With: 18 -/
def set_Set_With : Fn := { np := 2, nt := 9, ns := 0, res := [.t 4 (.i .u64)], gc := false, code :=
  (.seq (.reg 0 false (.op (some 4) .mov [(.k (.c (.int .u64 0)))]
    .nil))
  (.seq (.reg 1 false (.op (some 5) .mov [(.t 0)]
    (.op (some 6) .mov [(.t 1)]
    (.op (some 7) (.call 19 [(.i .u64)]) [(.t 6)]
    (.op (some 8) (.bin .or) [(.t 5), (.t 7)]
    (.op (some 4) .mov [(.t 8)]
    .nil))))))
  .ret)) }

/- jacquard/set.bit: 19 -/
def set_bit : Fn := { np := 1, nt := 12, ns := 0, res := [.t 2 (.i .u64)], gc := false, code :=
  (.seq (.reg 0 false (.op (some 2) .mov [(.k (.c (.int .u64 0)))]
    .nil))
  (.seq (.seq (.reg 1 false (.op (some 3) .mov [(.t 0)]
    (.op (some 4) (.bin .lss) [(.t 3), (.k (.c (.int .i64 0)))]
    (.op (some 5) .mov [(.t 4)]
    (.sc 5 false (.op (some 6) .mov [(.t 0)]
    (.op (some 7) (.bin .geq) [(.t 6), (.k (.c (.int .i64 64)))]
    .nil)) 7 8 true
    .nil)))))
  (.cond (.t 8)
  (.seq (.reg 2 false (.op (some 2) .mov [(.k (.c (.int .u64 0)))]
    .nil))
  .ret)
  .skip))
  (.seq (.reg 3 false (.op (some 9) .mov [(.t 0)]
    (.op (some 10) (.conv .u64) [(.t 9)]
    (.op (some 11) (.bin .shl) [(.k (.c (.int .u64 1))), (.t 10)]
    (.op (some 2) .mov [(.t 11)]
    .nil)))))
  .ret))) }


end Jq

/- What a function needs of an environment. -/
namespace Jq
open Go

structure set_bit_In (E : Env) : Prop where
  fn : E.fn 19 = some set_bit

structure set_Set_With_In (E : Env) : Prop where
  fn : E.fn 18 = some set_Set_With
  c19 : set_bit_In E

structure set_Set_Has_In (E : Env) : Prop where
  fn : E.fn 17 = some set_Set_Has
  c19 : set_bit_In E

end Jq

namespace Jq
open Go


end Jq

namespace Jq
open Go


end Jq

/- What a function needs of an environment. -/
namespace Jq
open Go


end Jq

/- What a function needs of an environment. -/
namespace Jq
open Go


end Jq

namespace Jq
open Go


end Jq

namespace Jq
open Go


end Jq

/- What a function needs of an environment. -/
namespace Jq
open Go


end Jq

namespace Jq
open Go


end Jq

namespace Jq
open Go

/- (jacquard/rel.Rel).Has: 3 -/
def rel_Rel_Has : Fn := { np := 3, nt := 18, ns := 1, res := [.t 6 .b], gc := false, code :=
  (.seq (.reg 0 false (.box 3 0 (.t 0)
    (.op (some 6) .mov [(.k (.c (.bool false)))]
    .nil)))
  (.seq (.reg 1 false (.op (some 7) (.ldAll (.slot 0) 65) [(.t 3)]
    (.op (some 8) .mov [(.t 1)]
    (.op (some 9) (.call 16 [.b]) [(.t 7), (.t 8)]
    (.op (some 10) .mov [(.t 9)]
    (.sc 10 true (.op (some 11) .mov [(.t 1)]
    (.op (some 12) (.addr 1) [(.t 3)]
    (.op (some 13) (.idxA 64 1) [(.t 12), (.t 11)]
    (.op (some 14) (.ld (.slot 0) (.i .u64)) [(.t 13)]
    (.op (some 15) .mov [(.t 2)]
    (.op (some 16) (.call 17 [.b]) [(.t 14), (.t 15)]
    .nil)))))) 16 17 false
    (.op (some 6) .mov [(.t 17)]
    .nil)))))))
  .ret)) }

/- jacquard/rel.New: 9 -/
def rel_New : Fn := { np := 1, nt := 7, ns := 1, res := [.all (.slot 0) 2 65], gc := false, code :=
  (.seq (.reg 0 false (.al 2 0 ([Cell.int .i64 0] ++ List.replicate 64 (Cell.int .u64 0))
    .nil))
  (.seq (.reg 1 false (.op (some 3) .mov [(.t 0)]
    (.op (some 4) .mx [(.t 3), (.k (.c (.int .i64 0)))]
    (.op (some 5) .mn [(.t 4), (.k (.c (.int .i64 64)))]
    (.op (some 6) (.build ([Cell.int .i64 0] ++ List.replicate 64 (Cell.int .u64 0)) [(0, 1)]) [(.t 5)]
    (.op none (.stAll (.slot 0) 65) [(.t 2), (.t 6)]
    .nil))))))
  .ret)) }

/- (jacquard/rel.Rel).in: 16 -/
def rel_Rel_in : Fn := { np := 2, nt := 13, ns := 1, res := [.t 4 .b], gc := false, code :=
  (.seq (.reg 0 false (.box 2 0 (.t 0)
    (.op (some 4) .mov [(.k (.c (.bool false)))]
    .nil)))
  (.seq (.reg 1 false (.op (some 5) .mov [(.t 1)]
    (.op (some 6) (.bin .geq) [(.t 5), (.k (.c (.int .i64 0)))]
    (.op (some 7) .mov [(.t 6)]
    (.sc 7 true (.op (some 8) .mov [(.t 1)]
    (.op (some 9) (.addr 0) [(.t 2)]
    (.op (some 10) (.ld (.slot 0) (.i .i64)) [(.t 9)]
    (.op (some 11) (.bin .lss) [(.t 8), (.t 10)]
    .nil)))) 11 12 false
    (.op (some 4) .mov [(.t 12)]
    .nil))))))
  .ret)) }


end Jq

/- What a function needs of an environment. -/
namespace Jq
open Go

structure rel_New_In (E : Env) : Prop where
  fn : E.fn 9 = some rel_New

structure rel_Rel_in_In (E : Env) : Prop where
  fn : E.fn 16 = some rel_Rel_in

structure rel_Rel_Has_In (E : Env) : Prop where
  fn : E.fn 3 = some rel_Rel_Has
  c16 : rel_Rel_in_In E
  c17 : set_Set_Has_In E

end Jq

/- What a function needs of an environment. -/
namespace Jq
open Go


end Jq

namespace Jq
open Go


end Jq

namespace Jq
open Go


end Jq

/- What a function needs of an environment. -/
namespace Jq
open Go


end Jq

/- What a function needs of an environment. -/
namespace Jq
open Go


end Jq

/- What a function needs of an environment. -/
namespace Jq
open Go


end Jq

/- What a function needs of an environment. -/
namespace Jq
open Go


end Jq

/- What a function needs of an environment. -/
namespace Jq
open Go

structure jacquardlaw17_Any_In (E : Env) : Prop where
  fn : E.fn 254 = some jacquardlaw17_Any
  c180 : jacquardref16_New_In E
  c181 : jacquardref16_VM_Enabled_In E
  c182 : jacquardref16_VM_Pick_In E

end Jq

namespace Jq
open Go

/- jacquard/jacquardlaw21.awake: 403 -/
def jacquardlaw21_awake : Fn := { np := 0, nt := 22, ns := 2, res := [.t 0 .b], gc := true, code :=
  (.seq (.reg 0 false (.op (some 0) .mov [(.k (.c (.bool false)))]
    .nil))
  (.seq (.reg 1 false (.op (some 3) (.build (List.replicate 7 (Cell.int .i64 0)) [(0, 1), (1, 1), (2, 1)]) [(.k (.c (.int .i64 0))), (.k (.c (.int .i64 0))), (.k (.c (.int .i64 1)))]
    (.op (some 4) (.build (List.replicate 7 (Cell.int .i64 0)) [(0, 1), (1, 1), (2, 1)]) [(.k (.c (.int .i64 1))), (.k (.c (.int .i64 1))), (.k (.c (.int .i64 1)))]
    (.al 1 0 (List.replicate 7 (Cell.int .i64 0))
    (.al 2 1 (List.replicate 7 (Cell.int .i64 0))
    (.op none (.stAll (.slot 0) 7) [(.t 1), (.t 3)]
    (.op none (.stAll (.slot 1) 7) [(.t 2), (.t 4)]
    .nil)))))))
  (.seq (.reg 2 false (.op (some 5) (.ldAll (.slot 0) 7) [(.t 1)]
    (.op (some 6) (.ldAll (.slot 1) 7) [(.t 2)]
    (.op (some 7) (.call 390 [.b]) [(.t 5), (.t 6), (.k (.c (.int .i64 1)))]
    (.op (some 8) (.un .not) [(.t 7)]
    (.op (some 9) .mov [(.t 8)]
    (.sc 9 true (.op (some 10) (.call 9 [.agg]) [(.k (.c (.int .i64 2)))]
    (.op (some 11) (.bslice 1 2 ([Cell.int .i64 0, Cell.int .i64 0]) [(0, 1), (1, 1)]) [(.k (.c (.int .i64 0))), (.k (.c (.int .i64 1)))]
    (.op (some 12) (.call 408 [(.i .u64)]) [(.t 10), (.t 11), (.k (.c (.int .i64 0)))]
    (.op (some 13) (.bin .eql) [(.t 12), (.k (.c (.int .u64 3)))]
    .nil)))) 13 14 false
    (.op (some 15) .mov [(.t 14)]
    (.sc 15 true (.op (some 16) (.call 368 [.b]) [(.k (.c (.int .u64 1))), (.k (.c (.int .u64 0)))]
    .nil) 16 17 false
    (.op (some 18) .mov [(.t 17)]
    (.sc 18 true (.op (some 19) (.call 368 [.b]) [(.k (.c (.int .u64 1))), (.k (.c (.int .u64 2)))]
    (.op (some 20) (.un .not) [(.t 19)]
    .nil)) 20 21 false
    (.op (some 0) .mov [(.t 21)]
    .nil))))))))))))
  .ret))) }

/- jacquard/jacquardlaw21.SleepSwaps: 405 -/
def jacquardlaw21_SleepSwaps_b1 : IC :=
  (.seq (.seq (.reg 25 false (.op (some 203) .mov [(.t 31)]
    (.op (some 204) .mov [(.t 20)]
    (.op (some 205) .mov [(.t 30)]
    (.op (some 206) .nilchk [(.t 204)]
    (.op (some 207) (.addr 32) [(.t 206)]
    (.op (some 208) (.idxA 4 1) [(.t 207), (.t 205)]
    (.op (some 209) (.ld .heap .any) [(.t 208)]
    (.op (some 210) .len [(.t 209)]
    (.op (some 211) (.bin .lss) [(.t 203), (.t 210)]
    .nil))))))))))
  (.cond (.t 211)
  .skip
  (.exit 2)))
  (.seq (.blk 3 (.seq (.reg 27 true (.op (some 214) .mov [(.t 20)]
    (.op (some 215) .mov [(.t 30)]
    (.op (some 216) .nilchk [(.t 214)]
    (.op (some 217) (.addr 32) [(.t 216)]
    (.op (some 218) (.idxA 4 1) [(.t 217), (.t 215)]
    (.op (some 219) (.ld .heap .any) [(.t 218)]
    (.op (some 220) .mov [(.t 31)]
    (.op (some 221) (.idxS 3) [(.t 219), (.t 220)]
    (.op (some 222) (.addr 0) [(.t 221)]
    (.op (some 223) (.ld .heap (.i .i64)) [(.t 222)]
    (.op (some 224) .mov [(.t 21)]
    (.op (some 225) .mov [(.t 30)]
    (.op (some 226) .nilchk [(.t 224)]
    (.op (some 227) (.addr 32) [(.t 226)]
    (.op (some 228) (.idxA 4 1) [(.t 227), (.t 225)]
    (.op (some 229) (.ld .heap .any) [(.t 228)]
    (.op (some 230) .mov [(.t 31)]
    (.op (some 231) (.idxS 3) [(.t 229), (.t 230)]
    (.op (some 232) (.addr 0) [(.t 231)]
    (.op (some 233) (.ld .heap (.i .i64)) [(.t 232)]
    (.op (some 234) (.bin .neq) [(.t 223), (.t 233)]
    (.op (some 235) .mov [(.t 234)]
    (.sc 235 false (.op (some 236) .mov [(.t 20)]
    (.op (some 237) .mov [(.t 30)]
    (.op (some 238) .nilchk [(.t 236)]
    (.op (some 239) (.addr 32) [(.t 238)]
    (.op (some 240) (.idxA 4 1) [(.t 239), (.t 237)]
    (.op (some 241) (.ld .heap .any) [(.t 240)]
    (.op (some 242) .mov [(.t 31)]
    (.op (some 243) (.idxS 3) [(.t 241), (.t 242)]
    (.op (some 244) (.addr 1) [(.t 243)]
    (.op (some 245) (.ld .heap (.i .i64)) [(.t 244)]
    (.op (some 246) .mov [(.t 21)]
    (.op (some 247) .mov [(.t 30)]
    (.op (some 248) .nilchk [(.t 246)]
    (.op (some 249) (.addr 32) [(.t 248)]
    (.op (some 250) (.idxA 4 1) [(.t 249), (.t 247)]
    (.op (some 251) (.ld .heap .any) [(.t 250)]
    (.op (some 252) .mov [(.t 31)]
    (.op (some 253) (.idxS 3) [(.t 251), (.t 252)]
    (.op (some 254) (.addr 1) [(.t 253)]
    (.op (some 255) (.ld .heap (.i .i64)) [(.t 254)]
    (.op (some 256) (.bin .neq) [(.t 245), (.t 255)]
    .nil))))))))))))))))))))) 256 257 true
    .nil))))))))))))))))))))))))
  (.cond (.t 257)
  (.seq (.reg 28 false (.op (some 12) .mov [(.k (.c (.bool false)))]
    .nil))
  .ret)
  .skip)))
  (.reg 26 false (.op (some 212) .mov [(.t 31)]
    (.op (some 213) (.bin .add) [(.t 212), (.k (.c (.int .i64 1)))]
    (.op (some 31) .mov [(.t 213)]
    .nil))))))
def jacquardlaw21_SleepSwaps_p2 : IC :=
  (.reg 21 false (.op (some 186) .mov [(.t 30)]
    (.op (some 187) (.bin .add) [(.t 186), (.k (.c (.int .i64 1)))]
    (.op (some 30) .mov [(.t 187)]
    .nil))))
def jacquardlaw21_SleepSwaps_b2 : IC :=
  (.seq (.seq (.reg 20 false (.op (some 184) .mov [(.t 30)]
    (.op (some 185) (.bin .lss) [(.t 184), (.k (.c (.int .i64 4)))]
    .nil)))
  (.cond (.t 185)
  .skip
  (.exit 0)))
  (.seq (.blk 1 (.seq (.seq (.reg 22 true (.op (some 188) .mov [(.t 20)]
    (.op (some 189) .mov [(.t 30)]
    (.op (some 190) .nilchk [(.t 188)]
    (.op (some 191) (.addr 32) [(.t 190)]
    (.op (some 192) (.idxA 4 1) [(.t 191), (.t 189)]
    (.op (some 193) (.ld .heap .any) [(.t 192)]
    (.op (some 194) .len [(.t 193)]
    (.op (some 195) .mov [(.t 21)]
    (.op (some 196) .mov [(.t 30)]
    (.op (some 197) .nilchk [(.t 195)]
    (.op (some 198) (.addr 32) [(.t 197)]
    (.op (some 199) (.idxA 4 1) [(.t 198), (.t 196)]
    (.op (some 200) (.ld .heap .any) [(.t 199)]
    (.op (some 201) .len [(.t 200)]
    (.op (some 202) (.bin .neq) [(.t 194), (.t 201)]
    .nil))))))))))))))))
  (.cond (.t 202)
  (.seq (.reg 23 false (.op (some 12) .mov [(.k (.c (.bool false)))]
    .nil))
  .ret)
  .skip))
  (.seq (.reg 24 false (.op (some 31) .mov [(.k (.c (.int .i64 0)))]
    .nil))
  (.blk 2 (.loop [20, 21, 30, 31] [] [(0, [12], []), (3, [20, 21, 30], [])] jacquardlaw21_SleepSwaps_b1)))))
  jacquardlaw21_SleepSwaps_p2))
def jacquardlaw21_SleepSwaps_p1 : IC :=
  (.seq (.reg 29 false (.op (some 258) (.call 403 [.b]) []
    (.op (some 12) .mov [(.t 258)]
    .nil)))
  .ret)
def jacquardlaw21_SleepSwaps : Fn := { np := 6, nt := 259, ns := 5, res := [.t 12 .b], gc := false, code :=
  (.seq (.reg 0 false (.op (some 12) .mov [(.k (.c (.bool false)))]
    .nil))
  (.seq (.reg 1 false (.op (some 32) .mov [(.t 0)]
    (.op (some 33) (.call 76 [.agg]) [(.t 32), (.k (.c (.int .i64 10)))]
    (.al 13 0 ([Cell.nils, Cell.nils, Cell.nils])
    (.op none (.stAll (.slot 0) 3) [(.t 13), (.t 33)]
    .nil)))))
  (.seq (.reg 2 false (.op (some 34) .mov [(.t 1)]
    (.op (some 35) (.bin .and) [(.t 34), (.k (.c (.int .i64 255)))]
    (.op (some 36) (.bin .rem) [(.t 35), (.k (.c (.int .i64 3)))]
    (.op (some 37) (.bin .add) [(.t 36), (.k (.c (.int .i64 1)))]
    (.op (some 1) .mov [(.t 37)]
    .nil))))))
  (.seq (.reg 3 false (.op (some 38) (.ldAll (.slot 0) 3) [(.t 13)]
    (.op (some 39) .mov [(.t 1)]
    (.op (some 40) .mov [(.t 2)]
    (.op (some 41) (.call 254 [.any]) [(.t 38), (.t 39), (.t 40)]
    (.op (some 14) .mov [(.t 41)]
    .nil))))))
  (.seq (.reg 4 false (.op (some 42) .mov [(.t 3)]
    (.op (some 43) (.bin .and) [(.t 42), (.k (.c (.int .i64 65535)))]
    (.op (some 44) .mov [(.t 14)]
    (.op (some 45) .len [(.t 44)]
    (.op (some 46) (.bin .add) [(.t 45), (.k (.c (.int .i64 1)))]
    (.op (some 47) (.bin .rem) [(.t 43), (.t 46)]
    (.op (some 3) .mov [(.t 47)]
    .nil))))))))
  (.seq (.reg 5 true (.op (some 49) (.ldAll (.slot 0) 3) [(.t 13)]
    (.op (some 50) .mov [(.t 1)]
    (.op (some 51) .mov [(.t 14)]
    (.op (some 52) .mov [(.t 3)]
    (.op (some 53) (.slc 1 false true) [(.t 51), (.t 52)]
    (.op (some 54) (.call 186 [.any, (.i .i64)]) [(.t 49), (.t 50), (.t 53)]
    (.op (some 48) .mov [(.t 54)]
    (.op (some 55) (.ext 0) [(.t 48)]
    (.op (some 56) (.ext 1) [(.t 48)]
    (.op (some 15) .mov [(.t 55)]
    (.op (some 16) .mov [(.t 56)]
    .nil))))))))))))
  (.seq (.reg 6 false (.op (some 57) .mov [(.t 15)]
    (.op (some 58) (.call 181 [.any]) [(.t 57)]
    (.op (some 17) .mov [(.t 58)]
    .nil))))
  (.seq (.seq (.reg 7 false (.op (some 59) .mov [(.t 17)]
    (.op (some 60) .len [(.t 59)]
    (.op (some 61) (.bin .lss) [(.t 60), (.k (.c (.int .i64 2)))]
    .nil))))
  (.cond (.t 61)
  (.seq (.reg 8 false (.op (some 62) (.call 403 [.b]) []
    (.op (some 12) .mov [(.t 62)]
    .nil)))
  .ret)
  .skip))
  (.seq (.reg 9 true (.op (some 63) .mov [(.t 17)]
    (.op (some 64) .mov [(.t 4)]
    (.op (some 65) (.bin .and) [(.t 64), (.k (.c (.int .i64 255)))]
    (.op (some 66) .mov [(.t 17)]
    (.op (some 67) .len [(.t 66)]
    (.op (some 68) (.bin .rem) [(.t 65), (.t 67)]
    (.op (some 69) (.idxS 1) [(.t 63), (.t 68)]
    (.op (some 70) (.ld .heap (.i .i64)) [(.t 69)]
    (.op (some 71) .mov [(.t 17)]
    (.op (some 72) .mov [(.t 5)]
    (.op (some 73) (.bin .and) [(.t 72), (.k (.c (.int .i64 255)))]
    (.op (some 74) .mov [(.t 17)]
    (.op (some 75) .len [(.t 74)]
    (.op (some 76) (.bin .rem) [(.t 73), (.t 75)]
    (.op (some 77) (.idxS 1) [(.t 71), (.t 76)]
    (.op (some 78) (.ld .heap (.i .i64)) [(.t 77)]
    (.op (some 18) .mov [(.t 70)]
    (.op (some 19) .mov [(.t 78)]
    .nil)))))))))))))))))))
  (.seq (.reg 10 false (.op (some 79) .mov [(.t 15)]
    (.op (some 80) (.call 404 [.any]) [(.t 79)]
    (.op (some 81) .mov [(.t 15)]
    (.op (some 82) (.call 404 [.any]) [(.t 81)]
    (.op (some 20) .mov [(.t 80)]
    (.op (some 21) .mov [(.t 82)]
    .nil)))))))
  (.seq (.reg 11 false (.op (some 84) .mov [(.t 20)]
    (.op (some 85) .mov [(.t 18)]
    (.op (some 86) (.call 182 [.agg, .b]) [(.t 84), (.t 85)]
    (.op (some 83) .mov [(.t 86)]
    (.op (some 87) (.ext 0) [(.t 83)]
    (.op (some 88) (.ext 1) [(.t 83)]
    (.al 22 1 (List.replicate 7 (Cell.int .i64 0))
    (.op none (.stAll (.slot 1) 7) [(.t 22), (.t 87)]
    (.op (some 23) .mov [(.t 88)]
    .nil))))))))))
  (.seq (.reg 12 false (.op (some 90) .mov [(.t 21)]
    (.op (some 91) .mov [(.t 19)]
    (.op (some 92) (.call 182 [.agg, .b]) [(.t 90), (.t 91)]
    (.op (some 89) .mov [(.t 92)]
    (.op (some 93) (.ext 0) [(.t 89)]
    (.op (some 94) (.ext 1) [(.t 89)]
    (.al 24 2 (List.replicate 7 (Cell.int .i64 0))
    (.op none (.stAll (.slot 2) 7) [(.t 24), (.t 93)]
    (.op (some 25) .mov [(.t 94)]
    .nil))))))))))
  (.seq (.seq (.reg 13 false (.op (some 95) .mov [(.t 18)]
    (.op (some 96) .mov [(.t 19)]
    (.op (some 97) (.bin .eql) [(.t 95), (.t 96)]
    (.op (some 98) .mov [(.t 97)]
    (.sc 98 false (.op (some 99) (.ldAll (.slot 1) 7) [(.t 22)]
    (.op (some 100) (.ldAll (.slot 2) 7) [(.t 24)]
    (.op (some 101) .mov [(.t 1)]
    (.op (some 102) (.call 390 [.b]) [(.t 99), (.t 100), (.t 101)]
    .nil)))) 102 103 true
    .nil))))))
  (.cond (.t 103)
  (.seq (.reg 14 false (.op (some 104) .mov [(.t 18)]
    (.op (some 105) .mov [(.t 19)]
    (.op (some 106) (.bin .neq) [(.t 104), (.t 105)]
    (.op (some 107) .mov [(.t 106)]
    (.sc 107 false (.op (some 108) (.ldAll (.slot 1) 7) [(.t 22)]
    (.op (some 109) (.ldAll (.slot 2) 7) [(.t 24)]
    (.op (some 110) .mov [(.t 1)]
    (.op (some 111) (.call 390 [.b]) [(.t 108), (.t 109), (.t 110)]
    .nil)))) 111 112 true
    (.op (some 113) .mov [(.t 112)]
    (.sc 113 true (.op (some 114) (.call 403 [.b]) []
    .nil) 114 115 false
    (.op (some 12) .mov [(.t 115)]
    .nil)))))))))
  .ret)
  .skip))
  (.seq (.reg 15 false (.op (some 117) .mov [(.t 20)]
    (.op (some 118) .mov [(.t 19)]
    (.op (some 119) (.call 182 [.agg, .b]) [(.t 117), (.t 118)]
    (.op (some 116) .mov [(.t 119)]
    (.op (some 120) (.ext 0) [(.t 116)]
    (.op (some 121) (.ext 1) [(.t 116)]
    (.al 26 3 (List.replicate 7 (Cell.int .i64 0))
    (.op none (.stAll (.slot 3) 7) [(.t 26), (.t 120)]
    (.op (some 27) .mov [(.t 121)]
    .nil))))))))))
  (.seq (.reg 16 false (.op (some 123) .mov [(.t 21)]
    (.op (some 124) .mov [(.t 18)]
    (.op (some 125) (.call 182 [.agg, .b]) [(.t 123), (.t 124)]
    (.op (some 122) .mov [(.t 125)]
    (.op (some 126) (.ext 0) [(.t 122)]
    (.op (some 127) (.ext 1) [(.t 122)]
    (.al 28 4 (List.replicate 7 (Cell.int .i64 0))
    (.op none (.stAll (.slot 4) 7) [(.t 28), (.t 126)]
    (.op (some 29) .mov [(.t 127)]
    .nil))))))))))
  (.seq (.seq (.reg 17 true (.op (some 128) .mov [(.t 27)]
    (.op (some 129) (.un .not) [(.t 128)]
    (.op (some 130) .mov [(.t 129)]
    (.sc 130 false (.op (some 131) .mov [(.t 29)]
    (.op (some 132) (.un .not) [(.t 131)]
    .nil)) 132 133 true
    (.op (some 134) .mov [(.t 133)]
    (.sc 134 false (.op (some 135) (.addr 4) [(.t 26)]
    (.op (some 136) (.ld (.slot 3) (.i .i64)) [(.t 135)]
    (.op (some 137) (.addr 4) [(.t 24)]
    (.op (some 138) (.ld (.slot 2) (.i .i64)) [(.t 137)]
    (.op (some 139) (.bin .neq) [(.t 136), (.t 138)]
    .nil))))) 139 140 true
    (.op (some 141) .mov [(.t 140)]
    (.sc 141 false (.op (some 142) (.addr 5) [(.t 26)]
    (.op (some 143) (.ld (.slot 3) (.i .i64)) [(.t 142)]
    (.op (some 144) (.addr 5) [(.t 24)]
    (.op (some 145) (.ld (.slot 2) (.i .i64)) [(.t 144)]
    (.op (some 146) (.bin .neq) [(.t 143), (.t 145)]
    .nil))))) 146 147 true
    (.op (some 148) .mov [(.t 147)]
    (.sc 148 false (.op (some 149) (.addr 4) [(.t 28)]
    (.op (some 150) (.ld (.slot 4) (.i .i64)) [(.t 149)]
    (.op (some 151) (.addr 4) [(.t 22)]
    (.op (some 152) (.ld (.slot 1) (.i .i64)) [(.t 151)]
    (.op (some 153) (.bin .neq) [(.t 150), (.t 152)]
    .nil))))) 153 154 true
    (.op (some 155) .mov [(.t 154)]
    (.sc 155 false (.op (some 156) (.addr 5) [(.t 28)]
    (.op (some 157) (.ld (.slot 4) (.i .i64)) [(.t 156)]
    (.op (some 158) (.addr 5) [(.t 22)]
    (.op (some 159) (.ld (.slot 1) (.i .i64)) [(.t 158)]
    (.op (some 160) (.bin .neq) [(.t 157), (.t 159)]
    .nil))))) 160 161 true
    (.op (some 162) .mov [(.t 161)]
    (.sc 162 false (.op (some 163) .mov [(.t 20)]
    (.op (some 164) .nilchk [(.t 163)]
    (.op (some 165) (.addr 4) [(.t 164)]
    (.op (some 166) (.ldN .heap 4) [(.t 165)]
    (.op (some 167) .mov [(.t 21)]
    (.op (some 168) .nilchk [(.t 167)]
    (.op (some 169) (.addr 4) [(.t 168)]
    (.op (some 170) (.ldN .heap 4) [(.t 169)]
    (.op (some 171) (.eqA true ([Cell.int .i64 0, Cell.int .i64 0, Cell.int .i64 0, Cell.int .i64 0])) [(.t 166), (.t 170)]
    .nil))))))))) 171 172 true
    (.op (some 173) .mov [(.t 172)]
    (.sc 173 false (.op (some 174) .mov [(.t 20)]
    (.op (some 175) .nilchk [(.t 174)]
    (.op (some 176) (.addr 12) [(.t 175)]
    (.op (some 177) (.ldN .heap 20) [(.t 176)]
    (.op (some 178) .mov [(.t 21)]
    (.op (some 179) .nilchk [(.t 178)]
    (.op (some 180) (.addr 12) [(.t 179)]
    (.op (some 181) (.ldN .heap 20) [(.t 180)]
    (.op (some 182) (.eqA true (List.replicate 20 (Cell.int .i64 0))) [(.t 177), (.t 181)]
    .nil))))))))) 182 183 true
    .nil)))))))))))))))))
  (.cond (.t 183)
  (.seq (.reg 18 false (.op (some 12) .mov [(.k (.c (.bool false)))]
    .nil))
  .ret)
  .skip))
  (.seq (.seq (.reg 19 false (.op (some 30) .mov [(.k (.c (.int .i64 0)))]
    .nil))
  (.blk 0 (.loop [20, 21, 30] [] [(0, [12], []), (1, [], [])] jacquardlaw21_SleepSwaps_b2)))
  jacquardlaw21_SleepSwaps_p1))))))))))))))))) }


end Jq

namespace Jq
open Go


end Jq

/- What a function needs of an environment. -/
namespace Jq
open Go


end Jq

namespace Jq
open Go

/- jacquard/sleep.Covers: 368 -/
def sleep_Covers : Fn := { np := 2, nt := 13, ns := 0, res := [.t 4 .b], gc := false, code :=
  (.seq (.reg 0 false (.op (some 4) .mov [(.k (.c (.bool false)))]
    .nil))
  (.seq (.reg 1 false (.op (some 5) .mov [(.t 1)]
    (.op (some 6) (.bin .eql) [(.t 5), (.k (.c (.int .u64 0)))]
    (.op (some 7) .mov [(.t 6)]
    (.sc 7 false (.op (some 8) .mov [(.t 0)]
    (.op (some 9) .mov [(.t 1)]
    (.op (some 10) (.bin .and) [(.t 8), (.t 9)]
    (.op (some 11) (.bin .neq) [(.t 10), (.k (.c (.int .u64 0)))]
    .nil)))) 11 12 true
    (.op (some 4) .mov [(.t 12)]
    .nil))))))
  .ret)) }

/- jacquard/sleep.Clash: 390 -/
def sleep_Clash : Fn := { np := 3, nt := 58, ns := 2, res := [.t 6 .b], gc := false, code :=
  (.seq (.reg 0 false (.box 3 0 (.t 0)
    (.box 4 1 (.t 1)
    (.op (some 6) .mov [(.k (.c (.bool false)))]
    .nil))))
  (.seq (.seq (.reg 1 false (.op (some 7) (.addr 0) [(.t 3)]
    (.op (some 8) (.ld (.slot 0) (.i .i64)) [(.t 7)]
    (.op (some 9) (.addr 0) [(.t 4)]
    (.op (some 10) (.ld (.slot 1) (.i .i64)) [(.t 9)]
    (.op (some 11) (.bin .eql) [(.t 8), (.t 10)]
    .nil))))))
  (.cond (.t 11)
  (.seq (.reg 2 false (.op (some 6) .mov [(.k (.c (.bool true)))]
    .nil))
  .ret)
  .skip))
  (.seq (.seq (.reg 3 false (.op (some 12) (.addr 1) [(.t 3)]
    (.op (some 13) (.ld (.slot 0) (.i .i64)) [(.t 12)]
    (.op (some 14) (.addr 1) [(.t 4)]
    (.op (some 15) (.ld (.slot 1) (.i .i64)) [(.t 14)]
    (.op (some 16) (.bin .eql) [(.t 13), (.t 15)]
    .nil))))))
  (.cond (.t 16)
  (.seq (.reg 4 false (.op (some 17) (.addr 2) [(.t 3)]
    (.op (some 18) (.ld (.slot 0) (.i .i64)) [(.t 17)]
    (.op (some 19) (.bin .eql) [(.t 18), (.k (.c (.int .i64 6)))]
    (.op (some 20) .mov [(.t 19)]
    (.sc 20 true (.op (some 21) (.ldAll (.slot 1) 7) [(.t 4)]
    (.op (some 22) (.call 265 [.b]) [(.t 21)]
    .nil)) 22 23 false
    (.op (some 24) .mov [(.t 23)]
    (.sc 24 false (.op (some 25) (.addr 2) [(.t 4)]
    (.op (some 26) (.ld (.slot 1) (.i .i64)) [(.t 25)]
    (.op (some 27) (.bin .eql) [(.t 26), (.k (.c (.int .i64 6)))]
    (.op (some 28) .mov [(.t 27)]
    (.sc 28 true (.op (some 29) (.ldAll (.slot 0) 7) [(.t 3)]
    (.op (some 30) (.call 265 [.b]) [(.t 29)]
    .nil)) 30 31 false
    .nil))))) 31 32 true
    (.op (some 6) .mov [(.t 32)]
    .nil)))))))))
  .ret)
  .skip))
  (.seq (.reg 5 false (.op (some 33) (.ldAll (.slot 0) 7) [(.t 3)]
    (.op (some 34) .mov [(.t 2)]
    (.op (some 35) (.call 401 [.b]) [(.t 33), (.t 34)]
    (.op (some 36) .mov [(.t 35)]
    (.sc 36 true (.op (some 37) (.ldAll (.slot 1) 7) [(.t 4)]
    (.op (some 38) .mov [(.t 2)]
    (.op (some 39) (.call 401 [.b]) [(.t 37), (.t 38)]
    .nil))) 39 40 false
    (.op (some 41) .mov [(.t 40)]
    (.sc 41 true (.op (some 42) (.addr 3) [(.t 3)]
    (.op (some 43) (.ld (.slot 0) (.i .i64)) [(.t 42)]
    (.op (some 44) (.addr 3) [(.t 4)]
    (.op (some 45) (.ld (.slot 1) (.i .i64)) [(.t 44)]
    (.op (some 46) (.bin .eql) [(.t 43), (.t 45)]
    .nil))))) 46 47 false
    (.op (some 48) .mov [(.t 47)]
    (.sc 48 true (.op (some 49) (.ldAll (.slot 0) 7) [(.t 3)]
    (.op (some 50) .mov [(.t 2)]
    (.op (some 51) (.call 257 [.b]) [(.t 49), (.t 50)]
    (.op (some 52) .mov [(.t 51)]
    (.sc 52 false (.op (some 53) (.ldAll (.slot 1) 7) [(.t 4)]
    (.op (some 54) .mov [(.t 2)]
    (.op (some 55) (.call 257 [.b]) [(.t 53), (.t 54)]
    .nil))) 55 56 true
    .nil))))) 56 57 false
    (.op (some 6) .mov [(.t 57)]
    .nil)))))))))))
  .ret)))) }

/- jacquard/sleep.touches: 401 -/
def sleep_touches : Fn := { np := 2, nt := 12, ns := 1, res := [.t 4 .b], gc := false, code :=
  (.seq (.reg 0 false (.box 2 0 (.t 0)
    (.op (some 4) .mov [(.k (.c (.bool false)))]
    .nil)))
  (.seq (.reg 1 false (.op (some 5) (.ldAll (.slot 0) 7) [(.t 2)]
    (.op (some 6) .mov [(.t 1)]
    (.op (some 7) (.call 257 [.b]) [(.t 5), (.t 6)]
    (.op (some 8) .mov [(.t 7)]
    (.sc 8 false (.op (some 9) (.ldAll (.slot 0) 7) [(.t 2)]
    (.op (some 10) (.call 266 [.b]) [(.t 9)]
    .nil)) 10 11 true
    (.op (some 4) .mov [(.t 11)]
    .nil)))))))
  .ret)) }

/- jacquard/sleep.Initials: 408 -/
def sleep_Initials_b1 : IC :=
  (.seq (.seq (.reg 8 false (.op (some 21) .mov [(.t 10)]
    (.op (some 22) .mov [(.t 1)]
    (.op (some 23) .len [(.t 22)]
    (.op (some 24) (.bin .lss) [(.t 21), (.t 23)]
    .nil)))))
  (.cond (.t 24)
  .skip
  (.exit 2)))
  (.seq (.blk 3 (.reg 10 false (.op (some 27) .mov [(.t 9)]
    (.op (some 28) .mov [(.t 27)]
    (.sc 28 true (.op (some 29) (.ldAll (.slot 0) 65) [(.t 3)]
    (.op (some 30) .mov [(.t 10)]
    (.op (some 31) .mov [(.t 8)]
    (.op (some 32) (.call 3 [.b]) [(.t 29), (.t 30), (.t 31)]
    (.op (some 33) (.un .not) [(.t 32)]
    .nil))))) 33 34 false
    (.op (some 9) .mov [(.t 34)]
    .nil))))))
  (.reg 9 false (.op (some 25) .mov [(.t 10)]
    (.op (some 26) (.bin .add) [(.t 25), (.k (.c (.int .i64 1)))]
    (.op (some 10) .mov [(.t 26)]
    .nil))))))
def sleep_Initials_p3 : IC :=
  (.seq (.reg 11 false (.op (some 35) .mov [(.t 9)]
    .nil))
  (.cond (.t 35)
  (.reg 12 false (.op (some 36) .mov [(.t 7)]
    (.op (some 37) .mov [(.t 1)]
    (.op (some 38) .mov [(.t 8)]
    (.op (some 39) (.idxS 1) [(.t 37), (.t 38)]
    (.op (some 40) (.ld .heap (.i .i64)) [(.t 39)]
    (.op (some 41) (.call 18 [(.i .u64)]) [(.t 36), (.t 40)]
    (.op (some 7) .mov [(.t 41)]
    .nil))))))))
  .skip))
def sleep_Initials_p2 : IC :=
  (.reg 5 false (.op (some 18) .mov [(.t 8)]
    (.op (some 19) (.bin .add) [(.t 18), (.k (.c (.int .i64 1)))]
    (.op (some 8) .mov [(.t 19)]
    .nil))))
def sleep_Initials_b2 : IC :=
  (.seq (.seq (.reg 4 false (.op (some 14) .mov [(.t 8)]
    (.op (some 15) .mov [(.t 1)]
    (.op (some 16) .len [(.t 15)]
    (.op (some 17) (.bin .lss) [(.t 14), (.t 16)]
    .nil)))))
  (.cond (.t 17)
  .skip
  (.exit 0)))
  (.seq (.blk 1 (.seq (.reg 6 false (.op (some 9) .mov [(.k (.c (.bool true)))]
    .nil))
  (.seq (.seq (.reg 7 false (.op (some 20) .mov [(.t 2)]
    (.op (some 10) .mov [(.t 20)]
    .nil)))
  (.blk 2 (.loop [1, 2, 3, 7, 8, 9, 10] [0] [(3, [1, 2, 3, 7, 8, 9], [0])] sleep_Initials_b1)))
  sleep_Initials_p3)))
  sleep_Initials_p2))
def sleep_Initials_p1 : IC :=
  (.seq (.reg 13 false (.op (some 42) .mov [(.t 7)]
    (.op (some 6) .mov [(.t 42)]
    .nil)))
  .ret)
def sleep_Initials : Fn := { np := 3, nt := 43, ns := 1, res := [.t 6 (.i .u64)], gc := false, code :=
  (.seq (.reg 0 false (.box 3 0 (.t 0)
    (.op (some 6) .mov [(.k (.c (.int .u64 0)))]
    .nil)))
  (.seq (.reg 1 false (.op (some 11) .mov [(.t 2)]
    (.op (some 12) .mx [(.t 11), (.k (.c (.int .i64 0)))]
    (.op (some 2) .mov [(.t 12)]
    .nil))))
  (.seq (.reg 2 false (.op (some 7) .mov [(.k (.c (.int .u64 0)))]
    .nil))
  (.seq (.seq (.reg 3 false (.op (some 13) .mov [(.t 2)]
    (.op (some 8) .mov [(.t 13)]
    .nil)))
  (.blk 0 (.loop [1, 2, 3, 7, 8] [0] [(1, [7], [])] sleep_Initials_b2)))
  sleep_Initials_p1)))) }


end Jq

namespace Jq
open Go

/- jacquard/trace.Writes: 257 -/
def trace_Writes : Fn := { np := 2, nt := 22, ns := 1, res := [.t 4 .b], gc := false, code :=
  (.seq (.reg 0 false (.box 2 0 (.t 0)
    (.op (some 4) .mov [(.k (.c (.bool false)))]
    .nil)))
  (.seq (.reg 1 false (.op (some 5) (.addr 2) [(.t 2)]
    (.op (some 6) (.ld (.slot 0) (.i .i64)) [(.t 5)]
    (.op (some 7) (.bin .eql) [(.t 6), (.k (.c (.int .i64 6)))]
    (.op (some 8) .mov [(.t 7)]
    (.sc 8 false (.op (some 9) (.addr 2) [(.t 2)]
    (.op (some 10) (.ld (.slot 0) (.i .i64)) [(.t 9)]
    (.op (some 11) (.bin .eql) [(.t 10), (.k (.c (.int .i64 4)))]
    .nil))) 11 12 true
    (.op (some 13) .mov [(.t 12)]
    (.sc 13 false (.op (some 14) .mov [(.t 1)]
    (.op (some 15) (.bin .eql) [(.t 14), (.k (.c (.int .i64 1)))]
    (.op (some 16) .mov [(.t 15)]
    (.sc 16 true (.op (some 17) (.addr 2) [(.t 2)]
    (.op (some 18) (.ld (.slot 0) (.i .i64)) [(.t 17)]
    (.op (some 19) (.bin .eql) [(.t 18), (.k (.c (.int .i64 2)))]
    .nil))) 19 20 false
    .nil)))) 20 21 true
    (.op (some 4) .mov [(.t 21)]
    .nil)))))))))
  .ret)) }

/- jacquard/trace.Fences: 265 -/
def trace_Fences : Fn := { np := 1, nt := 16, ns := 1, res := [.t 2 .b], gc := false, code :=
  (.seq (.reg 0 false (.box 1 0 (.t 0)
    (.op (some 2) .mov [(.k (.c (.bool false)))]
    .nil)))
  (.seq (.reg 1 false (.op (some 3) (.addr 2) [(.t 1)]
    (.op (some 4) (.ld (.slot 0) (.i .i64)) [(.t 3)]
    (.op (some 5) (.bin .eql) [(.t 4), (.k (.c (.int .i64 3)))]
    (.op (some 6) .mov [(.t 5)]
    (.sc 6 false (.op (some 7) (.addr 2) [(.t 1)]
    (.op (some 8) (.ld (.slot 0) (.i .i64)) [(.t 7)]
    (.op (some 9) (.bin .eql) [(.t 8), (.k (.c (.int .i64 4)))]
    .nil))) 9 10 true
    (.op (some 11) .mov [(.t 10)]
    (.sc 11 false (.op (some 12) (.addr 2) [(.t 1)]
    (.op (some 13) (.ld (.slot 0) (.i .i64)) [(.t 12)]
    (.op (some 14) (.bin .eql) [(.t 13), (.k (.c (.int .i64 5)))]
    .nil))) 14 15 true
    (.op (some 2) .mov [(.t 15)]
    .nil)))))))))
  .ret)) }

/- jacquard/trace.Reads: 266 -/
def trace_Reads : Fn := { np := 1, nt := 16, ns := 1, res := [.t 2 .b], gc := false, code :=
  (.seq (.reg 0 false (.box 1 0 (.t 0)
    (.op (some 2) .mov [(.k (.c (.bool false)))]
    .nil)))
  (.seq (.reg 1 false (.op (some 3) (.addr 2) [(.t 1)]
    (.op (some 4) (.ld (.slot 0) (.i .i64)) [(.t 3)]
    (.op (some 5) (.bin .eql) [(.t 4), (.k (.c (.int .i64 1)))]
    (.op (some 6) .mov [(.t 5)]
    (.sc 6 false (.op (some 7) (.addr 2) [(.t 1)]
    (.op (some 8) (.ld (.slot 0) (.i .i64)) [(.t 7)]
    (.op (some 9) (.bin .eql) [(.t 8), (.k (.c (.int .i64 4)))]
    .nil))) 9 10 true
    (.op (some 11) .mov [(.t 10)]
    (.sc 11 false (.op (some 12) (.addr 2) [(.t 1)]
    (.op (some 13) (.ld (.slot 0) (.i .i64)) [(.t 12)]
    (.op (some 14) (.bin .eql) [(.t 13), (.k (.c (.int .i64 5)))]
    .nil))) 14 15 true
    (.op (some 2) .mov [(.t 15)]
    .nil)))))))))
  .ret)) }


end Jq

namespace Jq
open Go


end Jq

/- What a function needs of an environment. -/
namespace Jq
open Go


end Jq

/- What a function needs of an environment. -/
namespace Jq
open Go

structure trace_Writes_In (E : Env) : Prop where
  fn : E.fn 257 = some trace_Writes

structure trace_Fences_In (E : Env) : Prop where
  fn : E.fn 265 = some trace_Fences

structure trace_Reads_In (E : Env) : Prop where
  fn : E.fn 266 = some trace_Reads

end Jq

/- What a function needs of an environment. -/
namespace Jq
open Go

structure sleep_touches_In (E : Env) : Prop where
  fn : E.fn 401 = some sleep_touches
  c257 : trace_Writes_In E
  c266 : trace_Reads_In E

structure sleep_Clash_In (E : Env) : Prop where
  fn : E.fn 390 = some sleep_Clash
  c257 : trace_Writes_In E
  c265 : trace_Fences_In E
  c401 : sleep_touches_In E

structure sleep_Covers_In (E : Env) : Prop where
  fn : E.fn 368 = some sleep_Covers

structure sleep_Initials_In (E : Env) : Prop where
  fn : E.fn 408 = some sleep_Initials
  c3 : rel_Rel_Has_In E
  c18 : set_Set_With_In E

end Jq

/- What a function needs of an environment. -/
namespace Jq
open Go

structure jacquardlaw21_awake_In (E : Env) : Prop where
  fn : E.fn 403 = some jacquardlaw21_awake
  c9 : rel_New_In E
  c368 : sleep_Covers_In E
  c390 : sleep_Clash_In E
  c408 : sleep_Initials_In E

structure jacquardlaw21_SleepSwaps_In (E : Env) : Prop where
  fn : E.fn 405 = some jacquardlaw21_SleepSwaps
  c76 : jacquardlaw6_Of_In E
  c181 : jacquardref16_VM_Enabled_In E
  c182 : jacquardref16_VM_Pick_In E
  c186 : jacquardref16_Run_In E
  c254 : jacquardlaw17_Any_In E
  c390 : sleep_Clash_In E
  c403 : jacquardlaw21_awake_In E
  c404 : jacquardref16_VM_Copy_In E

end Jq

/- The seat: where the functions that are reached lie in the given program, and that each is the given one. -/
namespace Go.Proofs.Ytkgaeiihabibmaa.LSleepSwaps
open Go Jq

def seatFn : Nat → Nat
  | 3 => 31
  | 9 => 17
  | 16 => 37
  | 17 => 38
  | 18 => 32
  | 19 => 39
  | 76 => 4
  | 81 => 21
  | 92 => 34
  | 93 => 40
  | 97 => 13
  | 101 => 12
  | 104 => 30
  | 107 => 23
  | 110 => 33
  | 111 => 22
  | 115 => 29
  | 121 => 27
  | 122 => 28
  | 123 => 35
  | 180 => 14
  | 181 => 7
  | 182 => 10
  | 186 => 6
  | 196 => 15
  | 197 => 19
  | 198 => 20
  | 254 => 5
  | 257 => 26
  | 265 => 24
  | 266 => 36
  | 368 => 18
  | 390 => 11
  | 401 => 25
  | 403 => 8
  | 404 => 9
  | 405 => 3
  | 408 => 16
  | _ => 0

def envFn : Nat → Option Jq.Fn
  | 3 => some rel_Rel_Has
  | 9 => some rel_New
  | 16 => some rel_Rel_in
  | 17 => some set_Set_Has
  | 18 => some set_Set_With
  | 19 => some set_bit
  | 76 => some jacquardlaw6_Of
  | 81 => some jacquardref6_Next
  | 92 => some jacquardref6_Value
  | 93 => some jacquardref2_Do
  | 97 => some jacquardlaw3_Small
  | 101 => some jacquardref6_Compile
  | 104 => some jacquardref6_Start
  | 107 => some jacquardref6_After
  | 110 => some jacquardref6_there
  | 111 => some jacquardref6_Event
  | 115 => some jacquardlaw3_Small_1
  | 121 => some jacquardref2_Locs
  | 122 => some jacquardref6_Place
  | 123 => some jacquardref6_normal
  | 180 => some jacquardref16_New
  | 181 => some jacquardref16_VM_Enabled
  | 182 => some jacquardref16_VM_Pick
  | 186 => some jacquardref16_Run
  | 196 => some jacquardref16_VM_May
  | 197 => some jacquardref16_VM_flush
  | 198 => some jacquardref16_VM_oldest
  | 254 => some jacquardlaw17_Any
  | 257 => some trace_Writes
  | 265 => some trace_Fences
  | 266 => some trace_Reads
  | 368 => some sleep_Covers
  | 390 => some sleep_Clash
  | 401 => some sleep_touches
  | 403 => some jacquardlaw21_awake
  | 404 => some jacquardref16_VM_Copy
  | 405 => some jacquardlaw21_SleepSwaps
  | 408 => some sleep_Initials
  | _ => none

def seatTab : Nat → List Cell := fun _ => []
noncomputable def seat : Seat := { P := Try.prog, fn := seatFn, gl := fun _ => 0, tab := seatTab }
def env : Env := { fn := envFn, tab := seatTab }

theorem mixed : true = true → seat.P.follows .mixedOrders = true := fun _ => by kernel_rfl

theorem ok_3 : FnOk seat 3 rel_Rel_Has := ⟨⟨Try.f31, _, drK seat true, Try.func31, rfl, by kernel_rfl, by kernel_rfl, by kernel_rfl, by kernel_rfl, fun _ _ h => draw_sound mixed h⟩⟩
theorem ok_9 : FnOk seat 9 rel_New := ⟨⟨Try.f17, _, drK seat true, Try.func17, rfl, by kernel_rfl, by kernel_rfl, by kernel_rfl, by kernel_rfl, fun _ _ h => draw_sound mixed h⟩⟩
theorem ok_16 : FnOk seat 16 rel_Rel_in := ⟨⟨Try.f37, _, drK seat true, Try.func37, rfl, by kernel_rfl, by kernel_rfl, by kernel_rfl, by kernel_rfl, fun _ _ h => draw_sound mixed h⟩⟩
theorem ok_17 : FnOk seat 17 set_Set_Has := ⟨⟨Try.f38, _, drK seat true, Try.func38, rfl, by kernel_rfl, by kernel_rfl, by kernel_rfl, by kernel_rfl, fun _ _ h => draw_sound mixed h⟩⟩
theorem ok_18 : FnOk seat 18 set_Set_With := ⟨⟨Try.f32, _, drK seat true, Try.func32, rfl, by kernel_rfl, by kernel_rfl, by kernel_rfl, by kernel_rfl, fun _ _ h => draw_sound mixed h⟩⟩
theorem ok_19 : FnOk seat 19 set_bit := ⟨⟨Try.f39, _, drK seat true, Try.func39, rfl, by kernel_rfl, by kernel_rfl, by kernel_rfl, by kernel_rfl, fun _ _ h => draw_sound mixed h⟩⟩
theorem ok_76 : FnOk seat 76 jacquardlaw6_Of := ⟨⟨Try.f4, _, drK seat true, Try.func4, rfl, by kernel_rfl, by kernel_rfl, by kernel_rfl, by kernel_rfl, fun _ _ h => draw_sound mixed h⟩⟩
theorem ok_81 : FnOk seat 81 jacquardref6_Next := ⟨⟨Try.f21, _, drK seat true, Try.func21, rfl, by kernel_rfl, by kernel_rfl, by kernel_rfl, by kernel_rfl, fun _ _ h => draw_sound mixed h⟩⟩
theorem ok_92 : FnOk seat 92 jacquardref6_Value := ⟨⟨Try.f34, _, drK seat true, Try.func34, rfl, by kernel_rfl, by kernel_rfl, by kernel_rfl, by kernel_rfl, fun _ _ h => draw_sound mixed h⟩⟩
theorem ok_93 : FnOk seat 93 jacquardref2_Do := ⟨⟨Try.f40, _, drK seat true, Try.func40, rfl, by kernel_rfl, by kernel_rfl, by kernel_rfl, by kernel_rfl, fun _ _ h => draw_sound mixed h⟩⟩
theorem ok_97 : FnOk seat 97 jacquardlaw3_Small := ⟨⟨Try.f13, _, drK seat true, Try.func13, rfl, by kernel_rfl, by kernel_rfl, by kernel_rfl, by kernel_rfl, fun _ _ h => draw_sound mixed h⟩⟩
theorem ok_101 : FnOk seat 101 jacquardref6_Compile := ⟨⟨Try.f12, _, drK seat true, Try.func12, rfl, by kernel_rfl, by kernel_rfl, by kernel_rfl, by kernel_rfl, fun _ _ h => draw_sound mixed h⟩⟩
theorem ok_104 : FnOk seat 104 jacquardref6_Start := ⟨⟨Try.f30, _, drK seat true, Try.func30, rfl, by kernel_rfl, by kernel_rfl, by kernel_rfl, by kernel_rfl, fun _ _ h => draw_sound mixed h⟩⟩
theorem ok_107 : FnOk seat 107 jacquardref6_After := ⟨⟨Try.f23, _, drK seat true, Try.func23, rfl, by kernel_rfl, by kernel_rfl, by kernel_rfl, by kernel_rfl, fun _ _ h => draw_sound mixed h⟩⟩
theorem ok_110 : FnOk seat 110 jacquardref6_there := ⟨⟨Try.f33, _, drK seat true, Try.func33, rfl, by kernel_rfl, by kernel_rfl, by kernel_rfl, by kernel_rfl, fun _ _ h => draw_sound mixed h⟩⟩
theorem ok_111 : FnOk seat 111 jacquardref6_Event := ⟨⟨Try.f22, _, drK seat true, Try.func22, rfl, by kernel_rfl, by kernel_rfl, by kernel_rfl, by kernel_rfl, fun _ _ h => draw_sound mixed h⟩⟩
theorem ok_115 : FnOk seat 115 jacquardlaw3_Small_1 := ⟨⟨Try.f29, _, drK seat true, Try.func29, rfl, by kernel_rfl, by kernel_rfl, by kernel_rfl, by kernel_rfl, fun _ _ h => draw_sound mixed h⟩⟩
theorem ok_121 : FnOk seat 121 jacquardref2_Locs := ⟨⟨Try.f27, _, drK seat true, Try.func27, rfl, by kernel_rfl, by kernel_rfl, by kernel_rfl, by kernel_rfl, fun _ _ h => draw_sound mixed h⟩⟩
theorem ok_122 : FnOk seat 122 jacquardref6_Place := ⟨⟨Try.f28, _, drK seat true, Try.func28, rfl, by kernel_rfl, by kernel_rfl, by kernel_rfl, by kernel_rfl, fun _ _ h => draw_sound mixed h⟩⟩
theorem ok_123 : FnOk seat 123 jacquardref6_normal := ⟨⟨Try.f35, _, drK seat true, Try.func35, rfl, by kernel_rfl, by kernel_rfl, by kernel_rfl, by kernel_rfl, fun _ _ h => draw_sound mixed h⟩⟩
theorem ok_180 : FnOk seat 180 jacquardref16_New := ⟨⟨Try.f14, _, drK seat true, Try.func14, rfl, by kernel_rfl, by kernel_rfl, by kernel_rfl, by kernel_rfl, fun _ _ h => draw_sound mixed h⟩⟩
theorem ok_181 : FnOk seat 181 jacquardref16_VM_Enabled := ⟨⟨Try.f7, _, drK seat true, Try.func7, rfl, by kernel_rfl, by kernel_rfl, by kernel_rfl, by kernel_rfl, fun _ _ h => draw_sound mixed h⟩⟩
theorem ok_182 : FnOk seat 182 jacquardref16_VM_Pick := ⟨⟨Try.f10, _, drK seat true, Try.func10, rfl, by kernel_rfl, by kernel_rfl, by kernel_rfl, by kernel_rfl, fun _ _ h => draw_sound mixed h⟩⟩
theorem ok_186 : FnOk seat 186 jacquardref16_Run := ⟨⟨Try.f6, _, drK seat true, Try.func6, rfl, by kernel_rfl, by kernel_rfl, by kernel_rfl, by kernel_rfl, fun _ _ h => draw_sound mixed h⟩⟩
theorem ok_196 : FnOk seat 196 jacquardref16_VM_May := ⟨⟨Try.f15, _, drK seat true, Try.func15, rfl, by kernel_rfl, by kernel_rfl, by kernel_rfl, by kernel_rfl, fun _ _ h => draw_sound mixed h⟩⟩
theorem ok_197 : FnOk seat 197 jacquardref16_VM_flush := ⟨⟨Try.f19, _, drK seat true, Try.func19, rfl, by kernel_rfl, by kernel_rfl, by kernel_rfl, by kernel_rfl, fun _ _ h => draw_sound mixed h⟩⟩
theorem ok_198 : FnOk seat 198 jacquardref16_VM_oldest := ⟨⟨Try.f20, _, drK seat true, Try.func20, rfl, by kernel_rfl, by kernel_rfl, by kernel_rfl, by kernel_rfl, fun _ _ h => draw_sound mixed h⟩⟩
theorem ok_254 : FnOk seat 254 jacquardlaw17_Any := ⟨⟨Try.f5, _, drK seat true, Try.func5, rfl, by kernel_rfl, by kernel_rfl, by kernel_rfl, by kernel_rfl, fun _ _ h => draw_sound mixed h⟩⟩
theorem ok_257 : FnOk seat 257 trace_Writes := ⟨⟨Try.f26, _, drK seat true, Try.func26, rfl, by kernel_rfl, by kernel_rfl, by kernel_rfl, by kernel_rfl, fun _ _ h => draw_sound mixed h⟩⟩
theorem ok_265 : FnOk seat 265 trace_Fences := ⟨⟨Try.f24, _, drK seat true, Try.func24, rfl, by kernel_rfl, by kernel_rfl, by kernel_rfl, by kernel_rfl, fun _ _ h => draw_sound mixed h⟩⟩
theorem ok_266 : FnOk seat 266 trace_Reads := ⟨⟨Try.f36, _, drK seat true, Try.func36, rfl, by kernel_rfl, by kernel_rfl, by kernel_rfl, by kernel_rfl, fun _ _ h => draw_sound mixed h⟩⟩
theorem ok_368 : FnOk seat 368 sleep_Covers := ⟨⟨Try.f18, _, drK seat true, Try.func18, rfl, by kernel_rfl, by kernel_rfl, by kernel_rfl, by kernel_rfl, fun _ _ h => draw_sound mixed h⟩⟩
theorem ok_390 : FnOk seat 390 sleep_Clash := ⟨⟨Try.f11, _, drK seat true, Try.func11, rfl, by kernel_rfl, by kernel_rfl, by kernel_rfl, by kernel_rfl, fun _ _ h => draw_sound mixed h⟩⟩
theorem ok_401 : FnOk seat 401 sleep_touches := ⟨⟨Try.f25, _, drK seat true, Try.func25, rfl, by kernel_rfl, by kernel_rfl, by kernel_rfl, by kernel_rfl, fun _ _ h => draw_sound mixed h⟩⟩
theorem ok_403 : FnOk seat 403 jacquardlaw21_awake := ⟨⟨Try.f8, _, drK seat true, Try.func8, rfl, by kernel_rfl, by kernel_rfl, by kernel_rfl, by kernel_rfl, fun _ _ h => draw_sound mixed h⟩⟩
theorem ok_404 : FnOk seat 404 jacquardref16_VM_Copy := ⟨⟨Try.f9, _, drK seat true, Try.func9, rfl, by kernel_rfl, by kernel_rfl, by kernel_rfl, by kernel_rfl, fun _ _ h => draw_sound mixed h⟩⟩
theorem ok_405 : FnOk seat 405 jacquardlaw21_SleepSwaps := ⟨⟨Try.f3, _, drK seat true, Try.func3, rfl, by kernel_rfl, by kernel_rfl, by kernel_rfl, by kernel_rfl, fun _ _ h => draw_sound mixed h⟩⟩
theorem ok_408 : FnOk seat 408 sleep_Initials := ⟨⟨Try.f16, _, drK seat true, Try.func16, rfl, by kernel_rfl, by kernel_rfl, by kernel_rfl, by kernel_rfl, fun _ _ h => draw_sound mixed h⟩⟩

theorem allOk : ∀ g fn, env.fn g = some fn → FnOk seat g fn := by
  intro g fn h
  unfold env envFn at h
  dsimp only at h
  split at h
  · cases h; exact ok_3
  · cases h; exact ok_9
  · cases h; exact ok_16
  · cases h; exact ok_17
  · cases h; exact ok_18
  · cases h; exact ok_19
  · cases h; exact ok_76
  · cases h; exact ok_81
  · cases h; exact ok_92
  · cases h; exact ok_93
  · cases h; exact ok_97
  · cases h; exact ok_101
  · cases h; exact ok_104
  · cases h; exact ok_107
  · cases h; exact ok_110
  · cases h; exact ok_111
  · cases h; exact ok_115
  · cases h; exact ok_121
  · cases h; exact ok_122
  · cases h; exact ok_123
  · cases h; exact ok_180
  · cases h; exact ok_181
  · cases h; exact ok_182
  · cases h; exact ok_186
  · cases h; exact ok_196
  · cases h; exact ok_197
  · cases h; exact ok_198
  · cases h; exact ok_254
  · cases h; exact ok_257
  · cases h; exact ok_265
  · cases h; exact ok_266
  · cases h; exact ok_368
  · cases h; exact ok_390
  · cases h; exact ok_401
  · cases h; exact ok_403
  · cases h; exact ok_404
  · cases h; exact ok_405
  · cases h; exact ok_408
  · cases h

theorem in_115 : jacquardlaw3_Small_1_In env := { fn := rfl }
theorem in_97 : jacquardlaw3_Small_In env := { fn := rfl, c115 := in_115 }
theorem in_121 : jacquardref2_Locs_In env := { fn := rfl }
theorem in_122 : jacquardref6_Place_In env := { fn := rfl }
theorem in_101 : jacquardref6_Compile_In env := { fn := rfl, c121 := in_121, c122 := in_122 }
theorem in_76 : jacquardlaw6_Of_In env := { fn := rfl, c97 := in_97, c101 := in_101 }
theorem in_110 : jacquardref6_there_In env := { fn := rfl }
theorem in_81 : jacquardref6_Next_In env := { fn := rfl, c110 := in_110 }
theorem in_197 : jacquardref16_VM_flush_In env := { fn := rfl }
theorem in_198 : jacquardref16_VM_oldest_In env := { fn := rfl }
theorem in_196 : jacquardref16_VM_May_In env := { fn := rfl, c81 := in_81, c197 := in_197, c198 := in_198 }
theorem in_181 : jacquardref16_VM_Enabled_In env := { fn := rfl, c196 := in_196 }
theorem in_92 : jacquardref6_Value_In env := { fn := rfl }
theorem in_93 : jacquardref2_Do_In env := { fn := rfl }
theorem in_123 : jacquardref6_normal_In env := { fn := rfl, c92 := in_92, c93 := in_93 }
theorem in_107 : jacquardref6_After_In env := { fn := rfl, c81 := in_81, c123 := in_123 }
theorem in_111 : jacquardref6_Event_In env := { fn := rfl, c92 := in_92 }
theorem in_182 : jacquardref16_VM_Pick_In env := { fn := rfl, c81 := in_81, c107 := in_107, c111 := in_111, c196 := in_196, c197 := in_197, c198 := in_198 }
theorem in_104 : jacquardref6_Start_In env := { fn := rfl, c110 := in_110, c123 := in_123 }
theorem in_180 : jacquardref16_New_In env := { fn := rfl, c104 := in_104 }
theorem in_186 : jacquardref16_Run_In env := { fn := rfl, c180 := in_180, c182 := in_182 }
theorem in_254 : jacquardlaw17_Any_In env := { fn := rfl, c180 := in_180, c181 := in_181, c182 := in_182 }
theorem in_257 : trace_Writes_In env := { fn := rfl }
theorem in_265 : trace_Fences_In env := { fn := rfl }
theorem in_266 : trace_Reads_In env := { fn := rfl }
theorem in_401 : sleep_touches_In env := { fn := rfl, c257 := in_257, c266 := in_266 }
theorem in_390 : sleep_Clash_In env := { fn := rfl, c257 := in_257, c265 := in_265, c401 := in_401 }
theorem in_9 : rel_New_In env := { fn := rfl }
theorem in_368 : sleep_Covers_In env := { fn := rfl }
theorem in_16 : rel_Rel_in_In env := { fn := rfl }
theorem in_19 : set_bit_In env := { fn := rfl }
theorem in_17 : set_Set_Has_In env := { fn := rfl, c19 := in_19 }
theorem in_3 : rel_Rel_Has_In env := { fn := rfl, c16 := in_16, c17 := in_17 }
theorem in_18 : set_Set_With_In env := { fn := rfl, c19 := in_19 }
theorem in_408 : sleep_Initials_In env := { fn := rfl, c3 := in_3, c18 := in_18 }
theorem in_403 : jacquardlaw21_awake_In env := { fn := rfl, c9 := in_9, c368 := in_368, c390 := in_390, c408 := in_408 }
theorem in_404 : jacquardref16_VM_Copy_In env := { fn := rfl }
theorem in_405 : jacquardlaw21_SleepSwaps_In env := { fn := rfl, c76 := in_76, c181 := in_181, c182 := in_182, c186 := in_186, c254 := in_254, c390 := in_390, c403 := in_403, c404 := in_404 }

end Go.Proofs.Ytkgaeiihabibmaa.LSleepSwaps

namespace Jq
open Go

/- (jacquard/set.Set).Has: 17 -/
set_option maxRecDepth 100000 in
theorem set_Set_Has_eq (C : CallF) (L : LoopF) (G : Glo) (a0 : Int) (a1 : Int) (h0 : AHeap) :
    set_Set_Has.body C L G [(.c (.int .u64 a0)), (.c (.int .i64 a1))] h0 =
    c1 (C 19 [(.c (.int .i64 a1))] h0) fun y_2 h_1 => asI .u64 y_2 fun n_3 => some ([(.c (.bool ((G.band .u64 a0 n_3) != 0)))], h_1) := by kernel_rfl

/- (jacquard/set.Set).With: 18 -/
set_option maxRecDepth 100000 in
theorem set_Set_With_eq (C : CallF) (L : LoopF) (G : Glo) (a0 : Int) (a1 : Int) (h0 : AHeap) :
    set_Set_With.body C L G [(.c (.int .u64 a0)), (.c (.int .i64 a1))] h0 =
    c1 (C 19 [(.c (.int .i64 a1))] h0) fun y_2 h_1 => asI .u64 y_2 fun n_3 => some ([(.c (.int .u64 (G.bor .u64 a0 n_3)))], h_1) := by kernel_rfl

/- jacquard/set.bit: 19 -/
set_option maxRecDepth 100000 in
theorem set_bit_eq (C : CallF) (L : LoopF) (G : Glo) (a0 : Int) (h0 : AHeap) :
    set_bit.body C L G [(.c (.int .i64 a0))] h0 =
    scK (decide (a0 < 0)) false (some ((decide (a0 ≥ 64)), h0)) true h0 fun b_1 h_2 => if b_1 = true then some ([(.c (.int .u64 0))], h_2) else if (G.wrap .u64 a0) < 0 then none else some ([(.c (.int .u64 (G.shl .u64 1 (G.wrap .u64 a0))))], h_2) := by kernel_rfl


end Jq

/- Few numbers in one word: what the package's functions come to. -/
namespace Jq
open Go

/-- A number's bit. -/
def bitI (i : Int) : Nat := if 0 ≤ i ∧ i < 64 then 2 ^ i.toNat else 0

theorem bitI_lt (i : Int) : bitI i < 2 ^ 64 := by
  unfold bitI; split
  · exact Nat.pow_lt_pow_right (by omega) (by omega)
  · omega

/-- Whether a number is in it. -/
def hasI (s : Nat) (i : Int) : Bool := decide (0 ≤ i) && s.testBit i.toNat && decide (i < 64)

theorem and_bitI {s : Nat} (i : Int) : ((s &&& bitI i) != 0) = hasI s i := by
  unfold hasI bitI
  by_cases h : 0 ≤ i ∧ i < 64
  · rw [if_pos h]
    simp only [h.1, h.2, decide_true, Bool.true_and, Bool.and_true]
    cases hb : s.testBit i.toNat with
    | true =>
      simp only [bne_iff_ne, ne_eq]
      intro h0
      have := congrArg (fun x => x.testBit i.toNat) h0
      simp [Nat.testBit_and, hb, Nat.testBit_two_pow] at this
    | false =>
      have : s &&& 2 ^ i.toNat = 0 := by
        refine Nat.eq_of_testBit_eq fun j => ?_
        rw [Nat.testBit_and, Nat.testBit_two_pow, Nat.zero_testBit]
        by_cases hj : i.toNat = j
        · subst hj; simp [hb]
        · simp [hj]
      simp [this]
  · rw [if_neg h]
    have : ¬ (0 ≤ i) ∨ ¬ (i < 64) := by omega
    rcases this with h | h <;> simp [h]

theorem hasI_nat {s i : Nat} (hi : i < 64) : hasI s (i : Int) = s.testBit i := by
  unfold hasI; simp; omega

variable {E : Env}

theorem bit_R (hE : set_bit_In E) (i : Int) (h : AHeap) : R E 19 [.c (.int .i64 i)] h = some ([.c (.int .u64 (bitI i))], h) := by
  refine R_intro hE.fn ?_
  rw [set_bit_eq, scK_or]
  unfold bitI
  by_cases hi : 0 ≤ i ∧ i < 64
  · have h1 : (decide (i < 0) || decide (i ≥ 64)) = false := by simp; omega
    rw [h1, if_pos hi]
    obtain ⟨n, rfl⟩ := Int.eq_ofNat_of_zero_le hi.1
    have hw : E.glob.wrap .u64 (n : Int) = n := wrap_u64n (by omega)
    rw [hw]
    simp only [Bool.false_eq_true, if_false]
    rw [if_neg (by omega), show E.glob.shl .u64 1 (n : Int) = _ from std_shl_one (by omega)]
    simp
  · have h1 : (decide (i < 0) || decide (i ≥ 64)) = true := by simp; omega
    rw [h1, if_neg hi]; simp

theorem Has_R (hE : set_Set_Has_In E) {s : Nat} (hs : s < 2 ^ 64) (i : Int) (h : AHeap) : R E 17 [.c (.int .u64 s), .c (.int .i64 i)] h = some ([.c (.bool (hasI s i))], h) := by
  refine R_intro hE.fn ?_
  rw [set_Set_Has_eq, bit_R hE.c19, c1_ok, asI_ok, show E.glob.band .u64 (s : Int) _ = _ from std_band hs (bitI_lt i), ← and_bitI]
  have : (((s &&& bitI i : Nat) : Int) != 0) = (s &&& bitI i != 0) := by rw [Bool.eq_iff_iff]; simp
  rw [this]

theorem With_R (hE : set_Set_With_In E) {s : Nat} (hs : s < 2 ^ 64) (i : Int) (h : AHeap) : R E 18 [.c (.int .u64 s), .c (.int .i64 i)] h = some ([.c (.int .u64 ((s ||| bitI i : Nat) : Int))], h) := by
  refine R_intro hE.fn ?_
  rw [set_Set_With_eq, bit_R hE.c19, c1_ok, asI_ok, show E.glob.bor .u64 (s : Int) _ = _ from std_bor hs (bitI_lt i)]

end Jq

namespace Jq
open Go

/- (jacquard/rel.Rel).Has: 3 -/
set_option maxRecDepth 100000 in
theorem rel_Rel_Has_eq (C : CallF) (L : LoopF) (G : Glo) (l0 : List Cell) (a1 : Int) (a2 : Int) (h0 : AHeap) :
    rel_Rel_Has.body C L G [(.agg l0), (.c (.int .i64 a1)), (.c (.int .i64 a2))] h0 =
    if 0 = 0 ∧ l0.length = 65 then c1 (C 16 [(.agg l0), (.c (.int .i64 a1))] h0) fun y_2 h_1 => asB y_2 fun b_3 => scK b_3 true (if 0 ≤ a1 ∧ a1 < ((64 : Nat) : Int) then atK l0 (1 + ((Int.toNat a1) * 1)) fun q_4 => asI .u64 (.c q_4) fun n_5 => c1 (C 17 [(.c (.int .u64 n_5)), (.c (.int .i64 a2))] h_1) fun y_7 h_6 => asB y_7 fun b_8 => some (b_8, h_6) else none) false h_1 fun b_9 h_10 => some ([(.c (.bool b_9))], h_10) else none := by kernel_rfl

/- jacquard/rel.New: 9 -/
set_option maxRecDepth 100000 in
theorem rel_New_eq (C : CallF) (L : LoopF) (G : Glo) (a0 : Int) (h0 : AHeap) :
    rel_New.body C L G [(.c (.int .i64 a0))] h0 =
    let v_1 : Int := (if 64 < (if 0 > a0 then 0 else a0) then 64 else (if 0 > a0 then 0 else a0)); if 0 = 0 ∧ ([Cell.int .i64 0] ++ List.replicate 64 (Cell.int .u64 0)).length = 65 ∧ (splice ([Cell.int .i64 0] ++ List.replicate 64 (Cell.int .u64 0)) 0 ([(.int .i64 v_1)] : List Cell)).length = 65 then if 0 = 0 ∧ (splice ([Cell.int .i64 0] ++ List.replicate 64 (Cell.int .u64 0)) 0 ([(.int .i64 v_1)] : List Cell)).length = 65 then some ([(.agg (splice ([Cell.int .i64 0] ++ List.replicate 64 (Cell.int .u64 0)) 0 ([(.int .i64 v_1)] : List Cell)))], h0) else none else none := by kernel_rfl

/- (jacquard/rel.Rel).in: 16 -/
set_option maxRecDepth 100000 in
theorem rel_Rel_in_eq (C : CallF) (L : LoopF) (G : Glo) (l0 : List Cell) (a1 : Int) (h0 : AHeap) :
    rel_Rel_in.body C L G [(.agg l0), (.c (.int .i64 a1))] h0 =
    scK (decide (a1 ≥ 0)) true (atK l0 0 fun q_1 => asI .i64 (.c q_1) fun n_2 => some ((decide (a1 < n_2)), h0)) false h0 fun b_3 h_4 => some ([(.c (.bool b_3))], h_4) := by kernel_rfl


end Jq

/- Relations: what the package's functions come to. -/
namespace Jq
open Go

/-- A relation's cells: over how many, the rows. -/
def relL (n : Nat) (f : Nat → Nat) : List Cell := .int .i64 n :: (List.range 64).map fun i => .int .u64 (f i)

theorem relL_len (n : Nat) (f : Nat → Nat) : (relL n f).length = 65 := by simp [relL]
theorem relL_zero (n : Nat) (f : Nat → Nat) : (relL n f)[0]? = some (.int .i64 n) := rfl
theorem relL_row {n : Nat} {f : Nat → Nat} {i : Nat} (hi : i < 64) : (relL n f)[1 + i]? = some (.int .u64 (f i)) := by
  rw [relL, Nat.add_comm, List.getElem?_cons_succ, List.getElem?_map, List.getElem?_range hi]; rfl

def updF (f : Nat → Nat) (i v : Nat) : Nat → Nat := fun j => if j = i then v else f j

def zeroL : List Cell := [Cell.int .i64 0] ++ List.replicate 64 (Cell.int .u64 0)
theorem zero_rel : ([Cell.int .i64 0] ++ List.replicate 64 (Cell.int .u64 0)) = relL 0 fun _ => 0 := by
  rw [relL, List.singleton_append]; congr 1
theorem splice_zero {n m : Nat} {f : Nat → Nat} : splice (relL m f) 0 [.int .i64 n] = relL n f := by
  simp [splice, relL]

/-- All rows are words. -/
def Words (f : Nat → Nat) : Prop := ∀ i, f i < 2 ^ 64

theorem words_zero : Words fun _ => 0 := fun _ => by simp
/-- Numbers, brought between nought and 64. -/
def clamp (a : Int) : Nat := min a.toNat 64

variable {E : Env}

theorem New_R (hE : rel_New_In E) (a : Int) (h : AHeap) : R E 9 [.c (.int .i64 a)] h = some ([.agg (relL (clamp a) fun _ => 0)], h) := by
  refine R_intro hE.fn ?_
  rw [rel_New_eq]
  have hv : (if 64 < (if 0 > a then 0 else a) then 64 else (if 0 > a then 0 else a)) = ((clamp a : Nat) : Int) := by
    unfold clamp; split <;> split <;> omega
  simp only [hv, zero_rel, splice_zero, relL_len, and_self, if_true]

def inR (n : Nat) (a : Int) : Bool := decide (0 ≤ a) && decide (a < n)

theorem in_R (hE : rel_Rel_in_In E) (n : Nat) (f : Nat → Nat) (a : Int) (h : AHeap) : R E 16 [.agg (relL n f), .c (.int .i64 a)] h = some ([.c (.bool (inR n a))], h) := by
  refine R_intro hE.fn ?_
  rw [rel_Rel_in_eq, atK_ok (relL_zero n f), asI_ok, scK_and]
  rfl

/-- Whether a leads to b. -/
def hasR (n : Nat) (f : Nat → Nat) (a b : Int) : Bool := inR n a && hasI (f a.toNat) b

theorem HasR_R (hE : rel_Rel_Has_In E) {n : Nat} (hn : n ≤ 64) {f : Nat → Nat} (hf : Words f) (a b : Int) (h : AHeap) : R E 3 [.agg (relL n f), .c (.int .i64 a), .c (.int .i64 b)] h = some ([.c (.bool (hasR n f a b))], h) := by
  refine R_intro hE.fn ?_
  rw [rel_Rel_Has_eq, if_pos ⟨rfl, relL_len n f⟩, in_R hE.c16, c1_ok, asB_ok]
  unfold hasR
  by_cases hi : inR n a = true
  · have h2 : 0 ≤ a ∧ a < n := by simpa [inR] using hi
    have h3 : a.toNat < 64 := by omega
    rw [hi, scK_ok, if_pos ⟨h2.1, by omega⟩, Nat.mul_one, atK_ok (relL_row h3), asI_ok, Has_R hE.c17 (hf _), c1_ok, asB_ok, bind_ok, Bool.true_and]
  · have hi' : inR n a = false := by simpa using hi
    rw [hi', scK_ft, Bool.false_and]

/-- A relation with a pair. -/
def addR (n : Nat) (f : Nat → Nat) (a b : Int) : Nat → Nat := if inR n a && inR n b then updF f a.toNat (f a.toNat ||| bitI b) else f

/- Closing. -/

/-- One of a round: from i by k. -/
def clS (f : Nat → Nat) (k i : Nat) : Nat → Nat := if (f i).testBit k then updF f i (f i ||| f k) else f

def cl1 (k : Nat) : Nat → (Nat → Nat) → Nat → Nat
  | 0, f => f
  | i + 1, f => clS (cl1 k i f) k i

/-- The first k rounds. -/
def clK (n : Nat) (f : Nat → Nat) : Nat → Nat → Nat
  | 0 => f
  | k + 1 => cl1 k n (clK n f k)

/-- Whether none leads to itself. -/
def acycR (n : Nat) (f : Nat → Nat) : Bool := !(List.range n).any fun i => (clK n f n i).testBit i

end Jq

/- Relations: what closing is. -/
namespace Jq

/-- A way from one to another whose stops in between are below k. -/
inductive Way (f : Nat → Nat) (k : Nat) : Nat → Nat → Prop
  | one {a b : Nat} : (f a).testBit b = true → Way f k a b
  | step {a c b : Nat} : (f a).testBit c = true → c < k → Way f k c b → Way f k a b

theorem Way.mono {f : Nat → Nat} {k m : Nat} (hkm : k ≤ m) {a b : Nat} (w : Way f k a b) : Way f m a b := by
  induction w with
  | one h => exact .one h
  | step h hc _ ih => exact .step h (by omega) ih

theorem Way.trans {f : Nat → Nat} {k a c b : Nat} (w : Way f k a c) (hc : c < k) (v : Way f k c b) : Way f k a b := by
  induction w with
  | one h => exact .step h hc v
  | step h hc' _ ih => exact .step h hc' (ih hc v)

theorem Way.succ {f : Nat → Nat} {k a b : Nat} : Way f (k + 1) a b ↔ Way f k a b ∨ (Way f k a k ∧ Way f k k b) := by
  constructor
  · intro w
    induction w with
    | one h => exact .inl (.one h)
    | step h hc _ ih =>
      rcases Nat.lt_or_ge _ k with hk | hk
      · rcases ih with ih | ⟨i1, i2⟩
        · exact .inl (.step h hk ih)
        · exact .inr ⟨.step h hk i1, i2⟩
      · have : _ = k := Nat.le_antisymm (Nat.lt_succ_iff.1 hc) hk
        subst this
        rcases ih with ih | ⟨_, i2⟩
        · exact .inr ⟨.one h, ih⟩
        · exact .inr ⟨.one h, i2⟩
  · rintro (w | ⟨w1, w2⟩)
    · exact w.mono (by omega)
    · exact (w1.mono (by omega)).trans (Nat.lt_succ_self k) (w2.mono (by omega))

end Jq

namespace Jq
open Go


end Jq

namespace Jq
open Go

/- jacquard/jacquardref6.Next: 81 -/
set_option maxRecDepth 100000 in
theorem jacquardref6_Next_eq (C : CallF) (L : LoopF) (G : Glo) (l0 : List Cell) (a1 : Int) (l2 : List Cell) (h0 : AHeap) :
    jacquardref6_Next.body C L G [(.agg l0), (.c (.int .i64 a1)), (.agg l2)] h0 =
    if 0 = 0 ∧ l0.length = 3 then c1 (qh h0 (C 110 [(.agg l0), (.c (.int .i64 a1))] h0)) fun y_2 h_1 => asB y_2 fun b_3 => scK (!b_3) false (atK l2 0 fun q_4 => asI .i64 (.c q_4) fun n_5 => some ((decide (n_5 < 0)), h0)) true h0 fun b_6 h_7 => scK b_6 false (atK l2 0 fun q_8 => asI .i64 (.c q_8) fun n_9 => atK l0 2 fun q_10 => idxSK 1 q_10 a1 fun k_11 N_12 o_13 => rdH h_7 k_11 N_12 fun l_14 => atK l_14 o_13 fun q_15 => lenK q_15 fun n_16 => some ((decide (n_9 ≥ n_16)), h_7)) true h_7 fun b_17 h_18 => if b_17 = true then if 0 = 0 ∧ (List.replicate 9 (Cell.int .i64 0)).length = 9 ∧ (List.replicate 9 (Cell.int .i64 0)).length = 9 then if 0 = 0 ∧ (List.replicate 9 (Cell.int .i64 0)).length = 9 then some ([(.agg (List.replicate 9 (Cell.int .i64 0))), (.c (.bool false))], h_18) else none else none else atK l0 2 fun q_19 => idxSK 1 q_19 a1 fun k_20 N_21 o_22 => rdH h_18 k_20 N_21 fun l_23 => atK l_23 o_22 fun q_24 => atK l2 0 fun q_25 => asI .i64 (.c q_25) fun n_26 => idxSK 9 q_24 n_26 fun k_27 N_28 o_29 => rdH h_18 k_27 N_28 fun l_30 => if o_29 + 9 ≤ l_30.length then if 0 = 0 ∧ (List.replicate 9 (Cell.int .i64 0)).length = 9 ∧ ((l_30.drop o_29).take 9).length = 9 then atK ((l_30.drop o_29).take 9) 0 fun q_31 => asI .i64 (.c q_31) fun n_32 => scK (n_32 == 5) false (atK ((l_30.drop o_29).take 9) 0 fun q_33 => asI .i64 (.c q_33) fun n_34 => some ((n_34 == 6), h_18)) true h_18 fun b_35 h_36 => if b_35 = true then if 0 = 0 ∧ (List.replicate 9 (Cell.int .i64 0)).length = 9 ∧ (List.replicate 9 (Cell.int .i64 0)).length = 9 then if 0 = 0 ∧ (List.replicate 9 (Cell.int .i64 0)).length = 9 then some ([(.agg (List.replicate 9 (Cell.int .i64 0))), (.c (.bool false))], h_36) else none else none else if 0 = 0 ∧ ((l_30.drop o_29).take 9).length = 9 then if 0 = 0 ∧ (List.replicate 9 (Cell.int .i64 0)).length = 9 ∧ ((l_30.drop o_29).take 9).length = 9 then if 0 = 0 ∧ ((l_30.drop o_29).take 9).length = 9 then some ([(.agg ((l_30.drop o_29).take 9)), (.c (.bool true))], h_36) else none else none else none else none else none else none := by kernel_rfl

/- jacquard/jacquardref6.Value: 92 -/
set_option maxRecDepth 100000 in
theorem jacquardref6_Value_eq (C : CallF) (L : LoopF) (G : Glo) (l0 : List Cell) (l1 : List Cell) (h0 : AHeap) :
    jacquardref6_Value.body C L G [(.agg l0), (.agg l1)] h0 =
    atK l0 0 fun q_1 => asI .i64 (.c q_1) fun n_2 => scK (decide (n_2 ≥ 0)) true (atK l0 0 fun q_3 => asI .i64 (.c q_3) fun n_4 => some ((decide (n_4 ≤ 3)), h0)) false h0 fun b_5 h_6 => if b_5 = true then atK l0 0 fun q_7 => asI .i64 (.c q_7) fun n_8 => if 0 ≤ n_8 ∧ n_8 < ((4 : Nat) : Int) then atK l1 (1 + ((Int.toNat n_8) * 1)) fun q_9 => asI .i64 (.c q_9) fun n_10 => some ([(.c (.int .i64 n_10))], h_6) else none else atK l0 1 fun q_11 => asI .i64 (.c q_11) fun n_12 => some ([(.c (.int .i64 n_12))], h_6) := by kernel_rfl

/- jacquard/jacquardref6.Compile: 101 -/
def jacquardref6_Compile_k2 (C : CallF) (L : LoopF) (G : Glo) (h0 : AHeap) : Ex → St → Option (List AV × AHeap) :=
  kSeq (fun st => jacquardref6_Compile_p1.exec C L G st (jacquardref6_Compile.fin G h0)) (jacquardref6_Compile.fin G h0)
def jacquardref6_Compile_k3 (C : CallF) (L : LoopF) (G : Glo) (h0 : AHeap) : Ex → St → Option (List AV × AHeap) :=
  kBlk 0 (jacquardref6_Compile_k2 C L G h0)
def jacquardref6_Compile_s2 (a4 : Int) (s0 : List Cell) (s1 : List Cell) (s2 : List Cell) (h : AHeap) : St := ⟨[.top, .loc 0 0, .loc 1 0, .loc 2 0, .v (.c (.int .i64 a4)), .top, .top, .top, .top, .top, .top, .top, .top, .top, .top, .top, .top, .top, .top, .top, .top, .top, .top, .top, .top, .top, .top, .top, .top, .top, .top, .top, .top, .top, .top, .top, .top, .top, .top, .top, .top, .top, .top, .top, .top, .top, .top, .top, .top, .top, .top, .top, .top, .top, .top, .top, .top, .top, .top, .top, .top, .top, .top, .top, .top, .top, .top, .top, .top, .top, .top, .top, .top, .top, .top, .top, .top, .top, .top, .top, .top, .top, .top, .top, .top, .top, .top, .top, .top, .top, .top, .top, .top, .top, .top, .top, .top], [some s0, some s1, some s2, none], h⟩
def jacquardref6_Compile_F2 (C : CallF) (L : LoopF) (G : Glo) : St → Option (Ex × St) :=
  roundF (fun st f => jacquardref6_Compile_b2.exec C L G st f) [1, 2, 3, 4] [0, 1, 2] [(1, [1, 2, 3], [0, 1, 2])]
def jacquardref6_Compile_k4 (C : CallF) (L : LoopF) (G : Glo) : Ex → St → Option (Ex × St) :=
  kSeq (fun st => jacquardref6_Compile_p2.exec C L G st (kLoop [1, 2, 3, 4] [0, 1, 2] [(1, [1, 2, 3], [0, 1, 2])])) (kLoop [1, 2, 3, 4] [0, 1, 2] [(1, [1, 2, 3], [0, 1, 2])])
def jacquardref6_Compile_k5 (C : CallF) (L : LoopF) (G : Glo) : Ex → St → Option (Ex × St) :=
  kBlk 1 (jacquardref6_Compile_k4 C L G)
def jacquardref6_Compile_k6 (C : CallF) (L : LoopF) (G : Glo) : Ex → St → Option (Ex × St) :=
  kSeq (fun st => jacquardref6_Compile_p3.exec C L G st (jacquardref6_Compile_k5 C L G)) (jacquardref6_Compile_k5 C L G)
def jacquardref6_Compile_k7 (C : CallF) (L : LoopF) (G : Glo) : Ex → St → Option (Ex × St) :=
  kBlk 2 (jacquardref6_Compile_k6 C L G)
def jacquardref6_Compile_s1 (a4 : Int) (a5 : Int) (a6 : Int) (s0 : List Cell) (s1 : List Cell) (s2 : List Cell) (h : AHeap) : St := ⟨[.top, .loc 0 0, .loc 1 0, .loc 2 0, .v (.c (.int .i64 a4)), .v (.c (.int .i64 a5)), .v (.c (.int .i64 a6)), .top, .top, .top, .top, .top, .top, .top, .top, .top, .top, .top, .top, .top, .top, .top, .top, .top, .top, .top, .top, .top, .top, .top, .top, .top, .top, .top, .top, .top, .top, .top, .top, .top, .top, .top, .top, .top, .top, .top, .top, .top, .top, .top, .top, .top, .top, .top, .top, .top, .top, .top, .top, .top, .top, .top, .top, .top, .top, .top, .top, .top, .top, .top, .top, .top, .top, .top, .top, .top, .top, .top, .top, .top, .top, .top, .top, .top, .top, .top, .top, .top, .top, .top, .top, .top, .top, .top, .top, .top, .top], [some s0, some s1, some s2, none], h⟩
def jacquardref6_Compile_F1 (C : CallF) (L : LoopF) (G : Glo) : St → Option (Ex × St) :=
  roundF (fun st f => jacquardref6_Compile_b1.exec C L G st f) [1, 2, 3, 4, 5, 6] [0, 1, 2] [(3, [1, 2, 3, 4, 5], [0, 1, 2])]
def jacquardref6_Compile_x1_3 (a4 : Int) (a5 : Int) (s0 : List Cell) (s1 : List Cell) (s2 : List Cell) (h : AHeap) : St := ⟨[.top, .loc 0 0, .loc 1 0, .loc 2 0, .v (.c (.int .i64 a4)), .v (.c (.int .i64 a5)), .top, .top, .top, .top, .top, .top, .top, .top, .top, .top, .top, .top, .top, .top, .top, .top, .top, .top, .top, .top, .top, .top, .top, .top, .top, .top, .top, .top, .top, .top, .top, .top, .top, .top, .top, .top, .top, .top, .top, .top, .top, .top, .top, .top, .top, .top, .top, .top, .top, .top, .top, .top, .top, .top, .top, .top, .top, .top, .top, .top, .top, .top, .top, .top, .top, .top, .top, .top, .top, .top, .top, .top, .top, .top, .top, .top, .top, .top, .top, .top, .top, .top, .top, .top, .top, .top, .top, .top, .top, .top, .top], [some s0, some s1, some s2, none], h⟩
def jacquardref6_Compile_x2_1 (s0 : List Cell) (s1 : List Cell) (s2 : List Cell) (h : AHeap) : St := ⟨[.top, .loc 0 0, .loc 1 0, .loc 2 0, .top, .top, .top, .top, .top, .top, .top, .top, .top, .top, .top, .top, .top, .top, .top, .top, .top, .top, .top, .top, .top, .top, .top, .top, .top, .top, .top, .top, .top, .top, .top, .top, .top, .top, .top, .top, .top, .top, .top, .top, .top, .top, .top, .top, .top, .top, .top, .top, .top, .top, .top, .top, .top, .top, .top, .top, .top, .top, .top, .top, .top, .top, .top, .top, .top, .top, .top, .top, .top, .top, .top, .top, .top, .top, .top, .top, .top, .top, .top, .top, .top, .top, .top, .top, .top, .top, .top, .top, .top, .top, .top, .top, .top], [some s0, some s1, some s2, none], h⟩
def jacquardref6_Compile_k8 (C : CallF) (L : LoopF) (G : Glo) (h0 : AHeap) : Ex → St → Option (List AV × AHeap) :=
  kSeq (fun st => jacquardref6_Compile_p4.exec C L G st (jacquardref6_Compile.fin G h0)) (jacquardref6_Compile.fin G h0)
def jacquardref6_Compile_k9 (C : CallF) (L : LoopF) (G : Glo) (h0 : AHeap) : Ex → St → Option (List AV × AHeap) :=
  kBlk 4 (jacquardref6_Compile_k8 C L G h0)
def jacquardref6_Compile_s4 (a7 : Int) (s0 : List Cell) (s1 : List Cell) (s2 : List Cell) (h : AHeap) : St := ⟨[.top, .loc 0 0, .loc 1 0, .loc 2 0, .top, .top, .top, .v (.c (.int .i64 a7)), .top, .top, .top, .top, .top, .top, .top, .top, .top, .top, .top, .top, .top, .top, .top, .top, .top, .top, .top, .top, .top, .top, .top, .top, .top, .top, .top, .top, .top, .top, .top, .top, .top, .top, .top, .top, .top, .top, .top, .top, .top, .top, .top, .top, .top, .top, .top, .top, .top, .top, .top, .top, .top, .top, .top, .top, .top, .top, .top, .top, .top, .top, .top, .top, .top, .top, .top, .top, .top, .top, .top, .top, .top, .top, .top, .top, .top, .top, .top, .top, .top, .top, .top, .top, .top, .top, .top, .top, .top], [some s0, some s1, some s2, none], h⟩
def jacquardref6_Compile_F4 (C : CallF) (L : LoopF) (G : Glo) : St → Option (Ex × St) :=
  roundF (fun st f => jacquardref6_Compile_b4.exec C L G st f) [1, 2, 3, 7] [0, 1, 2] [(5, [2, 3], [1, 2])]
def jacquardref6_Compile_k10 (C : CallF) (L : LoopF) (G : Glo) : Ex → St → Option (Ex × St) :=
  kSeq (fun st => jacquardref6_Compile_p5.exec C L G st (kLoop [1, 2, 3, 7] [0, 1, 2] [(5, [2, 3], [1, 2])])) (kLoop [1, 2, 3, 7] [0, 1, 2] [(5, [2, 3], [1, 2])])
def jacquardref6_Compile_k11 (C : CallF) (L : LoopF) (G : Glo) : Ex → St → Option (Ex × St) :=
  kBlk 5 (jacquardref6_Compile_k10 C L G)
def jacquardref6_Compile_k12 (C : CallF) (L : LoopF) (G : Glo) : Ex → St → Option (Ex × St) :=
  kSeq (fun st => jacquardref6_Compile_p6.exec C L G st (jacquardref6_Compile_k11 C L G)) (jacquardref6_Compile_k11 C L G)
def jacquardref6_Compile_k13 (C : CallF) (L : LoopF) (G : Glo) : Ex → St → Option (Ex × St) :=
  kBlk 6 (jacquardref6_Compile_k12 C L G)
def jacquardref6_Compile_s3 (a7 : Int) (x8 : Cell) (a9 : Int) (s0 : List Cell) (s1 : List Cell) (s2 : List Cell) (h : AHeap) : St := ⟨[.top, .loc 0 0, .loc 1 0, .loc 2 0, .top, .top, .top, .v (.c (.int .i64 a7)), .v (.c x8), .v (.c (.int .i64 a9)), .top, .top, .top, .top, .top, .top, .top, .top, .top, .top, .top, .top, .top, .top, .top, .top, .top, .top, .top, .top, .top, .top, .top, .top, .top, .top, .top, .top, .top, .top, .top, .top, .top, .top, .top, .top, .top, .top, .top, .top, .top, .top, .top, .top, .top, .top, .top, .top, .top, .top, .top, .top, .top, .top, .top, .top, .top, .top, .top, .top, .top, .top, .top, .top, .top, .top, .top, .top, .top, .top, .top, .top, .top, .top, .top, .top, .top, .top, .top, .top, .top, .top, .top, .top, .top, .top, .top], [some s0, some s1, some s2, none], h⟩
def jacquardref6_Compile_F3 (C : CallF) (L : LoopF) (G : Glo) : St → Option (Ex × St) :=
  roundF (fun st f => jacquardref6_Compile_b3.exec C L G st f) [1, 2, 3, 7, 8, 9] [0, 1, 2] [(7, [1, 2, 3, 7, 8], [0, 1, 2])]
def jacquardref6_Compile_x3_7 (a7 : Int) (x8 : Cell) (s0 : List Cell) (s1 : List Cell) (s2 : List Cell) (h : AHeap) : St := ⟨[.top, .loc 0 0, .loc 1 0, .loc 2 0, .top, .top, .top, .v (.c (.int .i64 a7)), .v (.c x8), .top, .top, .top, .top, .top, .top, .top, .top, .top, .top, .top, .top, .top, .top, .top, .top, .top, .top, .top, .top, .top, .top, .top, .top, .top, .top, .top, .top, .top, .top, .top, .top, .top, .top, .top, .top, .top, .top, .top, .top, .top, .top, .top, .top, .top, .top, .top, .top, .top, .top, .top, .top, .top, .top, .top, .top, .top, .top, .top, .top, .top, .top, .top, .top, .top, .top, .top, .top, .top, .top, .top, .top, .top, .top, .top, .top, .top, .top, .top, .top, .top, .top, .top, .top, .top, .top, .top, .top], [some s0, some s1, some s2, none], h⟩
def jacquardref6_Compile_x4_5 (s1 : List Cell) (s2 : List Cell) (h : AHeap) : St := ⟨[.top, .top, .loc 1 0, .loc 2 0, .top, .top, .top, .top, .top, .top, .top, .top, .top, .top, .top, .top, .top, .top, .top, .top, .top, .top, .top, .top, .top, .top, .top, .top, .top, .top, .top, .top, .top, .top, .top, .top, .top, .top, .top, .top, .top, .top, .top, .top, .top, .top, .top, .top, .top, .top, .top, .top, .top, .top, .top, .top, .top, .top, .top, .top, .top, .top, .top, .top, .top, .top, .top, .top, .top, .top, .top, .top, .top, .top, .top, .top, .top, .top, .top, .top, .top, .top, .top, .top, .top, .top, .top, .top, .top, .top, .top, .top, .top, .top, .top, .top, .top], [none, some s1, some s2, none], h⟩
theorem jacquardref6_Compile_r1 (C : CallF) (L : LoopF) (G : Glo) (a4 : Int) (a5 : Int) (a6 : Int) (s0 : List Cell) (s1 : List Cell) (s2 : List Cell) (h : AHeap) :
    jacquardref6_Compile_F1 C L G (jacquardref6_Compile_s1 a4 a5 a6 s0 s1 s2 h) =
    atK s0 1 fun q_6 => lenK q_6 fun n_7 => if (decide (a6 < n_7)) = true then atK s0 1 fun q_8 => idxSK 2 q_8 a6 fun k_9 N_10 o_11 => rdH h k_9 N_10 fun l_12 => atK l_12 (o_11 + 0) fun q_13 => asI .i64 (.c q_13) fun n_14 => atK s2 0 fun q_15 => idxSK 1 q_15 a4 fun k_16 N_17 o_18 => rdH h k_16 N_17 fun l_19 => atK l_19 o_18 fun q_20 => asI .u8 (.c q_20) fun n_21 => if (n_14 == (G.wrap .i64 n_21)) = true then atK s0 1 fun q_22 => idxSK 2 q_22 a6 fun k_23 N_24 o_25 => rdH h k_23 N_24 fun l_26 => atK l_26 (o_25 + 1) fun q_27 => asI .i64 (.c q_27) fun n_28 => some (.normal, (jacquardref6_Compile_s1 a4 n_28 (G.wrap .i64 (a6 + 1)) s0 s1 s2 h)) else some (.normal, (jacquardref6_Compile_s1 a4 a5 (G.wrap .i64 (a6 + 1)) s0 s1 s2 h)) else some ((.exit 2), (jacquardref6_Compile_x1_3 a4 a5 s0 s1 s2 h)) := by kernel_rfl
theorem jacquardref6_Compile_e1_3 (C : CallF) (L : LoopF) (G : Glo) (a4 : Int) (a5 : Int) (s0 : List Cell) (s1 : List Cell) (s2 : List Cell) (h : AHeap) :
    (jacquardref6_Compile_k7 C L G) (.exit 2) (jacquardref6_Compile_x1_3 a4 a5 s0 s1 s2 h) =
    atK s2 1 fun q_29 => if (splice [Cell.int .i64 0] 0 ([(.int .i64 a5)] : List Cell)).length = 1 * 1 then appK 1 8 q_29 (splice [Cell.int .i64 0] 0 ([(.int .i64 a5)] : List Cell)) h fun x_30 h_31 => if 1 < s2.length then some (.normal, (jacquardref6_Compile_s2 (G.wrap .i64 (a4 + 1)) s0 s1 (s2.set 1 x_30) h_31)) else none else none := by kernel_rfl
theorem jacquardref6_Compile_r2 (C : CallF) (L : LoopF) (G : Glo) (a4 : Int) (s0 : List Cell) (s1 : List Cell) (s2 : List Cell) (h : AHeap) :
    jacquardref6_Compile_F2 C L G (jacquardref6_Compile_s2 a4 s0 s1 s2 h) =
    atK s2 0 fun q_4 => lenK q_4 fun n_5 => if (decide (a4 < n_5)) = true then (L (jacquardref6_Compile_F1 C L G) (jacquardref6_Compile_s1 a4 0 0 s0 s1 s2 h)).bind fun p_32 => (jacquardref6_Compile_k7 C L G) p_32.1 p_32.2 else some ((.exit 0), (jacquardref6_Compile_x2_1 s0 s1 s2 h)) := by kernel_rfl
theorem jacquardref6_Compile_r3 (C : CallF) (L : LoopF) (G : Glo) (a7 : Int) (x8 : Cell) (a9 : Int) (s0 : List Cell) (s1 : List Cell) (s2 : List Cell) (h : AHeap) :
    jacquardref6_Compile_F3 C L G (jacquardref6_Compile_s3 a7 x8 a9 s0 s1 s2 h) =
    atK s0 2 fun q_35 => idxSK 1 q_35 a7 fun k_36 N_37 o_38 => rdH h k_36 N_37 fun l_39 => atK l_39 o_38 fun q_40 => lenK q_40 fun n_41 => if (decide (a9 < n_41)) = true then atK s0 2 fun q_42 => idxSK 1 q_42 a7 fun k_43 N_44 o_45 => rdH h k_43 N_44 fun l_46 => atK l_46 o_45 fun q_47 => idxSK 9 q_47 a9 fun k_48 N_49 o_50 => rdH h k_48 N_49 fun l_51 => if o_50 + 9 ≤ l_51.length then if 0 = 0 ∧ (List.replicate 9 (Cell.int .i64 0)).length = 9 ∧ ((l_51.drop o_50).take 9).length = 9 then atK ((l_51.drop o_50).take 9) 2 fun q_52 => asI .i64 (.c q_52) fun n_53 => if (n_53 != 0) = true then if 0 = 0 ∧ s2.length = 3 then atK ((l_51.drop o_50).take 9) 2 fun q_54 => asI .i64 (.c q_54) fun n_55 => c1 (C 122 [(.agg s2), (.c (.int .i64 n_55))] h) fun y_57 h_56 => asI .i64 y_57 fun n_58 => if 2 < ((l_51.drop o_50).take 9).length then if 0 = 0 ∧ (((l_51.drop o_50).take 9).set 2 (.int .i64 n_58)).length = 9 then if (((l_51.drop o_50).take 9).set 2 (.int .i64 n_58)).length = 9 ∧ 0 + 9 ≤ (List.replicate 9 (Cell.int .i64 0)).length then if (splice (List.replicate 9 (Cell.int .i64 0)) 0 (((l_51.drop o_50).take 9).set 2 (.int .i64 n_58))).length = 1 * 9 then appK 9 72 x8 (splice (List.replicate 9 (Cell.int .i64 0)) 0 (((l_51.drop o_50).take 9).set 2 (.int .i64 n_58))) h_56 fun x_59 h_60 => some (.normal, (jacquardref6_Compile_s3 a7 x_59 (G.wrap .i64 (a9 + 1)) s0 s1 s2 h_60)) else none else none else none else none else none else if 0 = 0 ∧ ((l_51.drop o_50).take 9).length = 9 then if ((l_51.drop o_50).take 9).length = 9 ∧ 0 + 9 ≤ (List.replicate 9 (Cell.int .i64 0)).length then if (splice (List.replicate 9 (Cell.int .i64 0)) 0 ((l_51.drop o_50).take 9)).length = 1 * 9 then appK 9 72 x8 (splice (List.replicate 9 (Cell.int .i64 0)) 0 ((l_51.drop o_50).take 9)) h fun x_61 h_62 => some (.normal, (jacquardref6_Compile_s3 a7 x_61 (G.wrap .i64 (a9 + 1)) s0 s1 s2 h_62)) else none else none else none else none else none else some ((.exit 6), (jacquardref6_Compile_x3_7 a7 x8 s0 s1 s2 h)) := by kernel_rfl
theorem jacquardref6_Compile_e3_7 (C : CallF) (L : LoopF) (G : Glo) (a7 : Int) (x8 : Cell) (s0 : List Cell) (s1 : List Cell) (s2 : List Cell) (h : AHeap) :
    (jacquardref6_Compile_k13 C L G) (.exit 6) (jacquardref6_Compile_x3_7 a7 x8 s0 s1 s2 h) =
    atK s2 2 fun q_63 => if (splice [Cell.nils] 0 ([x8] : List Cell)).length = 1 * 1 then appK 1 24 q_63 (splice [Cell.nils] 0 ([x8] : List Cell)) h fun x_64 h_65 => if 2 < s2.length then some (.normal, (jacquardref6_Compile_s4 (G.wrap .i64 (a7 + 1)) s0 s1 (s2.set 2 x_64) h_65)) else none else none := by kernel_rfl
theorem jacquardref6_Compile_r4 (C : CallF) (L : LoopF) (G : Glo) (a7 : Int) (s0 : List Cell) (s1 : List Cell) (s2 : List Cell) (h : AHeap) :
    jacquardref6_Compile_F4 C L G (jacquardref6_Compile_s4 a7 s0 s1 s2 h) =
    atK s0 2 fun q_33 => lenK q_33 fun n_34 => if (decide (a7 < n_34)) = true then (L (jacquardref6_Compile_F3 C L G) (jacquardref6_Compile_s3 a7 .nils 0 s0 s1 s2 h)).bind fun p_66 => (jacquardref6_Compile_k13 C L G) p_66.1 p_66.2 else some ((.exit 4), (jacquardref6_Compile_x4_5 s1 s2 h)) := by kernel_rfl
theorem jacquardref6_Compile_e4_5 (C : CallF) (L : LoopF) (G : Glo) (h0 : AHeap) (s1 : List Cell) (s2 : List Cell) (h : AHeap) :
    (jacquardref6_Compile_k9 C L G h0) (.exit 4) (jacquardref6_Compile_x4_5 s1 s2 h) =
    if 0 = 0 ∧ s2.length = 3 then if 0 = 0 ∧ s1.length = 3 ∧ s2.length = 3 then if 0 = 0 ∧ s2.length = 3 then some ([(.agg s2)], h) else none else none else none := by kernel_rfl
theorem jacquardref6_Compile_e2_1 (C : CallF) (L : LoopF) (G : Glo) (h0 : AHeap) (s0 : List Cell) (s1 : List Cell) (s2 : List Cell) (h : AHeap) :
    (jacquardref6_Compile_k3 C L G h0) (.exit 0) (jacquardref6_Compile_x2_1 s0 s1 s2 h) =
    (L (jacquardref6_Compile_F4 C L G) (jacquardref6_Compile_s4 0 s0 s1 s2 h)).bind fun p_67 => (jacquardref6_Compile_k9 C L G h0) p_67.1 p_67.2 := by kernel_rfl
set_option maxRecDepth 100000 in
theorem jacquardref6_Compile_eq (C : CallF) (L : LoopF) (G : Glo) (l0 : List Cell) (h0 : AHeap) :
    jacquardref6_Compile.body C L G [(.agg l0)] h0 =
    if 0 = 0 ∧ l0.length = 5 then c1 (C 121 [(.agg l0)] h0) fun y_2 h_1 => asC y_2 fun x_3 => if 0 = 0 ∧ [Cell.nils, Cell.nils, Cell.nils].length = 3 ∧ (splice [Cell.nils, Cell.nils, Cell.nils] 0 ([x_3] : List Cell)).length = 3 then (L (jacquardref6_Compile_F2 C L G) (jacquardref6_Compile_s2 0 l0 [Cell.nils, Cell.nils, Cell.nils] (splice [Cell.nils, Cell.nils, Cell.nils] 0 ([x_3] : List Cell)) h_1)).bind fun p_68 => (jacquardref6_Compile_k3 C L G h0) p_68.1 p_68.2 else none else none := by kernel_rfl

/- jacquard/jacquardref6.Start: 104 -/
set_option maxRecDepth 100000 in
theorem jacquardref6_Start_eq (C : CallF) (L : LoopF) (G : Glo) (l0 : List Cell) (a1 : Int) (h0 : AHeap) :
    jacquardref6_Start.body C L G [(.agg l0), (.c (.int .i64 a1))] h0 =
    if 0 = 0 ∧ l0.length = 3 then c1 (C 110 [(.agg l0), (.c (.int .i64 a1))] h0) fun y_2 h_1 => asB y_2 fun b_3 => if (!b_3) = true then if 0 = 0 ∧ [Cell.int .i64 0, Cell.int .i64 0, Cell.int .i64 0, Cell.int .i64 0, Cell.int .i64 0].length = 5 ∧ [Cell.int .i64 0, Cell.int .i64 0, Cell.int .i64 0, Cell.int .i64 0, Cell.int .i64 0].length = 5 then if 0 = 0 ∧ [Cell.int .i64 0, Cell.int .i64 0, Cell.int .i64 0, Cell.int .i64 0, Cell.int .i64 0].length = 5 then some ([(.agg [Cell.int .i64 0, Cell.int .i64 0, Cell.int .i64 0, Cell.int .i64 0, Cell.int .i64 0])], h_1) else none else none else if 0 = 0 ∧ l0.length = 3 then c1 (C 123 [(.agg l0), (.c (.int .i64 a1)), (.agg [Cell.int .i64 0, Cell.int .i64 0, Cell.int .i64 0, Cell.int .i64 0, Cell.int .i64 0])] h_1) fun y_5 h_4 => asA y_5 fun l_6 => if 0 = 0 ∧ [Cell.int .i64 0, Cell.int .i64 0, Cell.int .i64 0, Cell.int .i64 0, Cell.int .i64 0].length = 5 ∧ l_6.length = 5 then if 0 = 0 ∧ l_6.length = 5 then some ([(.agg l_6)], h_4) else none else none else none else none := by kernel_rfl

/- jacquard/jacquardref6.After: 107 -/
set_option maxRecDepth 100000 in
theorem jacquardref6_After_eq (C : CallF) (L : LoopF) (G : Glo) (l0 : List Cell) (a1 : Int) (l2 : List Cell) (a3 : Int) (h0 : AHeap) :
    jacquardref6_After.body C L G [(.agg l0), (.c (.int .i64 a1)), (.agg l2), (.c (.int .i64 a3))] h0 =
    if 0 = 0 ∧ l0.length = 3 then if 0 = 0 ∧ l2.length = 5 then c2 (C 81 [(.agg l0), (.c (.int .i64 a1)), (.agg l2)] h0) fun y_2 y_3 h_1 => asA y_2 fun l_4 => asB y_3 fun b_5 => if 0 = 0 ∧ (List.replicate 9 (Cell.int .i64 0)).length = 9 ∧ l_4.length = 9 then if (!b_5) = true then if 0 = 0 ∧ l2.length = 5 then if 0 = 0 ∧ [Cell.int .i64 0, Cell.int .i64 0, Cell.int .i64 0, Cell.int .i64 0, Cell.int .i64 0].length = 5 ∧ l2.length = 5 then if 0 = 0 ∧ l2.length = 5 then some ([(.agg l2)], h_1) else none else none else none else atK l_4 0 fun q_6 => asI .i64 (.c q_6) fun n_7 => scK (n_7 == 2) false (atK l_4 0 fun q_8 => asI .i64 (.c q_8) fun n_9 => some ((n_9 == 4), h_1)) true h_1 fun b_10 h_11 => if b_10 = true then atK l_4 1 fun q_12 => asI .i64 (.c q_12) fun n_13 => if 0 ≤ n_13 ∧ n_13 < ((4 : Nat) : Int) then if (1 + ((Int.toNat n_13) * 1)) < l2.length then atK (l2.set (1 + ((Int.toNat n_13) * 1)) (.int .i64 a3)) 0 fun q_14 => asI .i64 (.c q_14) fun n_15 => if 0 < (l2.set (1 + ((Int.toNat n_13) * 1)) (.int .i64 a3)).length then if 0 = 0 ∧ l0.length = 3 then if 0 = 0 ∧ ((l2.set (1 + ((Int.toNat n_13) * 1)) (.int .i64 a3)).set 0 (.int .i64 (G.wrap .i64 (n_15 + 1)))).length = 5 then c1 (C 123 [(.agg l0), (.c (.int .i64 a1)), (.agg ((l2.set (1 + ((Int.toNat n_13) * 1)) (.int .i64 a3)).set 0 (.int .i64 (G.wrap .i64 (n_15 + 1)))))] h_11) fun y_17 h_16 => asA y_17 fun l_18 => if 0 = 0 ∧ [Cell.int .i64 0, Cell.int .i64 0, Cell.int .i64 0, Cell.int .i64 0, Cell.int .i64 0].length = 5 ∧ l_18.length = 5 then if 0 = 0 ∧ l_18.length = 5 then some ([(.agg l_18)], h_16) else none else none else none else none else none else none else none else atK l2 0 fun q_19 => asI .i64 (.c q_19) fun n_20 => if 0 < l2.length then if 0 = 0 ∧ l0.length = 3 then if 0 = 0 ∧ (l2.set 0 (.int .i64 (G.wrap .i64 (n_20 + 1)))).length = 5 then c1 (C 123 [(.agg l0), (.c (.int .i64 a1)), (.agg (l2.set 0 (.int .i64 (G.wrap .i64 (n_20 + 1)))))] h_11) fun y_22 h_21 => asA y_22 fun l_23 => if 0 = 0 ∧ [Cell.int .i64 0, Cell.int .i64 0, Cell.int .i64 0, Cell.int .i64 0, Cell.int .i64 0].length = 5 ∧ l_23.length = 5 then if 0 = 0 ∧ l_23.length = 5 then some ([(.agg l_23)], h_21) else none else none else none else none else none else none else none else none := by kernel_rfl

/- jacquard/jacquardref6.there: 110 -/
set_option maxRecDepth 100000 in
theorem jacquardref6_there_eq (C : CallF) (L : LoopF) (G : Glo) (l0 : List Cell) (a1 : Int) (h0 : AHeap) :
    jacquardref6_there.body C L G [(.agg l0), (.c (.int .i64 a1))] h0 =
    scK (decide (a1 ≥ 0)) true (atK l0 2 fun q_1 => lenK q_1 fun n_2 => some ((decide (a1 < n_2)), h0)) false h0 fun b_3 h_4 => some ([(.c (.bool b_3))], h_4) := by kernel_rfl

/- jacquard/jacquardref6.Event: 111 -/
set_option maxRecDepth 100000 in
theorem jacquardref6_Event_eq (C : CallF) (L : LoopF) (G : Glo) (l0 : List Cell) (l1 : List Cell) (a2 : Int) (h0 : AHeap) :
    jacquardref6_Event.body C L G [(.agg l0), (.agg l1), (.c (.int .i64 a2))] h0 =
    atK l0 0 fun q_1 => asI .i64 (.c q_1) fun n_2 => if (n_2 == 1) = true then atK l0 2 fun q_3 => asI .i64 (.c q_3) fun n_4 => if 3 + 2 ≤ l0.length then if 0 = 0 ∧ l1.length = 5 then c1 (qh h0 (C 92 [(.agg ((l0.drop 3).take 2)), (.agg l1)] h0)) fun y_6 h_5 => asI .i64 y_6 fun n_7 => if 0 = 0 ∧ [Cell.int .i64 0, Cell.int .i64 0, Cell.int .i64 0, Cell.int .i64 0, Cell.int .i64 0, Cell.int .i64 0].length = 6 ∧ (splice (splice (splice [Cell.int .i64 0, Cell.int .i64 0, Cell.int .i64 0, Cell.int .i64 0, Cell.int .i64 0, Cell.int .i64 0] 2 ([(.int .i64 2)] : List Cell)) 3 ([(.int .i64 n_4)] : List Cell)) 5 ([(.int .i64 n_7)] : List Cell)).length = 6 then if 0 = 0 ∧ (splice (splice (splice [Cell.int .i64 0, Cell.int .i64 0, Cell.int .i64 0, Cell.int .i64 0, Cell.int .i64 0, Cell.int .i64 0] 2 ([(.int .i64 2)] : List Cell)) 3 ([(.int .i64 n_4)] : List Cell)) 5 ([(.int .i64 n_7)] : List Cell)).length = 6 then some ([(.agg (splice (splice (splice [Cell.int .i64 0, Cell.int .i64 0, Cell.int .i64 0, Cell.int .i64 0, Cell.int .i64 0, Cell.int .i64 0] 2 ([(.int .i64 2)] : List Cell)) 3 ([(.int .i64 n_4)] : List Cell)) 5 ([(.int .i64 n_7)] : List Cell)))], h0) else none else none else none else none else if (n_2 == 2) = true then atK l0 2 fun q_8 => asI .i64 (.c q_8) fun n_9 => if 0 = 0 ∧ [Cell.int .i64 0, Cell.int .i64 0, Cell.int .i64 0, Cell.int .i64 0, Cell.int .i64 0, Cell.int .i64 0].length = 6 ∧ (splice (splice (splice [Cell.int .i64 0, Cell.int .i64 0, Cell.int .i64 0, Cell.int .i64 0, Cell.int .i64 0, Cell.int .i64 0] 2 ([(.int .i64 1)] : List Cell)) 3 ([(.int .i64 n_9)] : List Cell)) 4 ([(.int .i64 a2)] : List Cell)).length = 6 then if 0 = 0 ∧ (splice (splice (splice [Cell.int .i64 0, Cell.int .i64 0, Cell.int .i64 0, Cell.int .i64 0, Cell.int .i64 0, Cell.int .i64 0] 2 ([(.int .i64 1)] : List Cell)) 3 ([(.int .i64 n_9)] : List Cell)) 4 ([(.int .i64 a2)] : List Cell)).length = 6 then some ([(.agg (splice (splice (splice [Cell.int .i64 0, Cell.int .i64 0, Cell.int .i64 0, Cell.int .i64 0, Cell.int .i64 0, Cell.int .i64 0] 2 ([(.int .i64 1)] : List Cell)) 3 ([(.int .i64 n_9)] : List Cell)) 4 ([(.int .i64 a2)] : List Cell)))], h0) else none else none else if (n_2 == 4) = true then if 3 + 2 ≤ l0.length then if 0 = 0 ∧ l1.length = 5 then c1 (C 92 [(.agg ((l0.drop 3).take 2)), (.agg l1)] h0) fun y_11 h_10 => asI .i64 y_11 fun n_12 => if (a2 == n_12) = true then atK l0 2 fun q_13 => asI .i64 (.c q_13) fun n_14 => if 6 + 2 ≤ l0.length then if 0 = 0 ∧ l1.length = 5 then c1 (qh h_10 (C 92 [(.agg ((l0.drop 6).take 2)), (.agg l1)] h_10)) fun y_16 h_15 => asI .i64 y_16 fun n_17 => if 0 = 0 ∧ [Cell.int .i64 0, Cell.int .i64 0, Cell.int .i64 0, Cell.int .i64 0, Cell.int .i64 0, Cell.int .i64 0].length = 6 ∧ (splice (splice (splice (splice [Cell.int .i64 0, Cell.int .i64 0, Cell.int .i64 0, Cell.int .i64 0, Cell.int .i64 0, Cell.int .i64 0] 2 ([(.int .i64 4)] : List Cell)) 3 ([(.int .i64 n_14)] : List Cell)) 4 ([(.int .i64 a2)] : List Cell)) 5 ([(.int .i64 n_17)] : List Cell)).length = 6 then if 0 = 0 ∧ (splice (splice (splice (splice [Cell.int .i64 0, Cell.int .i64 0, Cell.int .i64 0, Cell.int .i64 0, Cell.int .i64 0, Cell.int .i64 0] 2 ([(.int .i64 4)] : List Cell)) 3 ([(.int .i64 n_14)] : List Cell)) 4 ([(.int .i64 a2)] : List Cell)) 5 ([(.int .i64 n_17)] : List Cell)).length = 6 then some ([(.agg (splice (splice (splice (splice [Cell.int .i64 0, Cell.int .i64 0, Cell.int .i64 0, Cell.int .i64 0, Cell.int .i64 0, Cell.int .i64 0] 2 ([(.int .i64 4)] : List Cell)) 3 ([(.int .i64 n_14)] : List Cell)) 4 ([(.int .i64 a2)] : List Cell)) 5 ([(.int .i64 n_17)] : List Cell)))], h_10) else none else none else none else none else atK l0 2 fun q_18 => asI .i64 (.c q_18) fun n_19 => if 0 = 0 ∧ [Cell.int .i64 0, Cell.int .i64 0, Cell.int .i64 0, Cell.int .i64 0, Cell.int .i64 0, Cell.int .i64 0].length = 6 ∧ (splice (splice (splice [Cell.int .i64 0, Cell.int .i64 0, Cell.int .i64 0, Cell.int .i64 0, Cell.int .i64 0, Cell.int .i64 0] 2 ([(.int .i64 5)] : List Cell)) 3 ([(.int .i64 n_19)] : List Cell)) 4 ([(.int .i64 a2)] : List Cell)).length = 6 then if 0 = 0 ∧ (splice (splice (splice [Cell.int .i64 0, Cell.int .i64 0, Cell.int .i64 0, Cell.int .i64 0, Cell.int .i64 0, Cell.int .i64 0] 2 ([(.int .i64 5)] : List Cell)) 3 ([(.int .i64 n_19)] : List Cell)) 4 ([(.int .i64 a2)] : List Cell)).length = 6 then some ([(.agg (splice (splice (splice [Cell.int .i64 0, Cell.int .i64 0, Cell.int .i64 0, Cell.int .i64 0, Cell.int .i64 0, Cell.int .i64 0] 2 ([(.int .i64 5)] : List Cell)) 3 ([(.int .i64 n_19)] : List Cell)) 4 ([(.int .i64 a2)] : List Cell)))], h_10) else none else none else none else none else if 0 = 0 ∧ [Cell.int .i64 0, Cell.int .i64 0, Cell.int .i64 0, Cell.int .i64 0, Cell.int .i64 0, Cell.int .i64 0].length = 6 ∧ (splice [Cell.int .i64 0, Cell.int .i64 0, Cell.int .i64 0, Cell.int .i64 0, Cell.int .i64 0, Cell.int .i64 0] 2 ([(.int .i64 3)] : List Cell)).length = 6 then if 0 = 0 ∧ (splice [Cell.int .i64 0, Cell.int .i64 0, Cell.int .i64 0, Cell.int .i64 0, Cell.int .i64 0, Cell.int .i64 0] 2 ([(.int .i64 3)] : List Cell)).length = 6 then some ([(.agg (splice [Cell.int .i64 0, Cell.int .i64 0, Cell.int .i64 0, Cell.int .i64 0, Cell.int .i64 0, Cell.int .i64 0] 2 ([(.int .i64 3)] : List Cell)))], h0) else none else none := by kernel_rfl

/- jacquard/jacquardref6.Place: 122 -/
def jacquardref6_Place_k2 (C : CallF) (L : LoopF) (G : Glo) (h0 : AHeap) : Ex → St → Option (List AV × AHeap) :=
  kSeq (fun st => jacquardref6_Place_p1.exec C L G st (jacquardref6_Place.fin G h0)) (jacquardref6_Place.fin G h0)
def jacquardref6_Place_k3 (C : CallF) (L : LoopF) (G : Glo) (h0 : AHeap) : Ex → St → Option (List AV × AHeap) :=
  kBlk 0 (jacquardref6_Place_k2 C L G h0)
def jacquardref6_Place_s1 (a1 : Int) (a5 : Int) (s0 : List Cell) (h : AHeap) : St := ⟨[.top, .v (.c (.int .i64 a1)), .loc 0 0, .top, .top, .v (.c (.int .i64 a5)), .top, .top, .top, .top, .top, .top, .top, .top, .top, .top, .top, .top, .top, .top, .top, .top], [some s0], h⟩
def jacquardref6_Place_F1 (C : CallF) (L : LoopF) (G : Glo) : St → Option (Ex × St) :=
  roundF (fun st f => jacquardref6_Place_b1.exec C L G st f) [1, 2, 5] [0] [(0, [4], []), (1, [], [])]
def jacquardref6_Place_x1_0 (a4 : Int) (h : AHeap) : St := ⟨[.top, .top, .top, .top, .v (.c (.int .i64 a4)), .top, .top, .top, .top, .top, .top, .top, .top, .top, .top, .top, .top, .top, .top, .top, .top, .top], [none], h⟩
def jacquardref6_Place_x1_1 (h : AHeap) : St := ⟨[.top, .top, .top, .top, .top, .top, .top, .top, .top, .top, .top, .top, .top, .top, .top, .top, .top, .top, .top, .top, .top, .top], [none], h⟩
theorem jacquardref6_Place_r1 (C : CallF) (L : LoopF) (G : Glo) (a1 : Int) (a5 : Int) (s0 : List Cell) (h : AHeap) :
    jacquardref6_Place_F1 C L G (jacquardref6_Place_s1 a1 a5 s0 h) =
    atK s0 0 fun q_1 => lenK q_1 fun n_2 => if (decide (a5 < n_2)) = true then atK s0 0 fun q_3 => idxSK 1 q_3 a5 fun k_4 N_5 o_6 => rdH h k_4 N_5 fun l_7 => atK l_7 o_6 fun q_8 => asI .u8 (.c q_8) fun n_9 => if ((G.wrap .i64 n_9) == a1) = true then some (.ret, (jacquardref6_Place_x1_0 a5 h)) else some (.normal, (jacquardref6_Place_s1 a1 (G.wrap .i64 (a5 + 1)) s0 h)) else some ((.exit 0), (jacquardref6_Place_x1_1 h)) := by kernel_rfl
theorem jacquardref6_Place_e1_0 (C : CallF) (L : LoopF) (G : Glo) (h0 : AHeap) (a4 : Int) (h : AHeap) :
    (jacquardref6_Place_k3 C L G h0) .ret (jacquardref6_Place_x1_0 a4 h) =
    some ([(.c (.int .i64 a4))], h) := by kernel_rfl
theorem jacquardref6_Place_e1_1 (C : CallF) (L : LoopF) (G : Glo) (h0 : AHeap) (h : AHeap) :
    (jacquardref6_Place_k3 C L G h0) (.exit 0) (jacquardref6_Place_x1_1 h) =
    some ([(.c (.int .i64 (-1)))], h) := by kernel_rfl
set_option maxRecDepth 100000 in
theorem jacquardref6_Place_eq (C : CallF) (L : LoopF) (G : Glo) (l0 : List Cell) (a1 : Int) (h0 : AHeap) :
    jacquardref6_Place.body C L G [(.agg l0), (.c (.int .i64 a1))] h0 =
    (L (jacquardref6_Place_F1 C L G) (jacquardref6_Place_s1 a1 0 l0 h0)).bind fun p_10 => (jacquardref6_Place_k3 C L G h0) p_10.1 p_10.2 := by kernel_rfl

/- jacquard/jacquardref6.normal: 123 -/
def jacquardref6_normal_k2 (C : CallF) (L : LoopF) (G : Glo) (h0 : AHeap) : Ex → St → Option (List AV × AHeap) :=
  kSeq (fun st => jacquardref6_normal_p1.exec C L G st (jacquardref6_normal.fin G h0)) (jacquardref6_normal.fin G h0)
def jacquardref6_normal_k3 (C : CallF) (L : LoopF) (G : Glo) (h0 : AHeap) : Ex → St → Option (List AV × AHeap) :=
  kBlk 0 (jacquardref6_normal_k2 C L G h0)
def jacquardref6_normal_s1 (a1 : Int) (s0 : List Cell) (s1 : List Cell) (s2 : List Cell) (h : AHeap) : St := ⟨[.top, .v (.c (.int .i64 a1)), .top, .loc 0 0, .top, .loc 1 0, .loc 2 0, .top, .top, .top, .top, .top, .top, .top, .top, .top, .top, .top, .top, .top, .top, .top, .top, .top, .top, .top, .top, .top, .top, .top, .top, .top, .top, .top, .top, .top, .top, .top, .top, .top, .top, .top, .top, .top, .top, .top, .top, .top, .top, .top, .top, .top, .top, .top, .top, .top, .top, .top, .top, .top, .top, .top, .top, .top, .top, .top, .top, .top, .top, .top, .top, .top, .top, .top, .top, .top, .top, .top, .top, .top, .top], [some s0, some s1, some s2, none], h⟩
def jacquardref6_normal_F1 (C : CallF) (L : LoopF) (G : Glo) : St → Option (Ex × St) :=
  roundF (fun st f => jacquardref6_normal_b1.exec C L G st f) [1, 3, 5, 6] [0, 1, 2] [(0, [6], [2]), (1, [5, 6], [1, 2])]
def jacquardref6_normal_x1_0 (s2 : List Cell) (h : AHeap) : St := ⟨[.top, .top, .top, .top, .top, .top, .loc 2 0, .top, .top, .top, .top, .top, .top, .top, .top, .top, .top, .top, .top, .top, .top, .top, .top, .top, .top, .top, .top, .top, .top, .top, .top, .top, .top, .top, .top, .top, .top, .top, .top, .top, .top, .top, .top, .top, .top, .top, .top, .top, .top, .top, .top, .top, .top, .top, .top, .top, .top, .top, .top, .top, .top, .top, .top, .top, .top, .top, .top, .top, .top, .top, .top, .top, .top, .top, .top, .top, .top, .top, .top, .top, .top], [none, none, some s2, none], h⟩
def jacquardref6_normal_x1_1 (s1 : List Cell) (s2 : List Cell) (h : AHeap) : St := ⟨[.top, .top, .top, .top, .top, .loc 1 0, .loc 2 0, .top, .top, .top, .top, .top, .top, .top, .top, .top, .top, .top, .top, .top, .top, .top, .top, .top, .top, .top, .top, .top, .top, .top, .top, .top, .top, .top, .top, .top, .top, .top, .top, .top, .top, .top, .top, .top, .top, .top, .top, .top, .top, .top, .top, .top, .top, .top, .top, .top, .top, .top, .top, .top, .top, .top, .top, .top, .top, .top, .top, .top, .top, .top, .top, .top, .top, .top, .top, .top, .top, .top, .top, .top, .top], [none, some s1, some s2, none], h⟩
theorem jacquardref6_normal_r1 (C : CallF) (L : LoopF) (G : Glo) (a1 : Int) (s0 : List Cell) (s1 : List Cell) (s2 : List Cell) (h : AHeap) :
    jacquardref6_normal_F1 C L G (jacquardref6_normal_s1 a1 s0 s1 s2 h) =
    atK s1 0 fun q_1 => asI .i64 (.c q_1) fun n_2 => atK s0 2 fun q_3 => idxSK 1 q_3 a1 fun k_4 N_5 o_6 => rdH h k_4 N_5 fun l_7 => atK l_7 o_6 fun q_8 => lenK q_8 fun n_9 => if (decide (n_2 < n_9)) = true then atK s0 2 fun q_10 => idxSK 1 q_10 a1 fun k_11 N_12 o_13 => rdH h k_11 N_12 fun l_14 => atK l_14 o_13 fun q_15 => atK s1 0 fun q_16 => asI .i64 (.c q_16) fun n_17 => idxSK 9 q_15 n_17 fun k_18 N_19 o_20 => rdH h k_18 N_19 fun l_21 => if o_20 + 9 ≤ l_21.length then if 0 = 0 ∧ (List.replicate 9 (Cell.int .i64 0)).length = 9 ∧ ((l_21.drop o_20).take 9).length = 9 then atK ((l_21.drop o_20).take 9) 0 fun q_22 => asI .i64 (.c q_22) fun n_23 => if (n_23 == 5) = true then if 3 + 2 ≤ ((l_21.drop o_20).take 9).length then if 0 = 0 ∧ s1.length = 5 then c1 (C 92 [(.agg ((((l_21.drop o_20).take 9).drop 3).take 2)), (.agg s1)] h) fun y_25 h_24 => asI .i64 y_25 fun n_26 => atK ((l_21.drop o_20).take 9) 5 fun q_27 => asI .i64 (.c q_27) fun n_28 => if (n_28 != 0) = true then atK ((l_21.drop o_20).take 9) 5 fun q_29 => asI .i64 (.c q_29) fun n_30 => if 6 + 2 ≤ ((l_21.drop o_20).take 9).length then if 0 = 0 ∧ s1.length = 5 then c1 (qh h_24 (C 92 [(.agg ((((l_21.drop o_20).take 9).drop 6).take 2)), (.agg s1)] h_24)) fun y_32 h_31 => asI .i64 y_32 fun n_33 => c2 (qh h_24 (C 93 [(.c (.int .i64 n_30)), (.c (.int .i64 n_26)), (.c (.int .i64 n_33))] h_24)) fun y_35 y_36 h_34 => asI .i64 y_35 fun n_37 => asB y_36 fun b_38 => atK ((l_21.drop o_20).take 9) 1 fun q_39 => asI .i64 (.c q_39) fun n_40 => if 0 ≤ n_40 ∧ n_40 < ((4 : Nat) : Int) then if (1 + ((Int.toNat n_40) * 1)) < s1.length then atK (s1.set (1 + ((Int.toNat n_40) * 1)) (.int .i64 n_37)) 0 fun q_41 => asI .i64 (.c q_41) fun n_42 => if 0 < (s1.set (1 + ((Int.toNat n_40) * 1)) (.int .i64 n_37)).length then some (.normal, (jacquardref6_normal_s1 a1 s0 ((s1.set (1 + ((Int.toNat n_40) * 1)) (.int .i64 n_37)).set 0 (.int .i64 (G.wrap .i64 (n_42 + 1)))) s2 h_24)) else none else none else none else none else none else atK ((l_21.drop o_20).take 9) 1 fun q_43 => asI .i64 (.c q_43) fun n_44 => if 0 ≤ n_44 ∧ n_44 < ((4 : Nat) : Int) then if (1 + ((Int.toNat n_44) * 1)) < s1.length then atK (s1.set (1 + ((Int.toNat n_44) * 1)) (.int .i64 n_26)) 0 fun q_45 => asI .i64 (.c q_45) fun n_46 => if 0 < (s1.set (1 + ((Int.toNat n_44) * 1)) (.int .i64 n_26)).length then some (.normal, (jacquardref6_normal_s1 a1 s0 ((s1.set (1 + ((Int.toNat n_44) * 1)) (.int .i64 n_26)).set 0 (.int .i64 (G.wrap .i64 (n_46 + 1)))) s2 h_24)) else none else none else none else none else none else if (n_23 == 6) = true then if 3 + 2 ≤ ((l_21.drop o_20).take 9).length then if 0 = 0 ∧ s1.length = 5 then c1 (qh h (C 92 [(.agg ((((l_21.drop o_20).take 9).drop 3).take 2)), (.agg s1)] h)) fun y_48 h_47 => asI .i64 y_48 fun n_49 => if 6 + 2 ≤ ((l_21.drop o_20).take 9).length then if 0 = 0 ∧ s1.length = 5 then c1 (qh h (C 92 [(.agg ((((l_21.drop o_20).take 9).drop 6).take 2)), (.agg s1)] h)) fun y_51 h_50 => asI .i64 y_51 fun n_52 => if (n_49 == n_52) = true then atK s1 0 fun q_53 => asI .i64 (.c q_53) fun n_54 => atK ((l_21.drop o_20).take 9) 8 fun q_55 => asI .i64 (.c q_55) fun n_56 => if 0 < s1.length then atK (s1.set 0 (.int .i64 (G.wrap .i64 (n_54 + n_56)))) 0 fun q_57 => asI .i64 (.c q_57) fun n_58 => if 0 < (s1.set 0 (.int .i64 (G.wrap .i64 (n_54 + n_56)))).length then some (.normal, (jacquardref6_normal_s1 a1 s0 ((s1.set 0 (.int .i64 (G.wrap .i64 (n_54 + n_56)))).set 0 (.int .i64 (G.wrap .i64 (n_58 + 1)))) s2 h)) else none else none else atK s1 0 fun q_59 => asI .i64 (.c q_59) fun n_60 => if 0 < s1.length then some (.normal, (jacquardref6_normal_s1 a1 s0 (s1.set 0 (.int .i64 (G.wrap .i64 (n_60 + 1)))) s2 h)) else none else none else none else none else none else if 0 = 0 ∧ s1.length = 5 then if 0 = 0 ∧ s2.length = 5 ∧ s1.length = 5 then some (.ret, (jacquardref6_normal_x1_0 s1 h)) else none else none else none else none else some ((.exit 0), (jacquardref6_normal_x1_1 s1 s2 h)) := by kernel_rfl
theorem jacquardref6_normal_e1_0 (C : CallF) (L : LoopF) (G : Glo) (h0 : AHeap) (s2 : List Cell) (h : AHeap) :
    (jacquardref6_normal_k3 C L G h0) .ret (jacquardref6_normal_x1_0 s2 h) =
    if 0 = 0 ∧ s2.length = 5 then some ([(.agg s2)], h) else none := by kernel_rfl
theorem jacquardref6_normal_e1_1 (C : CallF) (L : LoopF) (G : Glo) (h0 : AHeap) (s1 : List Cell) (s2 : List Cell) (h : AHeap) :
    (jacquardref6_normal_k3 C L G h0) (.exit 0) (jacquardref6_normal_x1_1 s1 s2 h) =
    if 0 = 0 ∧ s1.length = 5 then if 0 = 0 ∧ s2.length = 5 ∧ s1.length = 5 then if 0 = 0 ∧ s1.length = 5 then some ([(.agg s1)], h) else none else none else none := by kernel_rfl
set_option maxRecDepth 100000 in
theorem jacquardref6_normal_eq (C : CallF) (L : LoopF) (G : Glo) (l0 : List Cell) (a1 : Int) (l2 : List Cell) (h0 : AHeap) :
    jacquardref6_normal.body C L G [(.agg l0), (.c (.int .i64 a1)), (.agg l2)] h0 =
    (L (jacquardref6_normal_F1 C L G) (jacquardref6_normal_s1 a1 l0 l2 [Cell.int .i64 0, Cell.int .i64 0, Cell.int .i64 0, Cell.int .i64 0, Cell.int .i64 0] h0)).bind fun p_61 => (jacquardref6_normal_k3 C L G h0) p_61.1 p_61.2 := by kernel_rfl


end Jq

/- The statements of relations: what their helpers come to. -/
namespace Jq
open Go

/-- A relation of pairs. -/
def ofR (n : Nat) (l : List (Int × Int)) : Nat → Nat := l.foldl (fun f p => addR n f p.1 p.2) fun _ => 0

variable {E : Env}

theorem inR_nat {n a : Nat} : inR n (a : Int) = decide (a < n) := by
  unfold inR
  rw [Bool.eq_iff_iff]; simp

end Jq

namespace Jq
open Go


end Jq

/- Bits counted, and the lowest one: what math/bits comes to. -/
namespace Jq
open Go

/-- How many of the first k bits are set. -/
def pcN : Nat → Nat → Nat
  | 0, _ => 0
  | k + 1, x => x % 2 + pcN k (x / 2)

/-- How many numbers a word has. -/
def pc (x : Nat) : Nat := pcN 64 x

/-- A function of each byte. -/
def mapB (f : Nat → Nat) : Nat → Nat → Nat
  | 0, _ => 0
  | k + 1, x => f (x % 256) + 256 * mapB f k (x / 256)

def repB (c : Nat) : Nat → Nat
  | 0 => 0
  | k + 1 => c + 256 * repB c k

def fb1 (b : Nat) : Nat := ((b / 2) &&& 0x55) + (b &&& 0x55)
def fb2 (b : Nat) : Nat := ((b / 4) &&& 0x33) + (b &&& 0x33)
def fb3 (b : Nat) : Nat := (b + b / 16) &&& 0x0f

variable {E : Env}

end Jq

/- The lowest bit: what math/bits comes to. -/
namespace Jq
open Go

variable {E : Env}

theorem getD_some {L : List Nat} {n i k : Nat} (hn : L.length = n) (hi : i < n) (hd : L.getD i 0 = k) : L[i]? = some k := by
  rw [List.getD_eq_getElem?_getD] at hd
  cases h : L[i]? with
  | none => rw [List.getElem?_eq_none_iff] at h; omega
  | some x => rw [h] at hd; exact congrArg some hd

end Jq

/- The numbers of a word, in order. -/
namespace Jq
open Go

/-- A word's numbers, rising. -/
def bitsL (s : Nat) : List Nat := (List.range 64).filter fun i => s.testBit i

theorem mem_bitsL {s i : Nat} : i ∈ bitsL s ↔ i < 64 ∧ s.testBit i = true := by simp [bitsL]

theorem low_form {s : Nat} (hs : s < 2 ^ 64) (h0 : s ≠ 0) : ∃ m, s = 2 ^ (Lib.ctz 64 s + 1) * m + 2 ^ Lib.ctz 64 s ∧ Lib.ctz 64 s < 64 := by
  have : Lib.ctz 64 s = Lib.ctzFrom 64 s := by unfold Lib.ctz; rw [if_neg h0]
  rw [this]
  obtain ⟨m, h1, h2⟩ := Lib.ctzFrom_spec 64 s (by omega) hs
  refine ⟨m, ?_, h2⟩
  conv => lhs; rw [h1]
  rw [Nat.mul_add, Nat.mul_one, ← Nat.mul_assoc, Nat.pow_succ]

theorem low_bit {s : Nat} (hs : s < 2 ^ 64) (h0 : s ≠ 0) : s.testBit (Lib.ctz 64 s) = true ∧ (∀ j, j < Lib.ctz 64 s → s.testBit j = false) ∧ ∀ j, (s &&& (s - 1)).testBit j = (s.testBit j && decide (j ≠ Lib.ctz 64 s)) := by
  obtain ⟨m, h1, h2⟩ := low_form hs h0
  generalize Lib.ctz 64 s = k at h1 h2
  have hp : 0 < 2 ^ k := Nat.two_pow_pos k
  have hlt : 2 ^ k < 2 ^ (k + 1) := by rw [Nat.pow_succ]; omega
  have t1 : ∀ j, s.testBit j = if j < k + 1 then decide (j = k) else m.testBit (j - (k + 1)) := by
    intro j
    rw [h1, Nat.testBit_two_pow_mul_add _ hlt]
    split
    · rw [Nat.testBit_two_pow, Bool.eq_iff_iff]; simp; exact eq_comm
    · rfl
  have t2 : ∀ j, (s - 1).testBit j = if j < k + 1 then decide (j < k) else m.testBit (j - (k + 1)) := by
    intro j
    have : s - 1 = 2 ^ (k + 1) * m + (2 ^ k - 1) := by omega
    rw [this, Nat.testBit_two_pow_mul_add _ (by omega)]
    split
    · rw [Nat.testBit_two_pow_sub_one]
    · rfl
  refine ⟨by rw [t1, if_pos (by omega)]; simp, fun j hj => by rw [t1, if_pos (by omega)]; simp; omega, fun j => ?_⟩
  rw [Nat.testBit_and, t1, t2]
  split
  · rw [Bool.eq_iff_iff]; simp; omega
  · rename_i hj
    have : decide (j ≠ k) = true := by simp; omega
    rw [this, Bool.and_self, Bool.and_true]

theorem bitsL_cons {s : Nat} (hs : s < 2 ^ 64) (h0 : s ≠ 0) : bitsL s = Lib.ctz 64 s :: bitsL (s &&& (s - 1)) := by
  obtain ⟨b1, b2, b3⟩ := low_bit hs h0
  obtain ⟨_, _, hk⟩ := low_form hs h0
  generalize Lib.ctz 64 s = k at b1 b2 b3 hk
  unfold bitsL
  have hr : List.range 64 = List.range k ++ k :: List.range' (k + 1) (64 - (k + 1)) := by
    rw [List.range_eq_range', List.range_eq_range']
    have : (64 : Nat) = k + (1 + (64 - (k + 1))) := by omega
    conv => lhs; rw [this]
    rw [List.range'_append_1.symm, Nat.zero_add, Nat.add_comm 1, List.range'_succ]
  rw [hr, List.filter_append, List.filter_append, List.filter_cons, List.filter_cons, if_pos b1, b3 k]
  have e1 : (List.range k).filter (fun i => s.testBit i) = [] := List.filter_eq_nil_iff.2 fun x hx => by rw [b2 x (by simpa using hx)]; simp
  have e2 : (List.range k).filter (fun i => (s &&& (s - 1)).testBit i) = [] := List.filter_eq_nil_iff.2 fun x hx => by rw [b3, b2 x (by simpa using hx)]; simp
  rw [e1, e2, List.nil_append, List.nil_append, if_neg (by simp)]
  congr 1
  refine List.filter_congr fun x hx => ?_
  rw [List.mem_range'_1] at hx
  rw [b3]
  have : decide (x ≠ k) = true := by simp; omega
  rw [this, Bool.and_true]

theorem bitsL_zero : bitsL 0 = [] := by decide

theorem bitsL_nil {s : Nat} (hs : s < 2 ^ 64) : bitsL s = [] ↔ s = 0 := by
  constructor
  · intro h
    by_cases h0 : s = 0
    · exact h0
    · rw [bitsL_cons hs h0] at h; cases h
  · rintro rfl; exact bitsL_zero

/-- The first number; none: less than nought. -/
def firstI (s : Nat) : Int := if s = 0 then -1 else Lib.ctz 64 s

/-- What math/bits reads. -/
def TabOk (E : Env) : Prop := ∀ k, k < 64 → (E.tab 1)[k]? = (Lib.deBruijn64tab[k]?).map fun (n : Nat) => Cell.int .u8 (n : Int)

variable {E : Env}

/-- A row of natural numbers, as cells. -/
def natC (l : List Nat) : List Cell := intC .i64 (l.map fun (n : Nat) => (n : Int))

theorem natC_snoc (l : List Nat) (n : Nat) : natC (l ++ [n]) = natC l ++ [.int .i64 n] := by simp [natC, intC]
theorem natC_get {l : List Nat} {i n : Nat} (h : l[i]? = some n) : (natC l)[i]? = some (.int .i64 n) := by simp [natC, intC, h]

/-- A word of numbers. -/
def ofL (l : List Int) : Nat := l.foldl (fun s i => s ||| bitI i) 0

/-- The next greater word of as many numbers. -/
def nextN (s : Nat) : Nat :=
  if s = 0 then 0 else
    let up := (s + 2 ^ Lib.ctz 64 s) % 2 ^ 64
    if up = 0 then 0 else up ||| (((s ^^^ up) >>> 2) >>> Lib.ctz 64 s)

end Jq

/- Relations: joining, meeting, putting behind one another, turning, cutting down, pairs. -/
namespace Jq
open Go

/-- The word of these numbers. -/
def mkN (p : Nat → Bool) : Nat := (List.range 64).foldl (fun a j => if p j then a ||| 2 ^ j else a) 0

/-- Rows told so far. -/
def upF (T : Nat → Nat) (i : Nat) : Nat → Nat := fun j => if j < i then T j else 0

variable {E : Env}

/-- A relation by what it has. -/
def relM (n : Nat) (p : Nat → Nat → Bool) : List Cell := relL n fun i => mkN (p i)

/- Putting behind one another. -/
def orL (T : Nat → Nat) (l : List Nat) : Nat := l.foldl (fun a k => a ||| T k) 0

def thenF (n : Nat) (f g : Nat → Nat) (i : Nat) : Nat := orL (fun k => g k &&& (2 ^ n - 1)) (bitsL (f i &&& (2 ^ n - 1)))

/- Turning about. -/
/-- What has been turned: all of the rows below i, of row i what is done. -/
def invP (f : Nat → Nat) (i : Nat) (done : List Nat) : Nat → Nat := fun k => mkN fun j => (decide (j < i) && (f j).testBit k) || (decide (j = i) && decide (k ∈ done))

end Jq

/- Relations over one number: by what they have. -/
namespace Jq
open Go

def TH (n : Nat) (f g : Nat → Nat) : Nat → Nat := fun i => mkN fun j => decide (i < n) && decide (j < n) && (List.range n).any fun k => (f i).testBit k && (g k).testBit j
def UNI (n : Nat) (f g : Nat → Nat) : Nat → Nat := fun i => mkN fun j => decide (i < n) && decide (j < n) && ((f i).testBit j || (g i).testBit j)
def MIN (n : Nat) (f g : Nat → Nat) : Nat → Nat := fun i => mkN fun j => decide (i < n) && decide (j < n) && ((f i).testBit j && !(g i).testBit j)
def MEE (n : Nat) (f g : Nat → Nat) : Nat → Nat := fun i => mkN fun j => decide (i < n) && decide (j < n) && ((f i).testBit j && (g i).testBit j)
def INV (n : Nat) (f : Nat → Nat) : Nat → Nat := fun i => mkN fun j => decide (j < n) && (f j).testBit i
def KEE (n : Nat) (f : Nat → Nat) (s : Nat) : Nat → Nat := fun i => mkN fun j => decide (i < n) && s.testBit i && ((f i).testBit j && s.testBit j)

/-- All pairs are over n. -/
def Fit (n : Nat) (f : Nat → Nat) : Prop := ∀ i j, (f i).testBit j = true → i < n ∧ j < n

variable {E : Env} {n : Nat}

end Jq

/- A relation's pairs, told rising. -/
namespace Jq
open Go

/-- The pairs of one row. -/
def rowP (f : Nat → Nat) (i : Nat) : List (Int × Int) := (bitsL (f i)).map fun (k : Nat) => ((i : Int), (k : Int))

/-- All pairs. -/
def pairsP (n : Nat) (f : Nat → Nat) : List (Int × Int) := (List.range n).flatMap (rowP f)

theorem bits_len (s : Nat) : (bitsL s).length ≤ 64 := by unfold bitsL; exact Nat.le_trans (List.length_filter_le _ _) (by simp)

theorem Own.keep {n : Nat} {h h' : AHeap} {x : Cell} {esz len : Nat} {cs : List Cell} (o : Own n h x esz cs len) (a : Kp h.length h h') : Own n h' x esz cs len := by
  refine ⟨o.1, o.2.imp id ?_⟩
  rintro ⟨k, rfl, hk, hb⟩
  exact ⟨k, rfl, hk, by rw [a.blk (blk_lt' hb)]; exact hb⟩

/-- Two rows lie apart. -/
def ApartB (x y : Cell) : Prop := ∀ k, isBlk y k → ¬ isBlk x k

theorem Own.apart {n m : Nat} {h : AHeap} {x y : Cell} {e1 e2 l1 l2 : Nat} {c1 c2 : List Cell} (o : Own n h x e1 c1 l1) (hm : h.length ≤ m) {h' : AHeap} (o2 : Own m h' y e2 c2 l2) : ApartB x y := by
  intro k hk hx
  rcases o.2 with ⟨rfl, _⟩ | ⟨k1, rfl, _, hb⟩
  · cases hx
  · rcases o2.2 with ⟨rfl, _⟩ | ⟨k2, rfl, hk2, _⟩
    · cases hk
    · have e1 : k1 = k := hx
      have e2 : k2 = k := hk
      have := blk_lt' hb
      omega

variable {E : Env}

end Jq

/- RelPairs: the pairs are the ones had, in order, no more; the relation of its pairs is itself. -/
namespace Jq
open Go

/-- A row's pairs below j. -/
def rowU (f : Nat → Nat) (i j : Nat) : List (Int × Int) := ((List.range j).filter fun k => (f i).testBit k).map fun (k : Nat) => ((i : Int), (k : Int))

section
variable {E : Env}
end

variable {E : Env}

end Jq

namespace Jq
open Go

/- jacquard/sleep.Covers: 368 -/
set_option maxRecDepth 100000 in
theorem sleep_Covers_eq (C : CallF) (L : LoopF) (G : Glo) (a0 : Int) (a1 : Int) (h0 : AHeap) :
    sleep_Covers.body C L G [(.c (.int .u64 a0)), (.c (.int .u64 a1))] h0 =
    scK (a1 == 0) false (some (((G.band .u64 a0 a1) != 0), h0)) true h0 fun b_1 h_2 => some ([(.c (.bool b_1))], h_2) := by kernel_rfl

/- jacquard/sleep.Clash: 390 -/
set_option maxRecDepth 100000 in
theorem sleep_Clash_eq (C : CallF) (L : LoopF) (G : Glo) (l0 : List Cell) (l1 : List Cell) (a2 : Int) (h0 : AHeap) :
    sleep_Clash.body C L G [(.agg l0), (.agg l1), (.c (.int .i64 a2))] h0 =
    atK l0 0 fun q_1 => asI .i64 (.c q_1) fun n_2 => atK l1 0 fun q_3 => asI .i64 (.c q_3) fun n_4 => if (n_2 == n_4) = true then some ([(.c (.bool true))], h0) else atK l0 1 fun q_5 => asI .i64 (.c q_5) fun n_6 => atK l1 1 fun q_7 => asI .i64 (.c q_7) fun n_8 => if (n_6 == n_8) = true then atK l0 2 fun q_9 => asI .i64 (.c q_9) fun n_10 => scK (n_10 == 6) true (if 0 = 0 ∧ l1.length = 7 then c1 (C 265 [(.agg l1)] h0) fun y_12 h_11 => asB y_12 fun b_13 => some (b_13, h_11) else none) false h0 fun b_14 h_15 => scK b_14 false (atK l1 2 fun q_16 => asI .i64 (.c q_16) fun n_17 => scK (n_17 == 6) true (if 0 = 0 ∧ l0.length = 7 then c1 (C 265 [(.agg l0)] h_15) fun y_19 h_18 => asB y_19 fun b_20 => some (b_20, h_18) else none) false h_15 fun b_21 h_22 => some (b_21, h_22)) true h_15 fun b_23 h_24 => some ([(.c (.bool b_23))], h_24) else if 0 = 0 ∧ l0.length = 7 then c1 (C 401 [(.agg l0), (.c (.int .i64 a2))] h0) fun y_26 h_25 => asB y_26 fun b_27 => scK b_27 true (if 0 = 0 ∧ l1.length = 7 then c1 (C 401 [(.agg l1), (.c (.int .i64 a2))] h_25) fun y_29 h_28 => asB y_29 fun b_30 => some (b_30, h_28) else none) false h_25 fun b_31 h_32 => scK b_31 true (atK l0 3 fun q_33 => asI .i64 (.c q_33) fun n_34 => atK l1 3 fun q_35 => asI .i64 (.c q_35) fun n_36 => some ((n_34 == n_36), h_32)) false h_32 fun b_37 h_38 => scK b_37 true (if 0 = 0 ∧ l0.length = 7 then c1 (C 257 [(.agg l0), (.c (.int .i64 a2))] h_38) fun y_40 h_39 => asB y_40 fun b_41 => scK b_41 false (if 0 = 0 ∧ l1.length = 7 then c1 (C 257 [(.agg l1), (.c (.int .i64 a2))] h_39) fun y_43 h_42 => asB y_43 fun b_44 => some (b_44, h_42) else none) true h_39 fun b_45 h_46 => some (b_45, h_46) else none) false h_38 fun b_47 h_48 => some ([(.c (.bool b_47))], h_48) else none := by kernel_rfl

/- jacquard/sleep.touches: 401 -/
set_option maxRecDepth 100000 in
theorem sleep_touches_eq (C : CallF) (L : LoopF) (G : Glo) (l0 : List Cell) (a1 : Int) (h0 : AHeap) :
    sleep_touches.body C L G [(.agg l0), (.c (.int .i64 a1))] h0 =
    if 0 = 0 ∧ l0.length = 7 then c1 (C 257 [(.agg l0), (.c (.int .i64 a1))] h0) fun y_2 h_1 => asB y_2 fun b_3 => scK b_3 false (if 0 = 0 ∧ l0.length = 7 then c1 (C 266 [(.agg l0)] h_1) fun y_5 h_4 => asB y_5 fun b_6 => some (b_6, h_4) else none) true h_1 fun b_7 h_8 => some ([(.c (.bool b_7))], h_8) else none := by kernel_rfl

/- jacquard/sleep.Initials: 408 -/
def sleep_Initials_k2 (C : CallF) (L : LoopF) (G : Glo) (h0 : AHeap) : Ex → St → Option (List AV × AHeap) :=
  kSeq (fun st => sleep_Initials_p1.exec C L G st (sleep_Initials.fin G h0)) (sleep_Initials.fin G h0)
def sleep_Initials_k3 (C : CallF) (L : LoopF) (G : Glo) (h0 : AHeap) : Ex → St → Option (List AV × AHeap) :=
  kBlk 0 (sleep_Initials_k2 C L G h0)
def sleep_Initials_s2 (x1 : Cell) (a2 : Int) (a7 : Int) (a8 : Int) (s0 : List Cell) (h : AHeap) : St := ⟨[.top, .v (.c x1), .v (.c (.int .i64 a2)), .loc 0 0, .top, .top, .top, .v (.c (.int .u64 a7)), .v (.c (.int .i64 a8)), .top, .top, .top, .top, .top, .top, .top, .top, .top, .top, .top, .top, .top, .top, .top, .top, .top, .top, .top, .top, .top, .top, .top, .top, .top, .top, .top, .top, .top, .top, .top, .top, .top, .top], [some s0], h⟩
def sleep_Initials_F2 (C : CallF) (L : LoopF) (G : Glo) : St → Option (Ex × St) :=
  roundF (fun st f => sleep_Initials_b2.exec C L G st f) [1, 2, 3, 7, 8] [0] [(1, [7], [])]
def sleep_Initials_k4 (C : CallF) (L : LoopF) (G : Glo) : Ex → St → Option (Ex × St) :=
  kSeq (fun st => sleep_Initials_p2.exec C L G st (kLoop [1, 2, 3, 7, 8] [0] [(1, [7], [])])) (kLoop [1, 2, 3, 7, 8] [0] [(1, [7], [])])
def sleep_Initials_k5 (C : CallF) (L : LoopF) (G : Glo) : Ex → St → Option (Ex × St) :=
  kBlk 1 (sleep_Initials_k4 C L G)
def sleep_Initials_k6 (C : CallF) (L : LoopF) (G : Glo) : Ex → St → Option (Ex × St) :=
  kSeq (fun st => sleep_Initials_p3.exec C L G st (sleep_Initials_k5 C L G)) (sleep_Initials_k5 C L G)
def sleep_Initials_k7 (C : CallF) (L : LoopF) (G : Glo) : Ex → St → Option (Ex × St) :=
  kBlk 2 (sleep_Initials_k6 C L G)
def sleep_Initials_s1 (x1 : Cell) (a2 : Int) (a7 : Int) (a8 : Int) (b9 : Bool) (a10 : Int) (s0 : List Cell) (h : AHeap) : St := ⟨[.top, .v (.c x1), .v (.c (.int .i64 a2)), .loc 0 0, .top, .top, .top, .v (.c (.int .u64 a7)), .v (.c (.int .i64 a8)), .v (.c (.bool b9)), .v (.c (.int .i64 a10)), .top, .top, .top, .top, .top, .top, .top, .top, .top, .top, .top, .top, .top, .top, .top, .top, .top, .top, .top, .top, .top, .top, .top, .top, .top, .top, .top, .top, .top, .top, .top, .top], [some s0], h⟩
def sleep_Initials_F1 (C : CallF) (L : LoopF) (G : Glo) : St → Option (Ex × St) :=
  roundF (fun st f => sleep_Initials_b1.exec C L G st f) [1, 2, 3, 7, 8, 9, 10] [0] [(3, [1, 2, 3, 7, 8, 9], [0])]
def sleep_Initials_x1_3 (x1 : Cell) (a2 : Int) (a7 : Int) (a8 : Int) (b9 : Bool) (s0 : List Cell) (h : AHeap) : St := ⟨[.top, .v (.c x1), .v (.c (.int .i64 a2)), .loc 0 0, .top, .top, .top, .v (.c (.int .u64 a7)), .v (.c (.int .i64 a8)), .v (.c (.bool b9)), .top, .top, .top, .top, .top, .top, .top, .top, .top, .top, .top, .top, .top, .top, .top, .top, .top, .top, .top, .top, .top, .top, .top, .top, .top, .top, .top, .top, .top, .top, .top, .top, .top], [some s0], h⟩
def sleep_Initials_x2_1 (a7 : Int) (h : AHeap) : St := ⟨[.top, .top, .top, .top, .top, .top, .top, .v (.c (.int .u64 a7)), .top, .top, .top, .top, .top, .top, .top, .top, .top, .top, .top, .top, .top, .top, .top, .top, .top, .top, .top, .top, .top, .top, .top, .top, .top, .top, .top, .top, .top, .top, .top, .top, .top, .top, .top], [none], h⟩
theorem sleep_Initials_r1 (C : CallF) (L : LoopF) (G : Glo) (x1 : Cell) (a2 : Int) (a7 : Int) (a8 : Int) (b9 : Bool) (a10 : Int) (s0 : List Cell) (h : AHeap) :
    sleep_Initials_F1 C L G (sleep_Initials_s1 x1 a2 a7 a8 b9 a10 s0 h) =
    lenK x1 fun n_2 => if (decide (a10 < n_2)) = true then scK b9 true (if 0 = 0 ∧ s0.length = 65 then c1 (C 3 [(.agg s0), (.c (.int .i64 a10)), (.c (.int .i64 a8))] h) fun y_4 h_3 => asB y_4 fun b_5 => some ((!b_5), h_3) else none) false h fun b_6 h_7 => some (.normal, (sleep_Initials_s1 x1 a2 a7 a8 b_6 (G.wrap .i64 (a10 + 1)) s0 h_7)) else some ((.exit 2), (sleep_Initials_x1_3 x1 a2 a7 a8 b9 s0 h)) := by kernel_rfl
theorem sleep_Initials_e1_3 (C : CallF) (L : LoopF) (G : Glo) (x1 : Cell) (a2 : Int) (a7 : Int) (a8 : Int) (b9 : Bool) (s0 : List Cell) (h : AHeap) :
    (sleep_Initials_k7 C L G) (.exit 2) (sleep_Initials_x1_3 x1 a2 a7 a8 b9 s0 h) =
    if b9 = true then idxSK 1 x1 a8 fun k_8 N_9 o_10 => rdH h k_8 N_9 fun l_11 => atK l_11 o_10 fun q_12 => asI .i64 (.c q_12) fun n_13 => c1 (C 18 [(.c (.int .u64 a7)), (.c (.int .i64 n_13))] h) fun y_15 h_14 => asI .u64 y_15 fun n_16 => some (.normal, (sleep_Initials_s2 x1 a2 n_16 (G.wrap .i64 (a8 + 1)) s0 h_14)) else some (.normal, (sleep_Initials_s2 x1 a2 a7 (G.wrap .i64 (a8 + 1)) s0 h)) := by kernel_rfl
theorem sleep_Initials_r2 (C : CallF) (L : LoopF) (G : Glo) (x1 : Cell) (a2 : Int) (a7 : Int) (a8 : Int) (s0 : List Cell) (h : AHeap) :
    sleep_Initials_F2 C L G (sleep_Initials_s2 x1 a2 a7 a8 s0 h) =
    lenK x1 fun n_1 => if (decide (a8 < n_1)) = true then (L (sleep_Initials_F1 C L G) (sleep_Initials_s1 x1 a2 a7 a8 true a2 s0 h)).bind fun p_17 => (sleep_Initials_k7 C L G) p_17.1 p_17.2 else some ((.exit 0), (sleep_Initials_x2_1 a7 h)) := by kernel_rfl
theorem sleep_Initials_e2_1 (C : CallF) (L : LoopF) (G : Glo) (h0 : AHeap) (a7 : Int) (h : AHeap) :
    (sleep_Initials_k3 C L G h0) (.exit 0) (sleep_Initials_x2_1 a7 h) =
    some ([(.c (.int .u64 a7))], h) := by kernel_rfl
set_option maxRecDepth 100000 in
theorem sleep_Initials_eq (C : CallF) (L : LoopF) (G : Glo) (l0 : List Cell) (x1 : Cell) (a2 : Int) (h0 : AHeap) :
    sleep_Initials.body C L G [(.agg l0), (.c x1), (.c (.int .i64 a2))] h0 =
    (L (sleep_Initials_F2 C L G) (sleep_Initials_s2 x1 (if 0 > a2 then 0 else a2) 0 (if 0 > a2 then 0 else a2) l0 h0)).bind fun p_18 => (sleep_Initials_k3 C L G h0) p_18.1 p_18.2 := by kernel_rfl


end Jq

namespace Jq
open Go

/- jacquard/trace.Writes: 257 -/
set_option maxRecDepth 100000 in
theorem trace_Writes_eq (C : CallF) (L : LoopF) (G : Glo) (l0 : List Cell) (a1 : Int) (h0 : AHeap) :
    trace_Writes.body C L G [(.agg l0), (.c (.int .i64 a1))] h0 =
    atK l0 2 fun q_1 => asI .i64 (.c q_1) fun n_2 => scK (n_2 == 6) false (atK l0 2 fun q_3 => asI .i64 (.c q_3) fun n_4 => some ((n_4 == 4), h0)) true h0 fun b_5 h_6 => scK b_5 false (scK (a1 == 1) true (atK l0 2 fun q_7 => asI .i64 (.c q_7) fun n_8 => some ((n_8 == 2), h_6)) false h_6 fun b_9 h_10 => some (b_9, h_10)) true h_6 fun b_11 h_12 => some ([(.c (.bool b_11))], h_12) := by kernel_rfl

/- jacquard/trace.Fences: 265 -/
set_option maxRecDepth 100000 in
theorem trace_Fences_eq (C : CallF) (L : LoopF) (G : Glo) (l0 : List Cell) (h0 : AHeap) :
    trace_Fences.body C L G [(.agg l0)] h0 =
    atK l0 2 fun q_1 => asI .i64 (.c q_1) fun n_2 => scK (n_2 == 3) false (atK l0 2 fun q_3 => asI .i64 (.c q_3) fun n_4 => some ((n_4 == 4), h0)) true h0 fun b_5 h_6 => scK b_5 false (atK l0 2 fun q_7 => asI .i64 (.c q_7) fun n_8 => some ((n_8 == 5), h_6)) true h_6 fun b_9 h_10 => some ([(.c (.bool b_9))], h_10) := by kernel_rfl

/- jacquard/trace.Reads: 266 -/
set_option maxRecDepth 100000 in
theorem trace_Reads_eq (C : CallF) (L : LoopF) (G : Glo) (l0 : List Cell) (h0 : AHeap) :
    trace_Reads.body C L G [(.agg l0)] h0 =
    atK l0 2 fun q_1 => asI .i64 (.c q_1) fun n_2 => scK (n_2 == 1) false (atK l0 2 fun q_3 => asI .i64 (.c q_3) fun n_4 => some ((n_4 == 4), h0)) true h0 fun b_5 h_6 => scK b_5 false (atK l0 2 fun q_7 => asI .i64 (.c q_7) fun n_8 => some ((n_8 == 5), h_6)) true h_6 fun b_9 h_10 => some ([(.c (.bool b_9))], h_10) := by kernel_rfl


end Jq

