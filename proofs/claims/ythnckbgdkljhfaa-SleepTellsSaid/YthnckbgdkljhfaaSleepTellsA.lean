/- YthnckbgdkljhfaaSleepTellsA: a part of the proof; no conditions of its own. -/
import Derived.Test.YthnckbgdkljhfaaRows
import Derived.KernelRfl
import Derived.Lib.TrailingZeros
import Derived.Test.YthnckbgdkljhfaaCoreC
set_option linter.unusedVariables false
set_option linter.unusedSimpArgs false

namespace Jq
open Go

/- jacquard/jacquardlaw21.awake: 403 -/
def jacquardlaw21_awake : Fn := { np := 0, nt := 22, ns := 2, res := [.t 0 .b], gc := true, code :=
  (.seq (.reg 0 false (.op (some 0) .mov [(.k (.c (.bool false)))]
    .nil))
  (.seq (.reg 1 false (.op (some 3) (.build (List.replicate 7 (Cell.int .i64 0)) [(0, 1), (1, 1), (2, 1)]) [(.k (.c (.int .i64 0))), (.k (.c (.int .i64 0))), (.k (.c (.int .i64 1)))]
    (.op (some 4) (.build (List.replicate 7 (Cell.int .i64 0)) [(0, 1), (1, 1), (2, 1)]) [(.k (.c (.int .i64 1))), (.k (.c (.int .i64 1))), (.k (.c (.int .i64 1)))]
    (.al 1 0 (List.replicate 7 (Cell.int .i64 0))
    (.al 2 1 (List.replicate 7 (Cell.int .i64 0))
    (.op none (.stAll (.slot 0) 7) [(.t 1), (.t 3)]
    (.op none (.stAll (.slot 1) 7) [(.t 2), (.t 4)]
    .nil)))))))
  (.seq (.reg 2 false (.op (some 5) (.ldAll (.slot 0) 7) [(.t 1)]
    (.op (some 6) (.ldAll (.slot 1) 7) [(.t 2)]
    (.op (some 7) (.call 390 [.b]) [(.t 5), (.t 6), (.k (.c (.int .i64 1)))]
    (.op (some 8) (.un .not) [(.t 7)]
    (.op (some 9) .mov [(.t 8)]
    (.sc 9 true (.op (some 10) (.call 9 [.agg]) [(.k (.c (.int .i64 2)))]
    (.op (some 11) (.bslice 1 2 ([Cell.int .i64 0, Cell.int .i64 0]) [(0, 1), (1, 1)]) [(.k (.c (.int .i64 0))), (.k (.c (.int .i64 1)))]
    (.op (some 12) (.call 408 [(.i .u64)]) [(.t 10), (.t 11), (.k (.c (.int .i64 0)))]
    (.op (some 13) (.bin .eql) [(.t 12), (.k (.c (.int .u64 3)))]
    .nil)))) 13 14 false
    (.op (some 15) .mov [(.t 14)]
    (.sc 15 true (.op (some 16) (.call 368 [.b]) [(.k (.c (.int .u64 1))), (.k (.c (.int .u64 0)))]
    .nil) 16 17 false
    (.op (some 18) .mov [(.t 17)]
    (.sc 18 true (.op (some 19) (.call 368 [.b]) [(.k (.c (.int .u64 1))), (.k (.c (.int .u64 2)))]
    (.op (some 20) (.un .not) [(.t 19)]
    .nil)) 20 21 false
    (.op (some 0) .mov [(.t 21)]
    .nil))))))))))))
  .ret))) }

/- jacquard/jacquardlaw21.SleepWakes: 407 -/
def jacquardlaw21_SleepWakes_b1 : IC :=
  (.seq (.seq (.reg 7 false (.op (some 24) .mov [(.t 10)]
    (.op (some 25) .mov [(.t 0)]
    (.op (some 26) .len [(.t 25)]
    (.op (some 27) (.bin .lss) [(.t 24), (.t 26)]
    .nil)))))
  (.cond (.t 27)
  .skip
  (.exit 0)))
  (.seq (.blk 1 (.seq (.reg 9 true (.op (some 30) .mov [(.t 0)]
    (.op (some 31) .mov [(.t 10)]
    (.op (some 32) (.idxS 7) [(.t 30), (.t 31)]
    (.op (some 33) (.addr 0) [(.t 32)]
    (.op (some 34) (.ld .heap (.i .i64)) [(.t 33)]
    (.op (some 35) (.bin .geq) [(.t 34), (.k (.c (.int .i64 0)))]
    (.op (some 36) .mov [(.t 35)]
    (.sc 36 true (.op (some 37) .mov [(.t 0)]
    (.op (some 38) .mov [(.t 10)]
    (.op (some 39) (.idxS 7) [(.t 37), (.t 38)]
    (.op (some 40) (.addr 0) [(.t 39)]
    (.op (some 41) (.ld .heap (.i .i64)) [(.t 40)]
    (.op (some 42) (.bin .lss) [(.t 41), (.k (.c (.int .i64 64)))]
    .nil)))))) 42 43 false
    (.op (some 44) .mov [(.t 43)]
    (.sc 44 true (.op (some 45) .mov [(.t 0)]
    (.op (some 46) .mov [(.t 10)]
    (.op (some 47) (.idxS 7) [(.t 45), (.t 46)]
    (.op (some 48) (.ldN .heap 7) [(.t 47)]
    (.op (some 49) (.ldAll (.slot 0) 7) [(.t 5)]
    (.op (some 50) .mov [(.t 2)]
    (.op (some 51) (.qcall 390 [.b]) [(.t 48), (.t 49), (.t 50)]
    .nil))))))) 51 52 false
    (.op (some 53) .mov [(.t 52)]
    (.sc 53 true (.op (some 54) .mov [(.t 9)]
    (.op (some 55) .mov [(.t 0)]
    (.op (some 56) .mov [(.t 10)]
    (.op (some 57) (.idxS 7) [(.t 55), (.t 56)]
    (.op (some 58) (.addr 0) [(.t 57)]
    (.op (some 59) (.ld .heap (.i .i64)) [(.t 58)]
    (.op (some 60) (.qcall 17 [.b]) [(.t 54), (.t 59)]
    .nil))))))) 60 61 false
    .nil)))))))))))))
  (.cond (.t 61)
  (.seq (.reg 10 false (.op (some 8) .mov [(.k (.c (.bool false)))]
    .nil))
  .ret)
  .skip)))
  (.reg 8 false (.op (some 28) .mov [(.t 10)]
    (.op (some 29) (.bin .add) [(.t 28), (.k (.c (.int .i64 1)))]
    (.op (some 10) .mov [(.t 29)]
    .nil))))))
def jacquardlaw21_SleepWakes_p1 : IC :=
  (.seq (.reg 11 false (.op (some 62) .mov [(.t 9)]
    (.op (some 63) .mov [(.t 0)]
    (.op (some 64) (.ldAll (.slot 0) 7) [(.t 5)]
    (.op (some 65) .mov [(.t 2)]
    (.op (some 66) (.call 406 [(.i .u64)]) [(.t 62), (.t 63), (.t 64), (.t 65)]
    (.op (some 67) .mov [(.t 9)]
    (.op (some 68) (.bin .eql) [(.t 66), (.t 67)]
    (.op (some 69) .mov [(.t 68)]
    (.sc 69 true (.op (some 70) .mov [(.t 3)]
    (.op (some 71) (.ldAll (.slot 0) 7) [(.t 5)]
    (.op (some 72) .mov [(.t 2)]
    (.op (some 73) (.call 406 [(.i .u64)]) [(.t 70), (.k (.c .nils)), (.t 71), (.t 72)]
    (.op (some 74) .mov [(.t 3)]
    (.op (some 75) (.bin .eql) [(.t 73), (.t 74)]
    .nil)))))) 75 76 false
    (.op (some 77) .mov [(.t 76)]
    (.sc 77 true (.op (some 78) .mov [(.t 3)]
    (.op (some 79) .mov [(.t 3)]
    (.op (some 80) (.call 368 [.b]) [(.t 78), (.t 79)]
    .nil))) 80 81 false
    (.op (some 82) .mov [(.t 81)]
    (.sc 82 true (.op (some 83) (.call 403 [.b]) []
    .nil) 83 84 false
    (.op (some 8) .mov [(.t 84)]
    .nil)))))))))))))))
  .ret)
def jacquardlaw21_SleepWakes : Fn := { np := 4, nt := 85, ns := 1, res := [.t 8 .b], gc := false, code :=
  (.seq (.reg 0 false (.box 5 0 (.t 1)
    (.op (some 8) .mov [(.k (.c (.bool false)))]
    .nil)))
  (.seq (.seq (.reg 1 false (.op (some 11) .mov [(.t 0)]
    (.op (some 12) .len [(.t 11)]
    (.op (some 13) (.bin .gtr) [(.t 12), (.k (.c (.int .i64 40)))]
    .nil))))
  (.cond (.t 13)
  (.seq (.reg 2 false (.op (some 14) (.call 403 [.b]) []
    (.op (some 8) .mov [(.t 14)]
    .nil)))
  .ret)
  .skip))
  (.seq (.reg 3 false (.op (some 15) .mov [(.t 3)]
    (.op (some 16) .mov [(.t 0)]
    (.op (some 17) (.ldAll (.slot 0) 7) [(.t 5)]
    (.op (some 18) .mov [(.t 2)]
    (.op (some 19) (.call 406 [(.i .u64)]) [(.t 15), (.t 16), (.t 17), (.t 18)]
    (.op (some 9) .mov [(.t 19)]
    .nil)))))))
  (.seq (.seq (.reg 4 false (.op (some 20) .mov [(.t 9)]
    (.op (some 21) .mov [(.t 3)]
    (.op (some 22) (.bin .andNot) [(.t 20), (.t 21)]
    (.op (some 23) (.bin .neq) [(.t 22), (.k (.c (.int .u64 0)))]
    .nil)))))
  (.cond (.t 23)
  (.seq (.reg 5 false (.op (some 8) .mov [(.k (.c (.bool false)))]
    .nil))
  .ret)
  .skip))
  (.seq (.seq (.reg 6 false (.op (some 10) .mov [(.k (.c (.int .i64 0)))]
    .nil))
  (.blk 0 (.loop [0, 2, 3, 5, 9, 10] [0] [(0, [8], []), (1, [0, 2, 3, 5, 9], [0])] jacquardlaw21_SleepWakes_b1)))
  jacquardlaw21_SleepWakes_p1))))) }

/- jacquard/jacquardlaw21.SleepTells: 410 -/
def jacquardlaw21_SleepTells_b1 : IC :=
  (.seq (.seq (.reg 11 false (.op (some 53) .mov [(.t 23)]
    (.op (some 54) .mov [(.t 17)]
    (.op (some 55) (.bin .lss) [(.t 53), (.t 54)]
    .nil))))
  (.cond (.t 55)
  .skip
  (.exit 2)))
  (.seq (.blk 3 (.reg 13 false (.op (some 58) .mov [(.t 22)]
    (.op (some 59) .mov [(.t 58)]
    (.sc 59 false (.op (some 60) .mov [(.t 23)]
    (.op (some 61) .mov [(.t 21)]
    (.op (some 62) (.call 7 [.b]) [(.t 19), (.t 60), (.t 61)]
    .nil))) 62 63 true
    (.op (some 22) .mov [(.t 63)]
    .nil))))))
  (.reg 12 false (.op (some 56) .mov [(.t 23)]
    (.op (some 57) (.bin .add) [(.t 56), (.k (.c (.int .i64 1)))]
    (.op (some 23) .mov [(.t 57)]
    .nil))))))
def jacquardlaw21_SleepTells_p3 : IC :=
  (.seq (.reg 14 false (.op (some 64) .mov [(.t 22)]
    (.op (some 65) (.un .not) [(.t 64)]
    (.op (some 66) .mov [(.t 65)]
    (.sc 66 true (.op (some 67) .mov [(.t 0)]
    (.op (some 68) .mov [(.t 21)]
    (.op (some 69) (.idxS 1) [(.t 67), (.t 68)]
    (.op (some 70) (.ld .heap (.i .i64)) [(.t 69)]
    (.op (some 71) (.bin .geq) [(.t 70), (.k (.c (.int .i64 0)))]
    .nil))))) 71 72 false
    (.op (some 73) .mov [(.t 72)]
    (.sc 73 true (.op (some 74) .mov [(.t 0)]
    (.op (some 75) .mov [(.t 21)]
    (.op (some 76) (.idxS 1) [(.t 74), (.t 75)]
    (.op (some 77) (.ld .heap (.i .i64)) [(.t 76)]
    (.op (some 78) (.bin .lss) [(.t 77), (.k (.c (.int .i64 64)))]
    .nil))))) 78 79 false
    .nil)))))))
  (.cond (.t 79)
  (.reg 15 false (.op (some 80) .mov [(.t 20)]
    (.op (some 81) .mov [(.t 0)]
    (.op (some 82) .mov [(.t 21)]
    (.op (some 83) (.idxS 1) [(.t 81), (.t 82)]
    (.op (some 84) (.ld .heap (.i .i64)) [(.t 83)]
    (.op (some 85) (.bin .shl) [(.k (.c (.int .u64 1))), (.t 84)]
    (.op (some 86) (.bin .or) [(.t 80), (.t 85)]
    (.op (some 20) .mov [(.t 86)]
    .nil)))))))))
  .skip))
def jacquardlaw21_SleepTells_p2 : IC :=
  (.reg 8 false (.op (some 49) .mov [(.t 21)]
    (.op (some 50) (.bin .add) [(.t 49), (.k (.c (.int .i64 1)))]
    (.op (some 21) .mov [(.t 50)]
    .nil))))
def jacquardlaw21_SleepTells_b2 : IC :=
  (.seq (.seq (.reg 7 false (.op (some 46) .mov [(.t 21)]
    (.op (some 47) .mov [(.t 17)]
    (.op (some 48) (.bin .lss) [(.t 46), (.t 47)]
    .nil))))
  (.cond (.t 48)
  .skip
  (.exit 0)))
  (.seq (.blk 1 (.seq (.reg 9 false (.op (some 22) .mov [(.k (.c (.bool false)))]
    .nil))
  (.seq (.seq (.reg 10 false (.op (some 51) .mov [(.t 2)]
    (.op (some 52) .mx [(.t 51), (.k (.c (.int .i64 0)))]
    (.op (some 23) .mov [(.t 52)]
    .nil))))
  (.blk 2 (.loop [0, 2, 4, 5, 6, 7, 11, 17, 18, 19, 20, 21, 22, 23] [0, 1] [(3, [0, 2, 4, 5, 6, 7, 11, 17, 18, 19, 20, 21, 22], [0, 1])] jacquardlaw21_SleepTells_b1)))
  jacquardlaw21_SleepTells_p3)))
  jacquardlaw21_SleepTells_p2))
def jacquardlaw21_SleepTells_b3 : IC :=
  (.seq (.seq (.reg 20 false (.op (some 94) .mov [(.t 25)]
    (.op (some 95) .mov [(.t 4)]
    (.op (some 96) .len [(.t 95)]
    (.op (some 97) (.bin .lss) [(.t 94), (.t 96)]
    .nil)))))
  (.cond (.t 97)
  .skip
  (.exit 4)))
  (.seq (.blk 5 (.seq (.reg 22 true (.op (some 100) .mov [(.t 4)]
    (.op (some 101) .mov [(.t 25)]
    (.op (some 102) (.idxS 7) [(.t 100), (.t 101)]
    (.op (some 103) (.ldN .heap 7) [(.t 102)]
    (.op (some 104) (.ldAll (.slot 0) 7) [(.t 11)]
    (.op (some 105) .mov [(.t 5)]
    (.op (some 106) (.qcall 409 [.b]) [(.t 103), (.t 104), (.t 105)]
    (.op (some 26) .mov [(.t 106)]
    .nil)))))))))
  (.seq (.seq (.reg 23 true (.op (some 107) .mov [(.t 4)]
    (.op (some 108) .mov [(.t 25)]
    (.op (some 109) (.idxS 7) [(.t 107), (.t 108)]
    (.op (some 110) (.ldN .heap 7) [(.t 109)]
    (.op (some 111) (.ldAll (.slot 0) 7) [(.t 11)]
    (.op (some 112) .mov [(.t 5)]
    (.op (some 113) (.qcall 390 [.b]) [(.t 110), (.t 111), (.t 112)]
    (.op (some 114) .mov [(.t 26)]
    (.op (some 115) (.eqB true) [(.t 113), (.t 114)]
    (.op (some 116) .mov [(.t 115)]
    (.sc 116 false (.op (some 117) (.ldAll (.slot 0) 7) [(.t 11)]
    (.op (some 118) .mov [(.t 4)]
    (.op (some 119) .mov [(.t 25)]
    (.op (some 120) (.idxS 7) [(.t 118), (.t 119)]
    (.op (some 121) (.ldN .heap 7) [(.t 120)]
    (.op (some 122) .mov [(.t 5)]
    (.op (some 123) (.qcall 390 [.b]) [(.t 117), (.t 121), (.t 122)]
    (.op (some 124) .mov [(.t 26)]
    (.op (some 125) (.eqB true) [(.t 123), (.t 124)]
    .nil))))))))) 125 126 true
    .nil))))))))))))
  (.cond (.t 126)
  (.seq (.reg 24 false (.op (some 16) .mov [(.k (.c (.bool false)))]
    .nil))
  .ret)
  .skip))
  (.seq (.reg 25 false (.op (some 127) .mov [(.t 26)]
    (.op (some 128) .mov [(.t 127)]
    (.sc 128 true (.op (some 129) .mov [(.t 4)]
    (.op (some 130) .mov [(.t 25)]
    (.op (some 131) (.idxS 7) [(.t 129), (.t 130)]
    (.op (some 132) (.addr 0) [(.t 131)]
    (.op (some 133) (.ld .heap (.i .i64)) [(.t 132)]
    (.op (some 134) (.bin .geq) [(.t 133), (.k (.c (.int .i64 0)))]
    .nil)))))) 134 135 false
    (.op (some 136) .mov [(.t 135)]
    (.sc 136 true (.op (some 137) .mov [(.t 4)]
    (.op (some 138) .mov [(.t 25)]
    (.op (some 139) (.idxS 7) [(.t 137), (.t 138)]
    (.op (some 140) (.addr 0) [(.t 139)]
    (.op (some 141) (.ld .heap (.i .i64)) [(.t 140)]
    (.op (some 142) (.bin .lss) [(.t 141), (.k (.c (.int .i64 64)))]
    .nil)))))) 142 143 false
    .nil))))))
  (.cond (.t 143)
  (.reg 26 false (.op (some 144) .mov [(.t 24)]
    (.op (some 145) .mov [(.t 4)]
    (.op (some 146) .mov [(.t 25)]
    (.op (some 147) (.idxS 7) [(.t 145), (.t 146)]
    (.op (some 148) (.addr 0) [(.t 147)]
    (.op (some 149) (.ld .heap (.i .i64)) [(.t 148)]
    (.op (some 150) (.bin .shl) [(.k (.c (.int .u64 1))), (.t 149)]
    (.op (some 151) (.bin .andNot) [(.t 144), (.t 150)]
    (.op (some 24) .mov [(.t 151)]
    .nil))))))))))
  .skip)))))
  (.reg 21 false (.op (some 98) .mov [(.t 25)]
    (.op (some 99) (.bin .add) [(.t 98), (.k (.c (.int .i64 1)))]
    (.op (some 25) .mov [(.t 99)]
    .nil))))))
def jacquardlaw21_SleepTells_p4 : IC :=
  (.seq (.reg 27 false (.op (some 152) .mov [(.t 6)]
    (.op (some 153) .mov [(.t 4)]
    (.op (some 154) (.ldAll (.slot 0) 7) [(.t 11)]
    (.op (some 155) .mov [(.t 5)]
    (.op (some 156) (.call 406 [(.i .u64)]) [(.t 152), (.t 153), (.t 154), (.t 155)]
    (.op (some 157) .mov [(.t 24)]
    (.op (some 158) (.bin .eql) [(.t 156), (.t 157)]
    (.op (some 159) .mov [(.t 158)]
    (.sc 159 true (.op (some 160) .mov [(.t 7)]
    (.op (some 161) .mov [(.t 6)]
    (.op (some 162) (.call 368 [.b]) [(.t 160), (.t 161)]
    (.op (some 163) .mov [(.t 6)]
    (.op (some 164) (.bin .eql) [(.t 163), (.k (.c (.int .u64 0)))]
    (.op (some 165) .mov [(.t 164)]
    (.sc 165 false (.op (some 166) .mov [(.t 7)]
    (.op (some 167) .mov [(.t 6)]
    (.op (some 168) (.bin .and) [(.t 166), (.t 167)]
    (.op (some 169) (.bin .neq) [(.t 168), (.k (.c (.int .u64 0)))]
    .nil)))) 169 170 true
    (.op (some 171) (.eqB false) [(.t 162), (.t 170)]
    .nil)))))))) 171 172 false
    (.op (some 173) .mov [(.t 172)]
    (.sc 173 true (.op (some 174) (.call 403 [.b]) []
    .nil) 174 175 false
    (.op (some 16) .mov [(.t 175)]
    .nil)))))))))))))
  .ret)
def jacquardlaw21_SleepTells_p1 : IC :=
  (.seq (.seq (.reg 16 false (.op (some 87) (.ldAll (.slot 1) 65) [(.t 18)]
    (.op (some 88) .mov [(.t 0)]
    (.op (some 89) .mov [(.t 2)]
    (.op (some 90) (.call 408 [(.i .u64)]) [(.t 87), (.t 88), (.t 89)]
    (.op (some 91) .mov [(.t 20)]
    (.op (some 92) (.bin .neq) [(.t 90), (.t 91)]
    .nil)))))))
  (.cond (.t 92)
  (.seq (.reg 17 false (.op (some 16) .mov [(.k (.c (.bool false)))]
    .nil))
  .ret)
  .skip))
  (.seq (.reg 18 false (.op (some 93) .mov [(.t 6)]
    (.op (some 24) .mov [(.t 93)]
    .nil)))
  (.seq (.seq (.reg 19 false (.op (some 25) .mov [(.k (.c (.int .i64 0)))]
    .nil))
  (.blk 4 (.loop [4, 5, 6, 7, 11, 24, 25] [0] [(0, [16], []), (5, [4, 5, 6, 7, 11, 24], [0])] jacquardlaw21_SleepTells_b3)))
  jacquardlaw21_SleepTells_p4)))
def jacquardlaw21_SleepTells : Fn := { np := 8, nt := 176, ns := 2, res := [.t 16 .b], gc := true, code :=
  (.seq (.reg 0 false (.box 11 0 (.t 3)
    (.op (some 16) .mov [(.k (.c (.bool false)))]
    .nil)))
  (.seq (.seq (.reg 1 false (.op (some 27) .mov [(.t 0)]
    (.op (some 28) .len [(.t 27)]
    (.op (some 29) (.bin .gtr) [(.t 28), (.k (.c (.int .i64 64)))]
    (.op (some 30) .mov [(.t 29)]
    (.sc 30 false (.op (some 31) .mov [(.t 4)]
    (.op (some 32) .len [(.t 31)]
    (.op (some 33) (.bin .gtr) [(.t 32), (.k (.c (.int .i64 60)))]
    .nil))) 33 34 true
    .nil))))))
  (.cond (.t 34)
  (.seq (.reg 2 false (.op (some 35) (.call 403 [.b]) []
    (.op (some 16) .mov [(.t 35)]
    .nil)))
  .ret)
  .skip))
  (.seq (.reg 3 false (.op (some 36) .mov [(.t 0)]
    (.op (some 37) .len [(.t 36)]
    (.op (some 17) .mov [(.t 37)]
    .nil))))
  (.seq (.reg 4 false (.op (some 39) .mov [(.t 17)]
    (.op (some 40) .mov [(.t 1)]
    (.op (some 41) (.call 1 [.agg, .agg]) [(.t 39), (.t 40)]
    (.op (some 38) .mov [(.t 41)]
    (.op (some 42) (.ext 0) [(.t 38)]
    (.op (some 43) (.ext 1) [(.t 38)]
    (.al 18 1 ([Cell.int .i64 0] ++ List.replicate 64 (Cell.int .u64 0))
    (.op (some 19) (.allocH ([Cell.int .i64 0] ++ List.replicate 64 (Cell.int .u64 0))) []
    (.op none (.stAll (.slot 1) 65) [(.t 18), (.t 42)]
    (.op none (.stAll .heap 65) [(.t 19), (.t 43)]
    .nil)))))))))))
  (.seq (.reg 5 false (.op (some 20) .mov [(.k (.c (.int .u64 0)))]
    .nil))
  (.seq (.seq (.reg 6 false (.op (some 44) .mov [(.t 2)]
    (.op (some 45) .mx [(.t 44), (.k (.c (.int .i64 0)))]
    (.op (some 21) .mov [(.t 45)]
    .nil))))
  (.blk 0 (.loop [0, 2, 4, 5, 6, 7, 11, 17, 18, 19, 20, 21] [0, 1] [(1, [0, 2, 4, 5, 6, 7, 11, 18, 20], [0, 1])] jacquardlaw21_SleepTells_b2)))
  jacquardlaw21_SleepTells_p1)))))) }


end Jq

namespace Jq
open Go


end Jq

namespace Jq
open Go


end Jq

/- What a function needs of an environment. -/
namespace Jq
open Go


end Jq

namespace Jq
open Go


end Jq

namespace Jq
open Go


end Jq

/- What a function needs of an environment. -/
namespace Jq
open Go


end Jq

namespace Jq
open Go


end Jq

/- What a function needs of an environment. -/
namespace Jq
open Go


end Jq

namespace Jq
open Go


end Jq

/- What a function needs of an environment. -/
namespace Jq
open Go


end Jq

namespace Jq
open Go

/- (*jacquard/jacquardref6.Rel).Has: 7 -/
def jacquardref6_Rel_Has : Fn := { np := 3, nt := 17, ns := 0, res := [.t 6 .b], gc := false, code :=
  (.seq (.reg 0 false (.op (some 6) .mov [(.k (.c (.bool false)))]
    .nil))
  (.seq (.reg 1 false (.op (some 7) .mov [(.t 0)]
    (.op (some 8) .mov [(.t 1)]
    (.op (some 9) .nilchk [(.t 7)]
    (.op (some 10) (.addr 1) [(.t 9)]
    (.op (some 11) (.idxA 64 1) [(.t 10), (.t 8)]
    (.op (some 12) (.ld .heap (.i .u64)) [(.t 11)]
    (.op (some 13) .mov [(.t 2)]
    (.op (some 14) (.bin .shr) [(.t 12), (.t 13)]
    (.op (some 15) (.bin .and) [(.t 14), (.k (.c (.int .u64 1)))]
    (.op (some 16) (.bin .eql) [(.t 15), (.k (.c (.int .u64 1)))]
    (.op (some 6) .mov [(.t 16)]
    .nil))))))))))))
  .ret)) }

/- (*jacquard/jacquardref6.Rel).Add: 13 -/
def jacquardref6_Rel_Add : Fn := { np := 3, nt := 20, ns := 0, res := [], gc := false, code :=
  (.reg 0 true (.op (some 6) .mov [(.t 0)]
    (.op (some 7) .mov [(.t 1)]
    (.op (some 8) .mov [(.t 0)]
    (.op (some 9) .mov [(.t 1)]
    (.op (some 10) .nilchk [(.t 8)]
    (.op (some 11) (.addr 1) [(.t 10)]
    (.op (some 12) (.idxA 64 1) [(.t 11), (.t 9)]
    (.op (some 13) (.ld .heap (.i .u64)) [(.t 12)]
    (.op (some 14) .mov [(.t 2)]
    (.op (some 15) (.bin .shl) [(.k (.c (.int .u64 1))), (.t 14)]
    (.op (some 16) (.bin .or) [(.t 13), (.t 15)]
    (.op (some 17) .nilchk [(.t 6)]
    (.op (some 18) (.addr 1) [(.t 17)]
    (.op (some 19) (.idxA 64 1) [(.t 18), (.t 7)]
    (.op none (.st .heap) [(.t 19), (.t 16)]
    .nil)))))))))))))))) }


end Jq

/- What a function needs of an environment. -/
namespace Jq
open Go

structure jacquardref6_Rel_Add_In (E : Env) : Prop where
  fn : E.fn 13 = some jacquardref6_Rel_Add

structure jacquardref6_Rel_Has_In (E : Env) : Prop where
  fn : E.fn 7 = some jacquardref6_Rel_Has

end Jq

namespace Jq
open Go


end Jq

namespace Jq
open Go


end Jq

/- What a function needs of an environment. -/
namespace Jq
open Go


end Jq

namespace Jq
open Go


end Jq

namespace Jq
open Go


end Jq

namespace Jq
open Go

/- math/bits.TrailingZeros64: 42 -/
def bits_TrailingZeros64 : Fn := { np := 1, nt := 14, ns := 0, res := [.t 2 (.i .i64)], gc := false, code :=
  (.seq (.reg 0 false (.op (some 2) .mov [(.k (.c (.int .i64 0)))]
    .nil))
  (.seq (.seq (.reg 1 false (.op (some 3) .mov [(.t 0)]
    (.op (some 4) (.bin .eql) [(.t 3), (.k (.c (.int .u64 0)))]
    .nil)))
  (.cond (.t 4)
  (.seq (.reg 2 false (.op (some 2) .mov [(.k (.c (.int .i64 64)))]
    .nil))
  .ret)
  .skip))
  (.seq (.reg 3 false (.op (some 5) .mov [(.t 0)]
    (.op (some 6) .mov [(.t 0)]
    (.op (some 7) (.un .neg) [(.t 6)]
    (.op (some 8) (.bin .and) [(.t 5), (.t 7)]
    (.op (some 9) (.bin .mul) [(.t 8), (.k (.c (.int .u64 285870213051353865)))]
    (.op (some 10) (.bin .shr) [(.t 9), (.k (.c (.int .u64 58)))]
    (.op (some 11) (.idxA 64 1) [(.k (.c (.gptr 1 0))), (.t 10)]
    (.op (some 12) (.ld .heap (.i .u8)) [(.t 11)]
    (.op (some 13) (.conv .i64) [(.t 12)]
    (.op (some 2) .mov [(.t 13)]
    .nil)))))))))))
  .ret))) }

/- math/bits.OnesCount64: 57 -/
def bits_OnesCount64 : Fn := { np := 1, nt := 35, ns := 0, res := [.t 2 (.i .i64)], gc := false, code :=
  (.seq (.reg 0 false (.op (some 2) .mov [(.k (.c (.int .i64 0)))]
    .nil))
  (.seq (.reg 1 false (.op (some 3) .mov [(.t 0)]
    (.op (some 4) (.bin .shr) [(.t 3), (.k (.c (.int .u64 1)))]
    (.op (some 5) (.bin .and) [(.t 4), (.k (.c (.int .u64 6148914691236517205)))]
    (.op (some 6) .mov [(.t 0)]
    (.op (some 7) (.bin .and) [(.t 6), (.k (.c (.int .u64 6148914691236517205)))]
    (.op (some 8) (.bin .add) [(.t 5), (.t 7)]
    (.op (some 0) .mov [(.t 8)]
    .nil))))))))
  (.seq (.reg 2 false (.op (some 9) .mov [(.t 0)]
    (.op (some 10) (.bin .shr) [(.t 9), (.k (.c (.int .u64 2)))]
    (.op (some 11) (.bin .and) [(.t 10), (.k (.c (.int .u64 3689348814741910323)))]
    (.op (some 12) .mov [(.t 0)]
    (.op (some 13) (.bin .and) [(.t 12), (.k (.c (.int .u64 3689348814741910323)))]
    (.op (some 14) (.bin .add) [(.t 11), (.t 13)]
    (.op (some 0) .mov [(.t 14)]
    .nil))))))))
  (.seq (.reg 3 false (.op (some 15) .mov [(.t 0)]
    (.op (some 16) (.bin .shr) [(.t 15), (.k (.c (.int .u64 4)))]
    (.op (some 17) .mov [(.t 0)]
    (.op (some 18) (.bin .add) [(.t 16), (.t 17)]
    (.op (some 19) (.bin .and) [(.t 18), (.k (.c (.int .u64 1085102592571150095)))]
    (.op (some 0) .mov [(.t 19)]
    .nil)))))))
  (.seq (.reg 4 false (.op (some 20) .mov [(.t 0)]
    (.op (some 21) .mov [(.t 0)]
    (.op (some 22) (.bin .shr) [(.t 21), (.k (.c (.int .u64 8)))]
    (.op (some 23) (.bin .add) [(.t 20), (.t 22)]
    (.op (some 0) .mov [(.t 23)]
    .nil))))))
  (.seq (.reg 5 false (.op (some 24) .mov [(.t 0)]
    (.op (some 25) .mov [(.t 0)]
    (.op (some 26) (.bin .shr) [(.t 25), (.k (.c (.int .u64 16)))]
    (.op (some 27) (.bin .add) [(.t 24), (.t 26)]
    (.op (some 0) .mov [(.t 27)]
    .nil))))))
  (.seq (.reg 6 false (.op (some 28) .mov [(.t 0)]
    (.op (some 29) .mov [(.t 0)]
    (.op (some 30) (.bin .shr) [(.t 29), (.k (.c (.int .u64 32)))]
    (.op (some 31) (.bin .add) [(.t 28), (.t 30)]
    (.op (some 0) .mov [(.t 31)]
    .nil))))))
  (.seq (.reg 7 false (.op (some 32) .mov [(.t 0)]
    (.op (some 33) (.conv .i64) [(.t 32)]
    (.op (some 34) (.bin .and) [(.t 33), (.k (.c (.int .i64 127)))]
    (.op (some 2) .mov [(.t 34)]
    .nil)))))
  .ret)))))))) }


end Jq

/- What a function needs of an environment. -/
namespace Jq
open Go

structure bits_TrailingZeros64_In (E : Env) : Prop where
  fn : E.fn 42 = some bits_TrailingZeros64

structure bits_OnesCount64_In (E : Env) : Prop where
  fn : E.fn 57 = some bits_OnesCount64

end Jq

namespace Jq
open Go


end Jq

/- What a function needs of an environment. -/
namespace Jq
open Go


end Jq

/- What a function needs of an environment. -/
namespace Jq
open Go


end Jq

/- What a function needs of an environment. -/
namespace Jq
open Go


end Jq

namespace Jq
open Go


end Jq

/- What a function needs of an environment. -/
namespace Jq
open Go


end Jq

/- What a function needs of an environment. -/
namespace Jq
open Go


end Jq

/- What a function needs of an environment. -/
namespace Jq
open Go


end Jq

namespace Jq
open Go

/- jacquard/jacquardref16.Writes: 176 -/
def jacquardref16_Writes : Fn := { np := 2, nt := 22, ns := 1, res := [.t 4 .b], gc := false, code :=
  (.seq (.reg 0 false (.box 2 0 (.t 0)
    (.op (some 4) .mov [(.k (.c (.bool false)))]
    .nil)))
  (.seq (.reg 1 false (.op (some 5) (.addr 2) [(.t 2)]
    (.op (some 6) (.ld (.slot 0) (.i .i64)) [(.t 5)]
    (.op (some 7) (.bin .eql) [(.t 6), (.k (.c (.int .i64 6)))]
    (.op (some 8) .mov [(.t 7)]
    (.sc 8 false (.op (some 9) (.addr 2) [(.t 2)]
    (.op (some 10) (.ld (.slot 0) (.i .i64)) [(.t 9)]
    (.op (some 11) (.bin .eql) [(.t 10), (.k (.c (.int .i64 4)))]
    .nil))) 11 12 true
    (.op (some 13) .mov [(.t 12)]
    (.sc 13 false (.op (some 14) (.addr 2) [(.t 2)]
    (.op (some 15) (.ld (.slot 0) (.i .i64)) [(.t 14)]
    (.op (some 16) (.bin .eql) [(.t 15), (.k (.c (.int .i64 2)))]
    (.op (some 17) .mov [(.t 16)]
    (.sc 17 true (.op (some 18) .mov [(.t 1)]
    (.op (some 19) (.bin .eql) [(.t 18), (.k (.c (.int .i64 1)))]
    .nil)) 19 20 false
    .nil))))) 20 21 true
    (.op (some 4) .mov [(.t 21)]
    .nil)))))))))
  .ret)) }

/- jacquard/jacquardref16.Clash: 409 -/
def jacquardref16_Clash : Fn := { np := 3, nt := 62, ns := 2, res := [.t 6 .b], gc := false, code :=
  (.seq (.reg 0 false (.box 3 0 (.t 0)
    (.box 4 1 (.t 1)
    (.op (some 6) .mov [(.k (.c (.bool false)))]
    .nil))))
  (.seq (.seq (.reg 1 false (.op (some 9) (.addr 0) [(.t 3)]
    (.op (some 10) (.ld (.slot 0) (.i .i64)) [(.t 9)]
    (.op (some 11) (.addr 0) [(.t 4)]
    (.op (some 12) (.ld (.slot 1) (.i .i64)) [(.t 11)]
    (.op (some 13) (.bin .eql) [(.t 10), (.t 12)]
    .nil))))))
  (.cond (.t 13)
  (.seq (.reg 2 false (.op (some 6) .mov [(.k (.c (.bool true)))]
    .nil))
  .ret)
  .skip))
  (.seq (.seq (.reg 3 false (.op (some 14) (.addr 1) [(.t 3)]
    (.op (some 15) (.ld (.slot 0) (.i .i64)) [(.t 14)]
    (.op (some 16) (.addr 1) [(.t 4)]
    (.op (some 17) (.ld (.slot 1) (.i .i64)) [(.t 16)]
    (.op (some 18) (.bin .eql) [(.t 15), (.t 17)]
    .nil))))))
  (.cond (.t 18)
  (.seq (.reg 4 false (.op (some 19) (.ldAll (.slot 0) 7) [(.t 3)]
    (.op (some 20) (.ldAll (.slot 1) 7) [(.t 4)]
    (.op (some 21) (.call 411 [.b]) [(.t 19), (.t 20)]
    (.op (some 22) .mov [(.t 21)]
    (.sc 22 false (.op (some 23) (.ldAll (.slot 1) 7) [(.t 4)]
    (.op (some 24) (.ldAll (.slot 0) 7) [(.t 3)]
    (.op (some 25) (.call 411 [.b]) [(.t 23), (.t 24)]
    .nil))) 25 26 true
    (.op (some 6) .mov [(.t 26)]
    .nil)))))))
  .ret)
  .skip))
  (.seq (.reg 5 true (.op (some 27) (.ldAll (.slot 0) 7) [(.t 3)]
    (.op (some 28) .mov [(.t 2)]
    (.op (some 29) (.qcall 176 [.b]) [(.t 27), (.t 28)]
    (.op (some 30) .mov [(.t 29)]
    (.sc 30 false (.op (some 31) (.ldAll (.slot 0) 7) [(.t 3)]
    (.op (some 32) (.qcall 412 [.b]) [(.t 31)]
    .nil)) 32 33 true
    (.op (some 34) (.ldAll (.slot 1) 7) [(.t 4)]
    (.op (some 35) .mov [(.t 2)]
    (.op (some 36) (.qcall 176 [.b]) [(.t 34), (.t 35)]
    (.op (some 37) .mov [(.t 36)]
    (.sc 37 false (.op (some 38) (.ldAll (.slot 1) 7) [(.t 4)]
    (.op (some 39) (.qcall 412 [.b]) [(.t 38)]
    .nil)) 39 40 true
    (.op (some 7) .mov [(.t 33)]
    (.op (some 8) .mov [(.t 40)]
    .nil)))))))))))))
  (.seq (.reg 6 false (.op (some 41) .mov [(.t 7)]
    (.op (some 42) .mov [(.t 41)]
    (.sc 42 true (.op (some 43) .mov [(.t 8)]
    .nil) 43 44 false
    (.op (some 45) .mov [(.t 44)]
    (.sc 45 true (.op (some 46) (.addr 3) [(.t 3)]
    (.op (some 47) (.ld (.slot 0) (.i .i64)) [(.t 46)]
    (.op (some 48) (.addr 3) [(.t 4)]
    (.op (some 49) (.ld (.slot 1) (.i .i64)) [(.t 48)]
    (.op (some 50) (.bin .eql) [(.t 47), (.t 49)]
    .nil))))) 50 51 false
    (.op (some 52) .mov [(.t 51)]
    (.sc 52 true (.op (some 53) (.ldAll (.slot 0) 7) [(.t 3)]
    (.op (some 54) .mov [(.t 2)]
    (.op (some 55) (.call 176 [.b]) [(.t 53), (.t 54)]
    (.op (some 56) .mov [(.t 55)]
    (.sc 56 false (.op (some 57) (.ldAll (.slot 1) 7) [(.t 4)]
    (.op (some 58) .mov [(.t 2)]
    (.op (some 59) (.call 176 [.b]) [(.t 57), (.t 58)]
    .nil))) 59 60 true
    .nil))))) 60 61 false
    (.op (some 6) .mov [(.t 61)]
    .nil)))))))))
  .ret))))) }

/- jacquard/jacquardref16.own: 411 -/
def jacquardref16_own : Fn := { np := 2, nt := 23, ns := 2, res := [.t 4 .b], gc := false, code :=
  (.seq (.reg 0 false (.box 2 0 (.t 0)
    (.box 3 1 (.t 1)
    (.op (some 4) .mov [(.k (.c (.bool false)))]
    .nil))))
  (.seq (.reg 1 false (.op (some 5) (.addr 2) [(.t 2)]
    (.op (some 6) (.ld (.slot 0) (.i .i64)) [(.t 5)]
    (.op (some 7) (.bin .eql) [(.t 6), (.k (.c (.int .i64 6)))]
    (.op (some 8) .mov [(.t 7)]
    (.sc 8 true (.op (some 9) (.addr 2) [(.t 3)]
    (.op (some 10) (.ld (.slot 1) (.i .i64)) [(.t 9)]
    (.op (some 11) (.bin .eql) [(.t 10), (.k (.c (.int .i64 3)))]
    (.op (some 12) .mov [(.t 11)]
    (.sc 12 false (.op (some 13) (.addr 2) [(.t 3)]
    (.op (some 14) (.ld (.slot 1) (.i .i64)) [(.t 13)]
    (.op (some 15) (.bin .eql) [(.t 14), (.k (.c (.int .i64 4)))]
    .nil))) 15 16 true
    (.op (some 17) .mov [(.t 16)]
    (.sc 17 false (.op (some 18) (.addr 2) [(.t 3)]
    (.op (some 19) (.ld (.slot 1) (.i .i64)) [(.t 18)]
    (.op (some 20) (.bin .eql) [(.t 19), (.k (.c (.int .i64 5)))]
    .nil))) 20 21 true
    .nil))))))) 21 22 false
    (.op (some 4) .mov [(.t 22)]
    .nil)))))))
  .ret)) }

/- jacquard/jacquardref16.reads: 412 -/
def jacquardref16_reads : Fn := { np := 1, nt := 16, ns := 1, res := [.t 2 .b], gc := false, code :=
  (.seq (.reg 0 false (.box 1 0 (.t 0)
    (.op (some 2) .mov [(.k (.c (.bool false)))]
    .nil)))
  (.seq (.reg 1 false (.op (some 3) (.addr 2) [(.t 1)]
    (.op (some 4) (.ld (.slot 0) (.i .i64)) [(.t 3)]
    (.op (some 5) (.bin .eql) [(.t 4), (.k (.c (.int .i64 1)))]
    (.op (some 6) .mov [(.t 5)]
    (.sc 6 false (.op (some 7) (.addr 2) [(.t 1)]
    (.op (some 8) (.ld (.slot 0) (.i .i64)) [(.t 7)]
    (.op (some 9) (.bin .eql) [(.t 8), (.k (.c (.int .i64 4)))]
    .nil))) 9 10 true
    (.op (some 11) .mov [(.t 10)]
    (.sc 11 false (.op (some 12) (.addr 2) [(.t 1)]
    (.op (some 13) (.ld (.slot 0) (.i .i64)) [(.t 12)]
    (.op (some 14) (.bin .eql) [(.t 13), (.k (.c (.int .i64 5)))]
    .nil))) 14 15 true
    (.op (some 2) .mov [(.t 15)]
    .nil)))))))))
  .ret)) }


end Jq

/- What a function needs of an environment. -/
namespace Jq
open Go

structure jacquardref16_Writes_In (E : Env) : Prop where
  fn : E.fn 176 = some jacquardref16_Writes

structure jacquardref16_own_In (E : Env) : Prop where
  fn : E.fn 411 = some jacquardref16_own

structure jacquardref16_reads_In (E : Env) : Prop where
  fn : E.fn 412 = some jacquardref16_reads

structure jacquardref16_Clash_In (E : Env) : Prop where
  fn : E.fn 409 = some jacquardref16_Clash
  c176 : jacquardref16_Writes_In E
  c411 : jacquardref16_own_In E
  c412 : jacquardref16_reads_In E

end Jq

namespace Jq
open Go


end Jq

namespace Jq
open Go

/- (jacquard/set.Set).Has: 17 -/
def set_Set_Has : Fn := { np := 2, nt := 10, ns := 0, res := [.t 4 .b], gc := false, code :=
  (.seq (.reg 0 false (.op (some 4) .mov [(.k (.c (.bool false)))]
    .nil))
  (.seq (.reg 1 false (.op (some 5) .mov [(.t 0)]
    (.op (some 6) .mov [(.t 1)]
    (.op (some 7) (.call 19 [(.i .u64)]) [(.t 6)]
    (.op (some 8) (.bin .and) [(.t 5), (.t 7)]
    (.op (some 9) (.bin .neq) [(.t 8), (.k (.c (.int .u64 0)))]
    (.op (some 4) .mov [(.t 9)]
    .nil)))))))
  .ret)) }

/- (jacquard/set.Set).With: 18 -/
def set_Set_With : Fn := { np := 2, nt := 9, ns := 0, res := [.t 4 (.i .u64)], gc := false, code :=
  (.seq (.reg 0 false (.op (some 4) .mov [(.k (.c (.int .u64 0)))]
    .nil))
  (.seq (.reg 1 false (.op (some 5) .mov [(.t 0)]
    (.op (some 6) .mov [(.t 1)]
    (.op (some 7) (.call 19 [(.i .u64)]) [(.t 6)]
    (.op (some 8) (.bin .or) [(.t 5), (.t 7)]
    (.op (some 4) .mov [(.t 8)]
    .nil))))))
  .ret)) }

/- jacquard/set.bit: 19 -/
def set_bit : Fn := { np := 1, nt := 12, ns := 0, res := [.t 2 (.i .u64)], gc := false, code :=
  (.seq (.reg 0 false (.op (some 2) .mov [(.k (.c (.int .u64 0)))]
    .nil))
  (.seq (.seq (.reg 1 false (.op (some 3) .mov [(.t 0)]
    (.op (some 4) (.bin .lss) [(.t 3), (.k (.c (.int .i64 0)))]
    (.op (some 5) .mov [(.t 4)]
    (.sc 5 false (.op (some 6) .mov [(.t 0)]
    (.op (some 7) (.bin .geq) [(.t 6), (.k (.c (.int .i64 64)))]
    .nil)) 7 8 true
    .nil)))))
  (.cond (.t 8)
  (.seq (.reg 2 false (.op (some 2) .mov [(.k (.c (.int .u64 0)))]
    .nil))
  .ret)
  .skip))
  (.seq (.reg 3 false (.op (some 9) .mov [(.t 0)]
    (.op (some 10) (.conv .u64) [(.t 9)]
    (.op (some 11) (.bin .shl) [(.k (.c (.int .u64 1))), (.t 10)]
    (.op (some 2) .mov [(.t 11)]
    .nil)))))
  .ret))) }

/- (jacquard/set.Set).List: 32 -/
def set_Set_List_b1 : IC :=
  (.seq (.seq (.reg 2 false (.op (some 4) .mov [(.t 0)]
    (.op (some 5) (.bin .neq) [(.t 4), (.k (.c (.int .u64 0)))]
    .nil)))
  (.cond (.t 5)
  .skip
  (.exit 0)))
  (.seq (.blk 1 (.reg 4 false (.op (some 10) .mov [(.t 3)]
    (.op (some 11) .mov [(.t 0)]
    (.op (some 12) (.call 38 [(.i .i64)]) [(.t 11)]
    (.op (some 13) (.lit 1 1 ([Cell.int .i64 0]) [(0, 1)]) [(.t 12)]
    (.op (some 14) (.app 1 8) [(.t 10), (.t 13)]
    (.op (some 3) .mov [(.t 14)]
    .nil))))))))
  (.reg 3 false (.op (some 6) .mov [(.t 0)]
    (.op (some 7) .mov [(.t 0)]
    (.op (some 8) (.bin .sub) [(.t 7), (.k (.c (.int .u64 1)))]
    (.op (some 9) (.bin .and) [(.t 6), (.t 8)]
    (.op (some 0) .mov [(.t 9)]
    .nil))))))))
def set_Set_List_p1 : IC :=
  (.seq (.reg 5 false (.op (some 15) .mov [(.t 3)]
    (.op (some 2) .mov [(.t 15)]
    .nil)))
  .ret)
def set_Set_List : Fn := { np := 1, nt := 16, ns := 0, res := [.t 2 .any], gc := false, code :=
  (.seq (.reg 0 false (.op (some 2) .mov [(.k (.c .nils))]
    .nil))
  (.seq (.reg 1 false (.op (some 3) .mov [(.k (.c .nils))]
    .nil))
  (.seq (.blk 0 (.loop [0, 3] [] [(1, [3], [])] set_Set_List_b1))
  set_Set_List_p1))) }

/- (jacquard/set.Set).First: 38 -/
def set_Set_First : Fn := { np := 1, nt := 7, ns := 0, res := [.t 2 (.i .i64)], gc := false, code :=
  (.seq (.reg 0 false (.op (some 2) .mov [(.k (.c (.int .i64 0)))]
    .nil))
  (.seq (.seq (.reg 1 false (.op (some 3) .mov [(.t 0)]
    (.op (some 4) (.bin .eql) [(.t 3), (.k (.c (.int .u64 0)))]
    .nil)))
  (.cond (.t 4)
  (.seq (.reg 2 false (.op (some 2) .mov [(.k (.c (.int .i64 (-1))))]
    .nil))
  .ret)
  .skip))
  (.seq (.reg 3 false (.op (some 5) .mov [(.t 0)]
    (.op (some 6) (.call 42 [(.i .i64)]) [(.t 5)]
    (.op (some 2) .mov [(.t 6)]
    .nil))))
  .ret))) }

/- (jacquard/set.Set).Len: 56 -/
def set_Set_Len : Fn := { np := 1, nt := 5, ns := 0, res := [.t 2 (.i .i64)], gc := false, code :=
  (.seq (.reg 0 false (.op (some 2) .mov [(.k (.c (.int .i64 0)))]
    .nil))
  (.seq (.reg 1 false (.op (some 3) .mov [(.t 0)]
    (.op (some 4) (.call 57 [(.i .i64)]) [(.t 3)]
    (.op (some 2) .mov [(.t 4)]
    .nil))))
  .ret)) }

/- (jacquard/set.Set).Next: 60 -/
def set_Set_Next : Fn := { np := 1, nt := 26, ns := 0, res := [.t 2 (.i .u64)], gc := false, code :=
  (.seq (.reg 0 false (.op (some 2) .mov [(.k (.c (.int .u64 0)))]
    .nil))
  (.seq (.seq (.reg 1 false (.op (some 5) .mov [(.t 0)]
    (.op (some 6) (.bin .eql) [(.t 5), (.k (.c (.int .u64 0)))]
    .nil)))
  (.cond (.t 6)
  (.seq (.reg 2 false (.op (some 2) .mov [(.k (.c (.int .u64 0)))]
    .nil))
  .ret)
  .skip))
  (.seq (.reg 3 false (.op (some 7) .mov [(.t 0)]
    (.op (some 8) .mov [(.t 0)]
    (.op (some 9) (.un .neg) [(.t 8)]
    (.op (some 10) (.bin .and) [(.t 7), (.t 9)]
    (.op (some 3) .mov [(.t 10)]
    .nil))))))
  (.seq (.reg 4 false (.op (some 11) .mov [(.t 0)]
    (.op (some 12) .mov [(.t 3)]
    (.op (some 13) (.bin .add) [(.t 11), (.t 12)]
    (.op (some 4) .mov [(.t 13)]
    .nil)))))
  (.seq (.seq (.reg 5 false (.op (some 14) .mov [(.t 4)]
    (.op (some 15) (.bin .eql) [(.t 14), (.k (.c (.int .u64 0)))]
    .nil)))
  (.cond (.t 15)
  (.seq (.reg 6 false (.op (some 2) .mov [(.k (.c (.int .u64 0)))]
    .nil))
  .ret)
  .skip))
  (.seq (.reg 7 false (.op (some 16) .mov [(.t 4)]
    (.op (some 17) .mov [(.t 0)]
    (.op (some 18) .mov [(.t 4)]
    (.op (some 19) (.bin .xor) [(.t 17), (.t 18)]
    (.op (some 20) (.bin .shr) [(.t 19), (.k (.c (.int .u64 2)))]
    (.op (some 21) .mov [(.t 3)]
    (.op (some 22) (.call 38 [(.i .i64)]) [(.t 21)]
    (.op (some 23) (.conv .u64) [(.t 22)]
    (.op (some 24) (.bin .shr) [(.t 20), (.t 23)]
    (.op (some 25) (.bin .or) [(.t 16), (.t 24)]
    (.op (some 2) .mov [(.t 25)]
    .nil))))))))))))
  .ret)))))) }

/- jacquard/set.Upto: 61 -/
def set_Upto : Fn := { np := 1, nt := 12, ns := 0, res := [.t 2 (.i .u64)], gc := false, code :=
  (.seq (.reg 0 false (.op (some 2) .mov [(.k (.c (.int .u64 0)))]
    .nil))
  (.seq (.reg 1 false (.op (some 3) .mov [(.t 0)]
    (.op (some 4) .mx [(.t 3), (.k (.c (.int .i64 0)))]
    (.op (some 5) .mn [(.t 4), (.k (.c (.int .i64 64)))]
    (.op (some 0) .mov [(.t 5)]
    .nil)))))
  (.seq (.seq (.reg 2 false (.op (some 6) .mov [(.t 0)]
    (.op (some 7) (.bin .eql) [(.t 6), (.k (.c (.int .i64 64)))]
    .nil)))
  (.cond (.t 7)
  (.seq (.reg 3 false (.op (some 2) .mov [(.k (.c (.int .u64 18446744073709551615)))]
    .nil))
  .ret)
  .skip))
  (.seq (.reg 4 false (.op (some 8) .mov [(.t 0)]
    (.op (some 9) (.conv .u64) [(.t 8)]
    (.op (some 10) (.bin .shl) [(.k (.c (.int .u64 1))), (.t 9)]
    (.op (some 11) (.bin .sub) [(.t 10), (.k (.c (.int .u64 1)))]
    (.op (some 2) .mov [(.t 11)]
    .nil))))))
  .ret)))) }

/- (jacquard/set.Set).Without: 63 -/
def set_Set_Without : Fn := { np := 2, nt := 9, ns := 0, res := [.t 4 (.i .u64)], gc := false, code :=
  (.seq (.reg 0 false (.op (some 4) .mov [(.k (.c (.int .u64 0)))]
    .nil))
  (.seq (.reg 1 false (.op (some 5) .mov [(.t 0)]
    (.op (some 6) .mov [(.t 1)]
    (.op (some 7) (.call 19 [(.i .u64)]) [(.t 6)]
    (.op (some 8) (.bin .andNot) [(.t 5), (.t 7)]
    (.op (some 4) .mov [(.t 8)]
    .nil))))))
  .ret)) }

/- jacquard/set.Of: 65 -/
def set_Of_b1 : IC :=
  (.seq (.reg 3 false (.op (some 9) (.bin .lss) [(.t 8), (.t 7)]
    .nil))
  (.seq (.cond (.t 9)
  .skip
  (.exit 0))
  (.seq (.blk 1 (.seq (.reg 4 false (.op (some 10) (.idxS 1) [(.t 6), (.t 8)]
    (.op (some 11) (.ld .heap (.i .i64)) [(.t 10)]
    (.op (some 5) .mov [(.t 11)]
    .nil))))
  (.reg 5 false (.op (some 12) .mov [(.t 3)]
    (.op (some 13) .mov [(.t 5)]
    (.op (some 14) (.call 18 [(.i .u64)]) [(.t 12), (.t 13)]
    (.op (some 3) .mov [(.t 14)]
    .nil)))))))
  (.reg 6 false (.op (some 15) (.bin .add) [(.t 8), (.k (.c (.int .i64 1)))]
    (.op (some 8) .mov [(.t 15)]
    .nil))))))
def set_Of_p1 : IC :=
  (.seq (.reg 7 false (.op (some 16) .mov [(.t 3)]
    (.op (some 2) .mov [(.t 16)]
    .nil)))
  .ret)
def set_Of : Fn := { np := 1, nt := 17, ns := 0, res := [.t 2 (.i .u64)], gc := false, code :=
  (.seq (.reg 0 false (.op (some 2) .mov [(.k (.c (.int .u64 0)))]
    .nil))
  (.seq (.reg 1 false (.op (some 3) .mov [(.k (.c (.int .u64 0)))]
    .nil))
  (.seq (.seq (.reg 2 false (.op (some 6) .mov [(.t 0)]
    (.op (some 7) .len [(.t 6)]
    (.op (some 8) .mov [(.k (.c (.int .i64 0)))]
    .nil))))
  (.blk 0 (.loop [3, 6, 7, 8] [] [(1, [3], [])] set_Of_b1)))
  set_Of_p1))) }


end Jq

/- What a function needs of an environment. -/
namespace Jq
open Go

structure set_bit_In (E : Env) : Prop where
  fn : E.fn 19 = some set_bit

structure set_Set_With_In (E : Env) : Prop where
  fn : E.fn 18 = some set_Set_With
  c19 : set_bit_In E

structure set_Set_Has_In (E : Env) : Prop where
  fn : E.fn 17 = some set_Set_Has
  c19 : set_bit_In E

structure set_Set_First_In (E : Env) : Prop where
  fn : E.fn 38 = some set_Set_First
  c42 : bits_TrailingZeros64_In E

structure set_Set_List_In (E : Env) : Prop where
  fn : E.fn 32 = some set_Set_List
  c38 : set_Set_First_In E

structure set_Set_Len_In (E : Env) : Prop where
  fn : E.fn 56 = some set_Set_Len
  c57 : bits_OnesCount64_In E

structure set_Upto_In (E : Env) : Prop where
  fn : E.fn 61 = some set_Upto

structure set_Set_Next_In (E : Env) : Prop where
  fn : E.fn 60 = some set_Set_Next
  c38 : set_Set_First_In E

structure set_Of_In (E : Env) : Prop where
  fn : E.fn 65 = some set_Of
  c18 : set_Set_With_In E

structure set_Set_Without_In (E : Env) : Prop where
  fn : E.fn 63 = some set_Set_Without
  c19 : set_bit_In E

end Jq

namespace Jq
open Go


end Jq

namespace Jq
open Go


end Jq

/- What a function needs of an environment. -/
namespace Jq
open Go


end Jq

/- What a function needs of an environment. -/
namespace Jq
open Go


end Jq

namespace Jq
open Go


end Jq

namespace Jq
open Go


end Jq

/- What a function needs of an environment. -/
namespace Jq
open Go


end Jq

namespace Jq
open Go


end Jq

namespace Jq
open Go

/- (jacquard/rel.Rel).Has: 3 -/
def rel_Rel_Has : Fn := { np := 3, nt := 18, ns := 1, res := [.t 6 .b], gc := false, code :=
  (.seq (.reg 0 false (.box 3 0 (.t 0)
    (.op (some 6) .mov [(.k (.c (.bool false)))]
    .nil)))
  (.seq (.reg 1 false (.op (some 7) (.ldAll (.slot 0) 65) [(.t 3)]
    (.op (some 8) .mov [(.t 1)]
    (.op (some 9) (.call 16 [.b]) [(.t 7), (.t 8)]
    (.op (some 10) .mov [(.t 9)]
    (.sc 10 true (.op (some 11) .mov [(.t 1)]
    (.op (some 12) (.addr 1) [(.t 3)]
    (.op (some 13) (.idxA 64 1) [(.t 12), (.t 11)]
    (.op (some 14) (.ld (.slot 0) (.i .u64)) [(.t 13)]
    (.op (some 15) .mov [(.t 2)]
    (.op (some 16) (.call 17 [.b]) [(.t 14), (.t 15)]
    .nil)))))) 16 17 false
    (.op (some 6) .mov [(.t 17)]
    .nil)))))))
  .ret)) }

/- jacquard/rel.New: 9 -/
def rel_New : Fn := { np := 1, nt := 7, ns := 1, res := [.all (.slot 0) 2 65], gc := false, code :=
  (.seq (.reg 0 false (.al 2 0 ([Cell.int .i64 0] ++ List.replicate 64 (Cell.int .u64 0))
    .nil))
  (.seq (.reg 1 false (.op (some 3) .mov [(.t 0)]
    (.op (some 4) .mx [(.t 3), (.k (.c (.int .i64 0)))]
    (.op (some 5) .mn [(.t 4), (.k (.c (.int .i64 64)))]
    (.op (some 6) (.build ([Cell.int .i64 0] ++ List.replicate 64 (Cell.int .u64 0)) [(0, 1)]) [(.t 5)]
    (.op none (.stAll (.slot 0) 65) [(.t 2), (.t 6)]
    .nil))))))
  .ret)) }

/- (jacquard/rel.Rel).Add: 10 -/
def rel_Rel_Add : Fn := { np := 3, nt := 25, ns := 2, res := [.all (.slot 1) 6 65], gc := false, code :=
  (.seq (.reg 0 false (.box 3 0 (.t 0)
    (.al 6 1 ([Cell.int .i64 0] ++ List.replicate 64 (Cell.int .u64 0))
    .nil)))
  (.seq (.seq (.reg 1 false (.op (some 7) (.ldAll (.slot 0) 65) [(.t 3)]
    (.op (some 8) .mov [(.t 1)]
    (.op (some 9) (.call 16 [.b]) [(.t 7), (.t 8)]
    (.op (some 10) .mov [(.t 9)]
    (.sc 10 true (.op (some 11) (.ldAll (.slot 0) 65) [(.t 3)]
    (.op (some 12) .mov [(.t 2)]
    (.op (some 13) (.call 16 [.b]) [(.t 11), (.t 12)]
    .nil))) 13 14 false
    .nil))))))
  (.cond (.t 14)
  (.reg 2 false (.op (some 15) .mov [(.t 1)]
    (.op (some 16) .mov [(.t 1)]
    (.op (some 17) (.addr 1) [(.t 3)]
    (.op (some 18) (.idxA 64 1) [(.t 17), (.t 16)]
    (.op (some 19) (.ld (.slot 0) (.i .u64)) [(.t 18)]
    (.op (some 20) .mov [(.t 2)]
    (.op (some 21) (.call 18 [(.i .u64)]) [(.t 19), (.t 20)]
    (.op (some 22) (.addr 1) [(.t 3)]
    (.op (some 23) (.idxA 64 1) [(.t 22), (.t 15)]
    (.op none (.st (.slot 0)) [(.t 23), (.t 21)]
    .nil)))))))))))
  .skip))
  (.seq (.reg 3 false (.op (some 24) (.ldAll (.slot 0) 65) [(.t 3)]
    (.op none (.stAll (.slot 1) 65) [(.t 6), (.t 24)]
    .nil)))
  .ret))) }

/- (jacquard/rel.Rel).Closure: 12 -/
def rel_Rel_Closure_b1 : IC :=
  (.seq (.reg 5 false (.op (some 13) (.bin .lss) [(.t 12), (.t 11)]
    .nil))
  (.seq (.cond (.t 13)
  .skip
  (.exit 2))
  (.seq (.blk 3 (.seq (.reg 6 false (.op (some 14) .mov [(.t 12)]
    (.op (some 4) .mov [(.t 14)]
    .nil)))
  (.seq (.reg 7 false (.op (some 15) .mov [(.t 4)]
    (.op (some 16) (.addr 1) [(.t 1)]
    (.op (some 17) (.idxA 64 1) [(.t 16), (.t 15)]
    (.op (some 18) (.ld (.slot 0) (.i .u64)) [(.t 17)]
    (.op (some 19) .mov [(.t 3)]
    (.op (some 20) (.call 17 [.b]) [(.t 18), (.t 19)]
    .nil)))))))
  (.cond (.t 20)
  (.reg 8 true (.op (some 21) .mov [(.t 4)]
    (.op (some 22) (.addr 1) [(.t 1)]
    (.op (some 23) (.idxA 64 1) [(.t 22), (.t 21)]
    (.op (some 24) (.ld (.slot 0) (.i .u64)) [(.t 23)]
    (.op (some 25) .mov [(.t 3)]
    (.op (some 26) (.addr 1) [(.t 1)]
    (.op (some 27) (.idxA 64 1) [(.t 26), (.t 25)]
    (.op (some 28) (.ld (.slot 0) (.i .u64)) [(.t 27)]
    (.op (some 29) (.bin .or) [(.t 24), (.t 28)]
    (.op (some 30) (.addr 1) [(.t 1)]
    (.op (some 31) (.idxA 64 1) [(.t 30), (.t 21)]
    (.op none (.st (.slot 0)) [(.t 31), (.t 29)]
    .nil)))))))))))))
  .skip))))
  (.reg 9 false (.op (some 32) (.bin .add) [(.t 12), (.k (.c (.int .i64 1)))]
    (.op (some 12) .mov [(.t 32)]
    .nil))))))
def rel_Rel_Closure_p2 : IC :=
  (.reg 10 false (.op (some 33) (.bin .add) [(.t 7), (.k (.c (.int .i64 1)))]
    (.op (some 7) .mov [(.t 33)]
    .nil)))
def rel_Rel_Closure_b2 : IC :=
  (.seq (.reg 2 false (.op (some 8) (.bin .lss) [(.t 7), (.t 6)]
    .nil))
  (.seq (.cond (.t 8)
  .skip
  (.exit 0))
  (.seq (.blk 1 (.seq (.reg 3 false (.op (some 9) .mov [(.t 7)]
    (.op (some 3) .mov [(.t 9)]
    .nil)))
  (.seq (.reg 4 false (.op (some 10) (.addr 0) [(.t 1)]
    (.op (some 11) (.ld (.slot 0) (.i .i64)) [(.t 10)]
    (.op (some 12) .mov [(.k (.c (.int .i64 0)))]
    .nil))))
  (.blk 2 (.loop [1, 2, 3, 6, 7, 11, 12] [0, 1] [(3, [1, 2, 6, 7], [0, 1])] rel_Rel_Closure_b1)))))
  rel_Rel_Closure_p2)))
def rel_Rel_Closure_p1 : IC :=
  (.seq (.reg 11 false (.op (some 34) (.ldAll (.slot 0) 65) [(.t 1)]
    (.op none (.stAll (.slot 1) 65) [(.t 2), (.t 34)]
    .nil)))
  .ret)
def rel_Rel_Closure : Fn := { np := 1, nt := 35, ns := 2, res := [.all (.slot 1) 2 65], gc := false, code :=
  (.seq (.reg 0 false (.box 1 0 (.t 0)
    (.al 2 1 ([Cell.int .i64 0] ++ List.replicate 64 (Cell.int .u64 0))
    .nil)))
  (.seq (.seq (.reg 1 false (.op (some 5) (.addr 0) [(.t 1)]
    (.op (some 6) (.ld (.slot 0) (.i .i64)) [(.t 5)]
    (.op (some 7) .mov [(.k (.c (.int .i64 0)))]
    .nil))))
  (.blk 0 (.loop [1, 2, 6, 7] [0, 1] [(1, [1, 2], [0, 1])] rel_Rel_Closure_b2)))
  rel_Rel_Closure_p1)) }

/- (jacquard/rel.Rel).N: 14 -/
def rel_Rel_N : Fn := { np := 1, nt := 5, ns := 1, res := [.t 2 (.i .i64)], gc := false, code :=
  (.seq (.reg 0 false (.box 1 0 (.t 0)
    (.op (some 2) .mov [(.k (.c (.int .i64 0)))]
    .nil)))
  (.seq (.reg 1 false (.op (some 3) (.addr 0) [(.t 1)]
    (.op (some 4) (.ld (.slot 0) (.i .i64)) [(.t 3)]
    (.op (some 2) .mov [(.t 4)]
    .nil))))
  .ret)) }

/- (jacquard/rel.Rel).in: 16 -/
def rel_Rel_in : Fn := { np := 2, nt := 13, ns := 1, res := [.t 4 .b], gc := false, code :=
  (.seq (.reg 0 false (.box 2 0 (.t 0)
    (.op (some 4) .mov [(.k (.c (.bool false)))]
    .nil)))
  (.seq (.reg 1 false (.op (some 5) .mov [(.t 1)]
    (.op (some 6) (.bin .geq) [(.t 5), (.k (.c (.int .i64 0)))]
    (.op (some 7) .mov [(.t 6)]
    (.sc 7 true (.op (some 8) .mov [(.t 1)]
    (.op (some 9) (.addr 0) [(.t 2)]
    (.op (some 10) (.ld (.slot 0) (.i .i64)) [(.t 9)]
    (.op (some 11) (.bin .lss) [(.t 8), (.t 10)]
    .nil)))) 11 12 false
    (.op (some 4) .mov [(.t 12)]
    .nil))))))
  .ret)) }

/- (jacquard/rel.Rel).Pairs: 20 -/
def rel_Rel_Pairs_b1 : IC :=
  (.seq (.reg 6 false (.op (some 19) (.bin .lss) [(.t 18), (.t 17)]
    .nil))
  (.seq (.cond (.t 19)
  .skip
  (.exit 2))
  (.seq (.blk 3 (.seq (.reg 7 false (.op (some 20) (.idxS 1) [(.t 16), (.t 18)]
    (.op (some 21) (.ld .heap (.i .i64)) [(.t 20)]
    (.op (some 6) .mov [(.t 21)]
    .nil))))
  (.reg 8 false (.op (some 22) .mov [(.t 3)]
    (.op (some 23) .mov [(.t 4)]
    (.op (some 24) .mov [(.t 6)]
    (.op (some 25) (.build ([Cell.int .i64 0, Cell.int .i64 0]) [(0, 1), (1, 1)]) [(.t 23), (.t 24)]
    (.op (some 26) (.lit 2 1 ([Cell.int .i64 0, Cell.int .i64 0]) [(0, 2)]) [(.t 25)]
    (.op (some 27) (.app 2 16) [(.t 22), (.t 26)]
    (.op (some 3) .mov [(.t 27)]
    .nil))))))))))
  (.reg 9 false (.op (some 28) (.bin .add) [(.t 18), (.k (.c (.int .i64 1)))]
    (.op (some 18) .mov [(.t 28)]
    .nil))))))
def rel_Rel_Pairs_p2 : IC :=
  (.reg 10 false (.op (some 29) (.bin .add) [(.t 9), (.k (.c (.int .i64 1)))]
    (.op (some 9) .mov [(.t 29)]
    .nil)))
def rel_Rel_Pairs_b2 : IC :=
  (.seq (.reg 3 false (.op (some 10) (.bin .lss) [(.t 9), (.t 8)]
    .nil))
  (.seq (.cond (.t 10)
  .skip
  (.exit 0))
  (.seq (.blk 1 (.seq (.reg 4 false (.op (some 11) .mov [(.t 9)]
    (.op (some 4) .mov [(.t 11)]
    .nil)))
  (.seq (.reg 5 false (.op (some 12) .mov [(.t 4)]
    (.op (some 13) (.addr 1) [(.t 1)]
    (.op (some 14) (.idxA 64 1) [(.t 13), (.t 12)]
    (.op (some 15) (.ld (.slot 0) (.i .u64)) [(.t 14)]
    (.op (some 16) (.call 32 [.any]) [(.t 15)]
    (.op (some 17) .len [(.t 16)]
    (.op (some 18) .mov [(.k (.c (.int .i64 0)))]
    .nil))))))))
  (.blk 2 (.loop [1, 3, 4, 8, 9, 16, 17, 18] [0] [(3, [1, 3, 8, 9], [0])] rel_Rel_Pairs_b1)))))
  rel_Rel_Pairs_p2)))
def rel_Rel_Pairs_p1 : IC :=
  (.seq (.reg 11 false (.op (some 30) .mov [(.t 3)]
    (.op (some 2) .mov [(.t 30)]
    .nil)))
  .ret)
def rel_Rel_Pairs : Fn := { np := 1, nt := 31, ns := 1, res := [.t 2 .any], gc := false, code :=
  (.seq (.reg 0 false (.box 1 0 (.t 0)
    (.op (some 2) .mov [(.k (.c .nils))]
    .nil)))
  (.seq (.reg 1 false (.op (some 3) .mov [(.k (.c .nils))]
    .nil))
  (.seq (.seq (.reg 2 false (.op (some 7) (.addr 0) [(.t 1)]
    (.op (some 8) (.ld (.slot 0) (.i .i64)) [(.t 7)]
    (.op (some 9) .mov [(.k (.c (.int .i64 0)))]
    .nil))))
  (.blk 0 (.loop [1, 3, 8, 9] [0] [(1, [3], [])] rel_Rel_Pairs_b2)))
  rel_Rel_Pairs_p1))) }

/- (jacquard/rel.Rel).Acyclic: 26 -/
def rel_Rel_Acyclic_b1 : IC :=
  (.seq (.reg 3 false (.op (some 10) (.bin .lss) [(.t 9), (.t 8)]
    .nil))
  (.seq (.cond (.t 10)
  .skip
  (.exit 0))
  (.seq (.blk 1 (.seq (.reg 4 false (.op (some 11) .mov [(.t 9)]
    (.op (some 4) .mov [(.t 11)]
    .nil)))
  (.seq (.reg 5 false (.op (some 12) .mov [(.t 4)]
    (.op (some 13) (.addr 1) [(.t 3)]
    (.op (some 14) (.idxA 64 1) [(.t 13), (.t 12)]
    (.op (some 15) (.ld (.slot 1) (.i .u64)) [(.t 14)]
    (.op (some 16) .mov [(.t 4)]
    (.op (some 17) (.call 17 [.b]) [(.t 15), (.t 16)]
    .nil)))))))
  (.cond (.t 17)
  (.seq (.reg 6 false (.op (some 2) .mov [(.k (.c (.bool false)))]
    .nil))
  .ret)
  .skip))))
  (.reg 7 false (.op (some 18) (.bin .add) [(.t 9), (.k (.c (.int .i64 1)))]
    (.op (some 9) .mov [(.t 18)]
    .nil))))))
def rel_Rel_Acyclic_p1 : IC :=
  (.seq (.reg 8 false (.op (some 2) .mov [(.k (.c (.bool true)))]
    .nil))
  .ret)
def rel_Rel_Acyclic : Fn := { np := 1, nt := 19, ns := 2, res := [.t 2 .b], gc := false, code :=
  (.seq (.reg 0 false (.box 1 0 (.t 0)
    (.op (some 2) .mov [(.k (.c (.bool false)))]
    .nil)))
  (.seq (.reg 1 false (.op (some 5) (.ldAll (.slot 0) 65) [(.t 1)]
    (.op (some 6) (.call 12 [.agg]) [(.t 5)]
    (.al 3 1 ([Cell.int .i64 0] ++ List.replicate 64 (Cell.int .u64 0))
    (.op none (.stAll (.slot 1) 65) [(.t 3), (.t 6)]
    .nil)))))
  (.seq (.seq (.reg 2 false (.op (some 7) (.addr 0) [(.t 3)]
    (.op (some 8) (.ld (.slot 1) (.i .i64)) [(.t 7)]
    (.op (some 9) .mov [(.k (.c (.int .i64 0)))]
    .nil))))
  (.blk 0 (.loop [3, 8, 9] [1] [(0, [2], []), (1, [], [])] rel_Rel_Acyclic_b1)))
  rel_Rel_Acyclic_p1))) }

/- (jacquard/rel.Rel).Inverse: 40 -/
def rel_Rel_Inverse_b1 : IC :=
  (.seq (.seq (.reg 6 false (.op (some 18) .mov [(.t 5)]
    (.op (some 19) (.bin .neq) [(.t 18), (.k (.c (.int .u64 0)))]
    .nil)))
  (.cond (.t 19)
  .skip
  (.exit 2)))
  (.seq (.blk 3 (.reg 8 false (.op (some 24) .mov [(.t 5)]
    (.op (some 25) (.call 38 [(.i .i64)]) [(.t 24)]
    (.op (some 26) .mov [(.t 5)]
    (.op (some 27) (.call 38 [(.i .i64)]) [(.t 26)]
    (.op (some 28) (.addr 1) [(.t 3)]
    (.op (some 29) (.idxA 64 1) [(.t 28), (.t 27)]
    (.op (some 30) (.ld (.slot 2) (.i .u64)) [(.t 29)]
    (.op (some 31) .mov [(.t 4)]
    (.op (some 32) (.call 18 [(.i .u64)]) [(.t 30), (.t 31)]
    (.op (some 33) (.addr 1) [(.t 3)]
    (.op (some 34) (.idxA 64 1) [(.t 33), (.t 25)]
    (.op none (.st (.slot 2)) [(.t 34), (.t 32)]
    .nil))))))))))))))
  (.reg 7 false (.op (some 20) .mov [(.t 5)]
    (.op (some 21) .mov [(.t 5)]
    (.op (some 22) (.bin .sub) [(.t 21), (.k (.c (.int .u64 1)))]
    (.op (some 23) (.bin .and) [(.t 20), (.t 22)]
    (.op (some 5) .mov [(.t 23)]
    .nil))))))))
def rel_Rel_Inverse_p2 : IC :=
  (.reg 9 false (.op (some 35) (.bin .add) [(.t 11), (.k (.c (.int .i64 1)))]
    (.op (some 11) .mov [(.t 35)]
    .nil)))
def rel_Rel_Inverse_b2 : IC :=
  (.seq (.reg 3 false (.op (some 12) (.bin .lss) [(.t 11), (.t 10)]
    .nil))
  (.seq (.cond (.t 12)
  .skip
  (.exit 0))
  (.seq (.blk 1 (.seq (.reg 4 false (.op (some 13) .mov [(.t 11)]
    (.op (some 4) .mov [(.t 13)]
    .nil)))
  (.seq (.reg 5 false (.op (some 14) .mov [(.t 4)]
    (.op (some 15) (.addr 1) [(.t 1)]
    (.op (some 16) (.idxA 64 1) [(.t 15), (.t 14)]
    (.op (some 17) (.ld (.slot 0) (.i .u64)) [(.t 16)]
    (.op (some 5) .mov [(.t 17)]
    .nil))))))
  (.blk 2 (.loop [1, 2, 3, 4, 5, 10, 11] [0, 1, 2] [(3, [1, 2, 3, 10, 11], [0, 1, 2])] rel_Rel_Inverse_b1)))))
  rel_Rel_Inverse_p2)))
def rel_Rel_Inverse_p1 : IC :=
  (.seq (.reg 10 false (.op (some 36) (.ldAll (.slot 2) 65) [(.t 3)]
    (.op none (.stAll (.slot 1) 65) [(.t 2), (.t 36)]
    .nil)))
  .ret)
def rel_Rel_Inverse : Fn := { np := 1, nt := 37, ns := 3, res := [.all (.slot 1) 2 65], gc := false, code :=
  (.seq (.reg 0 false (.box 1 0 (.t 0)
    (.al 2 1 ([Cell.int .i64 0] ++ List.replicate 64 (Cell.int .u64 0))
    .nil)))
  (.seq (.reg 1 false (.op (some 6) (.addr 0) [(.t 1)]
    (.op (some 7) (.ld (.slot 0) (.i .i64)) [(.t 6)]
    (.op (some 8) (.call 9 [.agg]) [(.t 7)]
    (.al 3 2 ([Cell.int .i64 0] ++ List.replicate 64 (Cell.int .u64 0))
    (.op none (.stAll (.slot 2) 65) [(.t 3), (.t 8)]
    .nil))))))
  (.seq (.seq (.reg 2 false (.op (some 9) (.addr 0) [(.t 1)]
    (.op (some 10) (.ld (.slot 0) (.i .i64)) [(.t 9)]
    (.op (some 11) .mov [(.k (.c (.int .i64 0)))]
    .nil))))
  (.blk 0 (.loop [1, 2, 3, 10, 11] [0, 1, 2] [(1, [2, 3], [1, 2])] rel_Rel_Inverse_b2)))
  rel_Rel_Inverse_p1))) }

/- (jacquard/rel.Rel).Row: 41 -/
def rel_Rel_Row : Fn := { np := 2, nt := 13, ns := 1, res := [.t 4 (.i .u64)], gc := false, code :=
  (.seq (.reg 0 false (.box 2 0 (.t 0)
    (.op (some 4) .mov [(.k (.c (.int .u64 0)))]
    .nil)))
  (.seq (.seq (.reg 1 false (.op (some 5) (.ldAll (.slot 0) 65) [(.t 2)]
    (.op (some 6) .mov [(.t 1)]
    (.op (some 7) (.call 16 [.b]) [(.t 5), (.t 6)]
    (.op (some 8) (.un .not) [(.t 7)]
    .nil)))))
  (.cond (.t 8)
  (.seq (.reg 2 false (.op (some 4) .mov [(.k (.c (.int .u64 0)))]
    .nil))
  .ret)
  .skip))
  (.seq (.reg 3 false (.op (some 9) .mov [(.t 1)]
    (.op (some 10) (.addr 1) [(.t 2)]
    (.op (some 11) (.idxA 64 1) [(.t 10), (.t 9)]
    (.op (some 12) (.ld (.slot 0) (.i .u64)) [(.t 11)]
    (.op (some 4) .mov [(.t 12)]
    .nil))))))
  .ret))) }

/- (jacquard/rel.Rel).Then: 58 -/
def rel_Rel_Then_b1 : IC :=
  (.seq (.seq (.reg 7 false (.op (some 29) .mov [(.t 8)]
    (.op (some 30) (.bin .neq) [(.t 29), (.k (.c (.int .u64 0)))]
    .nil)))
  (.cond (.t 30)
  .skip
  (.exit 2)))
  (.seq (.blk 3 (.reg 9 true (.op (some 35) .mov [(.t 7)]
    (.op (some 36) (.addr 1) [(.t 5)]
    (.op (some 37) (.idxA 64 1) [(.t 36), (.t 35)]
    (.op (some 38) (.ld (.slot 3) (.i .u64)) [(.t 37)]
    (.op (some 39) .mov [(.t 8)]
    (.op (some 40) (.qcall 38 [(.i .i64)]) [(.t 39)]
    (.op (some 41) (.addr 1) [(.t 3)]
    (.op (some 42) (.idxA 64 1) [(.t 41), (.t 40)]
    (.op (some 43) (.ld (.slot 1) (.i .u64)) [(.t 42)]
    (.op (some 44) .mov [(.t 6)]
    (.op (some 45) (.bin .and) [(.t 43), (.t 44)]
    (.op (some 46) (.bin .or) [(.t 38), (.t 45)]
    (.op (some 47) (.addr 1) [(.t 5)]
    (.op (some 48) (.idxA 64 1) [(.t 47), (.t 35)]
    (.op none (.st (.slot 3)) [(.t 48), (.t 46)]
    .nil)))))))))))))))))
  (.reg 8 false (.op (some 31) .mov [(.t 8)]
    (.op (some 32) .mov [(.t 8)]
    (.op (some 33) (.bin .sub) [(.t 32), (.k (.c (.int .u64 1)))]
    (.op (some 34) (.bin .and) [(.t 31), (.t 33)]
    (.op (some 8) .mov [(.t 34)]
    .nil))))))))
def rel_Rel_Then_p2 : IC :=
  (.reg 10 false (.op (some 49) (.bin .add) [(.t 20), (.k (.c (.int .i64 1)))]
    (.op (some 20) .mov [(.t 49)]
    .nil)))
def rel_Rel_Then_b2 : IC :=
  (.seq (.reg 4 false (.op (some 21) (.bin .lss) [(.t 20), (.t 19)]
    .nil))
  (.seq (.cond (.t 21)
  .skip
  (.exit 0))
  (.seq (.blk 1 (.seq (.reg 5 false (.op (some 22) .mov [(.t 20)]
    (.op (some 7) .mov [(.t 22)]
    .nil)))
  (.seq (.reg 6 false (.op (some 23) .mov [(.t 7)]
    (.op (some 24) (.addr 1) [(.t 2)]
    (.op (some 25) (.idxA 64 1) [(.t 24), (.t 23)]
    (.op (some 26) (.ld (.slot 0) (.i .u64)) [(.t 25)]
    (.op (some 27) .mov [(.t 6)]
    (.op (some 28) (.bin .and) [(.t 26), (.t 27)]
    (.op (some 8) .mov [(.t 28)]
    .nil))))))))
  (.blk 2 (.loop [2, 3, 4, 5, 6, 7, 8, 19, 20] [0, 1, 2, 3] [(3, [2, 3, 4, 5, 6, 19, 20], [0, 1, 2, 3])] rel_Rel_Then_b1)))))
  rel_Rel_Then_p2)))
def rel_Rel_Then_p1 : IC :=
  (.seq (.reg 11 false (.op (some 50) (.ldAll (.slot 3) 65) [(.t 5)]
    (.op none (.stAll (.slot 2) 65) [(.t 4), (.t 50)]
    .nil)))
  .ret)
def rel_Rel_Then : Fn := { np := 2, nt := 51, ns := 4, res := [.all (.slot 2) 4 65], gc := false, code :=
  (.seq (.reg 0 false (.box 2 0 (.t 0)
    (.box 3 1 (.t 1)
    (.al 4 2 ([Cell.int .i64 0] ++ List.replicate 64 (Cell.int .u64 0))
    .nil))))
  (.seq (.reg 1 false (.op (some 9) (.addr 0) [(.t 2)]
    (.op (some 10) (.ld (.slot 0) (.i .i64)) [(.t 9)]
    (.op (some 11) (.addr 0) [(.t 3)]
    (.op (some 12) (.ld (.slot 1) (.i .i64)) [(.t 11)]
    (.op (some 13) .mn [(.t 10), (.t 12)]
    (.op (some 14) (.call 9 [.agg]) [(.t 13)]
    (.al 5 3 ([Cell.int .i64 0] ++ List.replicate 64 (Cell.int .u64 0))
    (.op none (.stAll (.slot 3) 65) [(.t 5), (.t 14)]
    .nil)))))))))
  (.seq (.reg 2 false (.op (some 15) (.addr 0) [(.t 5)]
    (.op (some 16) (.ld (.slot 3) (.i .i64)) [(.t 15)]
    (.op (some 17) (.call 61 [(.i .u64)]) [(.t 16)]
    (.op (some 6) .mov [(.t 17)]
    .nil)))))
  (.seq (.seq (.reg 3 false (.op (some 18) (.addr 0) [(.t 5)]
    (.op (some 19) (.ld (.slot 3) (.i .i64)) [(.t 18)]
    (.op (some 20) .mov [(.k (.c (.int .i64 0)))]
    .nil))))
  (.blk 0 (.loop [2, 3, 4, 5, 6, 19, 20] [0, 1, 2, 3] [(1, [4, 5], [2, 3])] rel_Rel_Then_b2)))
  rel_Rel_Then_p1)))) }

/- (jacquard/rel.Rel).Union: 59 -/
def rel_Rel_Union : Fn := { np := 2, nt := 8, ns := 3, res := [.all (.slot 2) 4 65], gc := false, code :=
  (.seq (.reg 0 false (.box 2 0 (.t 0)
    (.box 3 1 (.t 1)
    (.al 4 2 ([Cell.int .i64 0] ++ List.replicate 64 (Cell.int .u64 0))
    .nil))))
  (.seq (.reg 1 false (.op (some 5) (.ldAll (.slot 0) 65) [(.t 2)]
    (.op (some 6) (.ldAll (.slot 1) 65) [(.t 3)]
    (.op (some 7) (.call 73 [.agg]) [(.t 5), (.t 6), (.k (.c (.fn 72 [])))]
    (.op none (.stAll (.slot 2) 65) [(.t 4), (.t 7)]
    .nil)))))
  .ret)) }

/- (jacquard/rel.Rel).Keep: 66 -/
def rel_Rel_Keep_b1 : IC :=
  (.seq (.reg 3 false (.op (some 13) (.bin .lss) [(.t 12), (.t 11)]
    .nil))
  (.seq (.cond (.t 13)
  .skip
  (.exit 0))
  (.seq (.blk 1 (.seq (.reg 4 false (.op (some 14) .mov [(.t 12)]
    (.op (some 6) .mov [(.t 14)]
    .nil)))
  (.seq (.reg 5 false (.op (some 15) .mov [(.t 1)]
    (.op (some 16) .mov [(.t 6)]
    (.op (some 17) (.call 17 [.b]) [(.t 15), (.t 16)]
    .nil))))
  (.cond (.t 17)
  (.reg 6 false (.op (some 18) .mov [(.t 6)]
    (.op (some 19) .mov [(.t 6)]
    (.op (some 20) (.addr 1) [(.t 2)]
    (.op (some 21) (.idxA 64 1) [(.t 20), (.t 19)]
    (.op (some 22) (.ld (.slot 0) (.i .u64)) [(.t 21)]
    (.op (some 23) .mov [(.t 1)]
    (.op (some 24) (.bin .and) [(.t 22), (.t 23)]
    (.op (some 25) (.addr 1) [(.t 5)]
    (.op (some 26) (.idxA 64 1) [(.t 25), (.t 18)]
    (.op none (.st (.slot 2)) [(.t 26), (.t 24)]
    .nil)))))))))))
  .skip))))
  (.reg 7 false (.op (some 27) (.bin .add) [(.t 12), (.k (.c (.int .i64 1)))]
    (.op (some 12) .mov [(.t 27)]
    .nil))))))
def rel_Rel_Keep_p1 : IC :=
  (.seq (.reg 8 false (.op (some 28) (.ldAll (.slot 2) 65) [(.t 5)]
    (.op none (.stAll (.slot 1) 65) [(.t 4), (.t 28)]
    .nil)))
  .ret)
def rel_Rel_Keep : Fn := { np := 2, nt := 29, ns := 3, res := [.all (.slot 1) 4 65], gc := false, code :=
  (.seq (.reg 0 false (.box 2 0 (.t 0)
    (.al 4 1 ([Cell.int .i64 0] ++ List.replicate 64 (Cell.int .u64 0))
    .nil)))
  (.seq (.reg 1 false (.op (some 7) (.addr 0) [(.t 2)]
    (.op (some 8) (.ld (.slot 0) (.i .i64)) [(.t 7)]
    (.op (some 9) (.call 9 [.agg]) [(.t 8)]
    (.al 5 2 ([Cell.int .i64 0] ++ List.replicate 64 (Cell.int .u64 0))
    (.op none (.stAll (.slot 2) 65) [(.t 5), (.t 9)]
    .nil))))))
  (.seq (.seq (.reg 2 false (.op (some 10) (.addr 0) [(.t 2)]
    (.op (some 11) (.ld (.slot 0) (.i .i64)) [(.t 10)]
    (.op (some 12) .mov [(.k (.c (.int .i64 0)))]
    .nil))))
  (.blk 0 (.loop [1, 2, 4, 5, 11, 12] [0, 1, 2] [(1, [4, 5], [1, 2])] rel_Rel_Keep_b1)))
  rel_Rel_Keep_p1))) }

/- (jacquard/rel.Rel).Meet: 67 -/
def rel_Rel_Meet : Fn := { np := 2, nt := 8, ns := 3, res := [.all (.slot 2) 4 65], gc := false, code :=
  (.seq (.reg 0 false (.box 2 0 (.t 0)
    (.box 3 1 (.t 1)
    (.al 4 2 ([Cell.int .i64 0] ++ List.replicate 64 (Cell.int .u64 0))
    .nil))))
  (.seq (.reg 1 false (.op (some 5) (.ldAll (.slot 0) 65) [(.t 2)]
    (.op (some 6) (.ldAll (.slot 1) 65) [(.t 3)]
    (.op (some 7) (.call 73 [.agg]) [(.t 5), (.t 6), (.k (.c (.fn 74 [])))]
    (.op none (.stAll (.slot 2) 65) [(.t 4), (.t 7)]
    .nil)))))
  .ret)) }

/- (jacquard/rel.Rel).Minus: 68 -/
def rel_Rel_Minus : Fn := { np := 2, nt := 8, ns := 3, res := [.all (.slot 2) 4 65], gc := false, code :=
  (.seq (.reg 0 false (.box 2 0 (.t 0)
    (.box 3 1 (.t 1)
    (.al 4 2 ([Cell.int .i64 0] ++ List.replicate 64 (Cell.int .u64 0))
    .nil))))
  (.seq (.reg 1 false (.op (some 5) (.ldAll (.slot 0) 65) [(.t 2)]
    (.op (some 6) (.ldAll (.slot 1) 65) [(.t 3)]
    (.op (some 7) (.call 73 [.agg]) [(.t 5), (.t 6), (.k (.c (.fn 75 [])))]
    (.op none (.stAll (.slot 2) 65) [(.t 4), (.t 7)]
    .nil)))))
  .ret)) }

/- (jacquard/rel.Rel).Union$1: 72 -/
def rel_Rel_Union_1 : Fn := { np := 2, nt := 8, ns := 0, res := [.t 4 (.i .u64)], gc := false, code :=
  (.seq (.reg 0 false (.op (some 4) .mov [(.k (.c (.int .u64 0)))]
    .nil))
  (.seq (.reg 1 false (.op (some 5) .mov [(.t 0)]
    (.op (some 6) .mov [(.t 1)]
    (.op (some 7) (.bin .or) [(.t 5), (.t 6)]
    (.op (some 4) .mov [(.t 7)]
    .nil)))))
  .ret)) }

/- jacquard/rel.both: 73 -/
def rel_both_b1 : IC :=
  (.seq (.reg 3 false (.op (some 18) (.bin .lss) [(.t 17), (.t 16)]
    .nil))
  (.seq (.cond (.t 18)
  .skip
  (.exit 0))
  (.seq (.blk 1 (.seq (.reg 4 false (.op (some 19) .mov [(.t 17)]
    (.op (some 8) .mov [(.t 19)]
    .nil)))
  (.reg 5 true (.op (some 20) .mov [(.t 8)]
    (.op (some 21) .mov [(.t 2)]
    (.op (some 22) .mov [(.t 8)]
    (.op (some 23) (.addr 1) [(.t 3)]
    (.op (some 24) (.idxA 64 1) [(.t 23), (.t 22)]
    (.op (some 25) (.ld (.slot 0) (.i .u64)) [(.t 24)]
    (.op (some 26) .mov [(.t 8)]
    (.op (some 27) (.addr 1) [(.t 4)]
    (.op (some 28) (.idxA 64 1) [(.t 27), (.t 26)]
    (.op (some 29) (.ld (.slot 1) (.i .u64)) [(.t 28)]
    (.op (some 30) (.qcallv [(.i .u64)]) [(.t 21), (.t 25), (.t 29)]
    (.op (some 31) (.addr 0) [(.t 7)]
    (.op (some 32) (.ld (.slot 3) (.i .i64)) [(.t 31)]
    (.op (some 33) (.qcall 61 [(.i .u64)]) [(.t 32)]
    (.op (some 34) (.bin .and) [(.t 30), (.t 33)]
    (.op (some 35) (.addr 1) [(.t 7)]
    (.op (some 36) (.idxA 64 1) [(.t 35), (.t 20)]
    (.op none (.st (.slot 3)) [(.t 36), (.t 34)]
    .nil)))))))))))))))))))))
  (.reg 6 false (.op (some 37) (.bin .add) [(.t 17), (.k (.c (.int .i64 1)))]
    (.op (some 17) .mov [(.t 37)]
    .nil))))))
def rel_both_p1 : IC :=
  (.seq (.reg 7 false (.op (some 38) (.ldAll (.slot 3) 65) [(.t 7)]
    (.op none (.stAll (.slot 2) 65) [(.t 6), (.t 38)]
    .nil)))
  .ret)
def rel_both : Fn := { np := 3, nt := 39, ns := 4, res := [.all (.slot 2) 6 65], gc := false, code :=
  (.seq (.reg 0 false (.box 3 0 (.t 0)
    (.box 4 1 (.t 1)
    (.al 6 2 ([Cell.int .i64 0] ++ List.replicate 64 (Cell.int .u64 0))
    .nil))))
  (.seq (.reg 1 false (.op (some 9) (.addr 0) [(.t 3)]
    (.op (some 10) (.ld (.slot 0) (.i .i64)) [(.t 9)]
    (.op (some 11) (.addr 0) [(.t 4)]
    (.op (some 12) (.ld (.slot 1) (.i .i64)) [(.t 11)]
    (.op (some 13) .mn [(.t 10), (.t 12)]
    (.op (some 14) (.call 9 [.agg]) [(.t 13)]
    (.al 7 3 ([Cell.int .i64 0] ++ List.replicate 64 (Cell.int .u64 0))
    (.op none (.stAll (.slot 3) 65) [(.t 7), (.t 14)]
    .nil)))))))))
  (.seq (.seq (.reg 2 false (.op (some 15) (.addr 0) [(.t 7)]
    (.op (some 16) (.ld (.slot 3) (.i .i64)) [(.t 15)]
    (.op (some 17) .mov [(.k (.c (.int .i64 0)))]
    .nil))))
  (.blk 0 (.loop [2, 3, 4, 6, 7, 16, 17] [0, 1, 2, 3] [(1, [6, 7], [2, 3])] rel_both_b1)))
  rel_both_p1))) }

/- (jacquard/rel.Rel).Meet$1: 74 -/
def rel_Rel_Meet_1 : Fn := { np := 2, nt := 8, ns := 0, res := [.t 4 (.i .u64)], gc := false, code :=
  (.seq (.reg 0 false (.op (some 4) .mov [(.k (.c (.int .u64 0)))]
    .nil))
  (.seq (.reg 1 false (.op (some 5) .mov [(.t 0)]
    (.op (some 6) .mov [(.t 1)]
    (.op (some 7) (.bin .and) [(.t 5), (.t 6)]
    (.op (some 4) .mov [(.t 7)]
    .nil)))))
  .ret)) }

/- (jacquard/rel.Rel).Minus$1: 75 -/
def rel_Rel_Minus_1 : Fn := { np := 2, nt := 8, ns := 0, res := [.t 4 (.i .u64)], gc := false, code :=
  (.seq (.reg 0 false (.op (some 4) .mov [(.k (.c (.int .u64 0)))]
    .nil))
  (.seq (.reg 1 false (.op (some 5) .mov [(.t 0)]
    (.op (some 6) .mov [(.t 1)]
    (.op (some 7) (.bin .andNot) [(.t 5), (.t 6)]
    (.op (some 4) .mov [(.t 7)]
    .nil)))))
  .ret)) }


end Jq

/- What a function needs of an environment. -/
namespace Jq
open Go

structure rel_New_In (E : Env) : Prop where
  fn : E.fn 9 = some rel_New

structure rel_Rel_in_In (E : Env) : Prop where
  fn : E.fn 16 = some rel_Rel_in

structure rel_Rel_Add_In (E : Env) : Prop where
  fn : E.fn 10 = some rel_Rel_Add
  c16 : rel_Rel_in_In E
  c18 : set_Set_With_In E

structure rel_Rel_Has_In (E : Env) : Prop where
  fn : E.fn 3 = some rel_Rel_Has
  c16 : rel_Rel_in_In E
  c17 : set_Set_Has_In E

structure rel_Rel_Closure_In (E : Env) : Prop where
  fn : E.fn 12 = some rel_Rel_Closure
  c17 : set_Set_Has_In E

structure rel_Rel_N_In (E : Env) : Prop where
  fn : E.fn 14 = some rel_Rel_N

structure rel_Rel_Pairs_In (E : Env) : Prop where
  fn : E.fn 20 = some rel_Rel_Pairs
  c32 : set_Set_List_In E

structure rel_Rel_Acyclic_In (E : Env) : Prop where
  fn : E.fn 26 = some rel_Rel_Acyclic
  c12 : rel_Rel_Closure_In E
  c17 : set_Set_Has_In E

structure rel_Rel_Inverse_In (E : Env) : Prop where
  fn : E.fn 40 = some rel_Rel_Inverse
  c9 : rel_New_In E
  c18 : set_Set_With_In E
  c38 : set_Set_First_In E

structure rel_Rel_Row_In (E : Env) : Prop where
  fn : E.fn 41 = some rel_Rel_Row
  c16 : rel_Rel_in_In E

structure rel_Rel_Then_In (E : Env) : Prop where
  fn : E.fn 58 = some rel_Rel_Then
  c9 : rel_New_In E
  c38 : set_Set_First_In E
  c61 : set_Upto_In E

structure rel_Rel_Union_1_In (E : Env) : Prop where
  fn : E.fn 72 = some rel_Rel_Union_1

structure rel_both_In (E : Env) : Prop where
  fn : E.fn 73 = some rel_both
  c9 : rel_New_In E
  c61 : set_Upto_In E

structure rel_Rel_Union_In (E : Env) : Prop where
  fn : E.fn 59 = some rel_Rel_Union
  c72 : rel_Rel_Union_1_In E
  c73 : rel_both_In E

structure rel_Rel_Keep_In (E : Env) : Prop where
  fn : E.fn 66 = some rel_Rel_Keep
  c9 : rel_New_In E
  c17 : set_Set_Has_In E

structure rel_Rel_Meet_1_In (E : Env) : Prop where
  fn : E.fn 74 = some rel_Rel_Meet_1

structure rel_Rel_Meet_In (E : Env) : Prop where
  fn : E.fn 67 = some rel_Rel_Meet
  c73 : rel_both_In E
  c74 : rel_Rel_Meet_1_In E

structure rel_Rel_Minus_1_In (E : Env) : Prop where
  fn : E.fn 75 = some rel_Rel_Minus_1

structure rel_Rel_Minus_In (E : Env) : Prop where
  fn : E.fn 68 = some rel_Rel_Minus
  c73 : rel_both_In E
  c75 : rel_Rel_Minus_1_In E

end Jq

/- What a function needs of an environment. -/
namespace Jq
open Go


end Jq

namespace Jq
open Go


end Jq

namespace Jq
open Go


end Jq

/- What a function needs of an environment. -/
namespace Jq
open Go


end Jq

/- What a function needs of an environment. -/
namespace Jq
open Go


end Jq

/- What a function needs of an environment. -/
namespace Jq
open Go


end Jq

/- What a function needs of an environment. -/
namespace Jq
open Go


end Jq

/- What a function needs of an environment. -/
namespace Jq
open Go


end Jq

namespace Jq
open Go

/- jacquard/jacquardlaw8.Of: 1 -/
def jacquardlaw8_Of_b1 : IC :=
  (.seq (.seq (.reg 4 false (.op (some 17) .mov [(.t 8)]
    (.op (some 18) .mov [(.t 1)]
    (.op (some 19) .len [(.t 18)]
    (.op (some 20) (.bin .lss) [(.t 17), (.t 19)]
    (.op (some 21) .mov [(.t 20)]
    (.sc 21 true (.op (some 22) .mov [(.t 8)]
    (.op (some 23) (.bin .lss) [(.t 22), (.k (.c (.int .i64 200)))]
    .nil)) 23 24 false
    .nil)))))))
  (.cond (.t 24)
  .skip
  (.exit 0)))
  (.seq (.blk 1 (.seq (.reg 6 true (.op (some 27) .mov [(.t 1)]
    (.op (some 28) .mov [(.t 8)]
    (.op (some 29) (.idxS 2) [(.t 27), (.t 28)]
    (.op (some 30) (.idxA 2 1) [(.t 29), (.k (.c (.int .i64 0)))]
    (.op (some 31) (.ld .heap (.i .i64)) [(.t 30)]
    (.op (some 32) .mov [(.t 1)]
    (.op (some 33) .mov [(.t 8)]
    (.op (some 34) (.idxS 2) [(.t 32), (.t 33)]
    (.op (some 35) (.idxA 2 1) [(.t 34), (.k (.c (.int .i64 1)))]
    (.op (some 36) (.ld .heap (.i .i64)) [(.t 35)]
    (.op (some 9) .mov [(.t 31)]
    (.op (some 10) .mov [(.t 36)]
    .nil)))))))))))))
  (.seq (.reg 7 false (.op (some 37) (.ldAll (.slot 2) 65) [(.t 6)]
    (.op (some 38) .mov [(.t 9)]
    (.op (some 39) .mov [(.t 10)]
    (.op (some 40) (.call 10 [.agg]) [(.t 37), (.t 38), (.t 39)]
    (.op none (.stAll (.slot 2) 65) [(.t 6), (.t 40)]
    .nil))))))
  (.seq (.reg 8 false (.op (some 41) .mov [(.t 9)]
    (.op (some 42) (.bin .geq) [(.t 41), (.k (.c (.int .i64 0)))]
    (.op (some 43) .mov [(.t 42)]
    (.sc 43 true (.op (some 44) .mov [(.t 9)]
    (.op (some 45) (.addr 0) [(.t 7)]
    (.op (some 46) (.ld .heap (.i .i64)) [(.t 45)]
    (.op (some 47) (.bin .lss) [(.t 44), (.t 46)]
    .nil)))) 47 48 false
    (.op (some 49) .mov [(.t 48)]
    (.sc 49 true (.op (some 50) .mov [(.t 10)]
    (.op (some 51) (.bin .geq) [(.t 50), (.k (.c (.int .i64 0)))]
    .nil)) 51 52 false
    (.op (some 53) .mov [(.t 52)]
    (.sc 53 true (.op (some 54) .mov [(.t 10)]
    (.op (some 55) (.addr 0) [(.t 7)]
    (.op (some 56) (.ld .heap (.i .i64)) [(.t 55)]
    (.op (some 57) (.bin .lss) [(.t 54), (.t 56)]
    .nil)))) 57 58 false
    .nil)))))))))
  (.cond (.t 58)
  (.reg 9 false (.op (some 59) .mov [(.t 9)]
    (.op (some 60) .mov [(.t 10)]
    (.op (some 61) (.call 13 []) [(.t 7), (.t 59), (.t 60)]
    .nil))))
  .skip)))))
  (.reg 5 false (.op (some 25) .mov [(.t 8)]
    (.op (some 26) (.bin .add) [(.t 25), (.k (.c (.int .i64 1)))]
    (.op (some 8) .mov [(.t 26)]
    .nil))))))
def jacquardlaw8_Of_p1 : IC :=
  (.seq (.reg 10 true (.op (some 62) (.ldAll (.slot 2) 65) [(.t 6)]
    (.op (some 63) (.ldAll .heap 65) [(.t 7)]
    (.op none (.stAll (.slot 0) 65) [(.t 4), (.t 62)]
    (.op none (.stAll (.slot 1) 65) [(.t 5), (.t 63)]
    .nil)))))
  .ret)
def jacquardlaw8_Of : Fn := { np := 2, nt := 64, ns := 3, res := [.all (.slot 0) 4 65, .all (.slot 1) 5 65], gc := true, code :=
  (.seq (.reg 0 false (.al 4 0 ([Cell.int .i64 0] ++ List.replicate 64 (Cell.int .u64 0))
    (.al 5 1 ([Cell.int .i64 0] ++ List.replicate 64 (Cell.int .u64 0))
    .nil)))
  (.seq (.reg 1 false (.op (some 11) .mov [(.t 0)]
    (.op (some 12) (.call 9 [.agg]) [(.t 11)]
    (.al 6 2 ([Cell.int .i64 0] ++ List.replicate 64 (Cell.int .u64 0))
    (.op none (.stAll (.slot 2) 65) [(.t 6), (.t 12)]
    .nil)))))
  (.seq (.reg 2 false (.op (some 13) .mov [(.t 0)]
    (.op (some 14) .mx [(.t 13), (.k (.c (.int .i64 0)))]
    (.op (some 15) .mn [(.t 14), (.k (.c (.int .i64 64)))]
    (.op (some 16) (.build ([Cell.int .i64 0] ++ List.replicate 64 (Cell.int .u64 0)) [(0, 1)]) [(.t 15)]
    (.op (some 7) (.allocH ([Cell.int .i64 0] ++ List.replicate 64 (Cell.int .u64 0))) []
    (.op none (.stAll .heap 65) [(.t 7), (.t 16)]
    .nil)))))))
  (.seq (.seq (.reg 3 false (.op (some 8) .mov [(.k (.c (.int .i64 0)))]
    .nil))
  (.blk 0 (.loop [1, 4, 5, 6, 7, 8] [0, 1, 2] [(1, [4, 5, 6, 7], [0, 1, 2])] jacquardlaw8_Of_b1)))
  jacquardlaw8_Of_p1)))) }

/- jacquard/jacquardlaw8.awake: 55 -/
def jacquardlaw8_awake : Fn := { np := 0, nt := 28, ns := 1, res := [.t 0 .b], gc := false, code :=
  (.seq (.reg 0 false (.op (some 0) .mov [(.k (.c (.bool false)))]
    .nil))
  (.seq (.reg 1 false (.op (some 2) (.call 9 [.agg]) [(.k (.c (.int .i64 3)))]
    (.op (some 3) (.call 10 [.agg]) [(.t 2), (.k (.c (.int .i64 0))), (.k (.c (.int .i64 1)))]
    (.op (some 4) (.call 10 [.agg]) [(.t 3), (.k (.c (.int .i64 1))), (.k (.c (.int .i64 2)))]
    (.al 1 0 ([Cell.int .i64 0] ++ List.replicate 64 (Cell.int .u64 0))
    (.op none (.stAll (.slot 0) 65) [(.t 1), (.t 4)]
    .nil))))))
  (.seq (.reg 2 false (.op (some 5) (.ldAll (.slot 0) 65) [(.t 1)]
    (.op (some 6) (.call 12 [.agg]) [(.t 5)]
    (.op (some 7) (.call 3 [.b]) [(.t 6), (.k (.c (.int .i64 0))), (.k (.c (.int .i64 2)))]
    (.op (some 8) .mov [(.t 7)]
    (.sc 8 true (.op (some 9) (.ldAll (.slot 0) 65) [(.t 1)]
    (.op (some 10) (.call 3 [.b]) [(.t 9), (.k (.c (.int .i64 0))), (.k (.c (.int .i64 2)))]
    (.op (some 11) (.un .not) [(.t 10)]
    .nil))) 11 12 false
    (.op (some 13) .mov [(.t 12)]
    (.sc 13 true (.op (some 14) (.ldAll (.slot 0) 65) [(.t 1)]
    (.op (some 15) (.call 26 [.b]) [(.t 14)]
    .nil)) 15 16 false
    (.op (some 17) .mov [(.t 16)]
    (.sc 17 true (.op (some 18) (.ldAll (.slot 0) 65) [(.t 1)]
    (.op (some 19) (.call 10 [.agg]) [(.t 18), (.k (.c (.int .i64 2))), (.k (.c (.int .i64 0)))]
    (.op (some 20) (.call 26 [.b]) [(.t 19)]
    (.op (some 21) (.un .not) [(.t 20)]
    .nil)))) 21 22 false
    (.op (some 23) .mov [(.t 22)]
    (.sc 23 true (.op (some 24) (.ldAll (.slot 0) 65) [(.t 1)]
    (.op (some 25) (.call 14 [(.i .i64)]) [(.t 24)]
    (.op (some 26) (.bin .eql) [(.t 25), (.k (.c (.int .i64 3)))]
    .nil))) 26 27 false
    (.op (some 0) .mov [(.t 27)]
    .nil)))))))))))))
  .ret))) }

/- jacquard/jacquardlaw8.RelPairs: 240 -/
def jacquardlaw8_RelPairs_b1 : IC :=
  (.seq (.seq (.reg 9 false (.op (some 29) .mov [(.t 10)]
    (.op (some 30) .mov [(.t 0)]
    (.op (some 31) (.bin .lss) [(.t 29), (.t 30)]
    .nil))))
  (.cond (.t 31)
  .skip
  (.exit 2)))
  (.seq (.blk 3 (.seq (.seq (.reg 11 false (.op (some 34) (.ldAll (.slot 0) 65) [(.t 5)]
    (.op (some 35) .mov [(.t 9)]
    (.op (some 36) .mov [(.t 10)]
    (.op (some 37) (.call 3 [.b]) [(.t 34), (.t 35), (.t 36)]
    (.op (some 38) .mov [(.t 9)]
    (.op (some 39) .mov [(.t 10)]
    (.op (some 40) (.call 7 [.b]) [(.t 6), (.t 38), (.t 39)]
    (.op (some 41) (.eqB true) [(.t 37), (.t 40)]
    .nil)))))))))
  (.cond (.t 41)
  (.seq (.reg 12 false (.op (some 4) .mov [(.k (.c (.bool false)))]
    .nil))
  .ret)
  .skip))
  (.seq (.seq (.reg 13 false (.op (some 42) .mov [(.t 9)]
    (.op (some 43) .mov [(.t 10)]
    (.op (some 44) (.call 7 [.b]) [(.t 6), (.t 42), (.t 43)]
    (.op (some 45) (.un .not) [(.t 44)]
    .nil)))))
  (.cond (.t 45)
  (.exit 3)
  .skip))
  (.seq (.seq (.reg 14 false (.op (some 46) .mov [(.t 8)]
    (.op (some 47) .mov [(.t 7)]
    (.op (some 48) .len [(.t 47)]
    (.op (some 49) (.bin .geq) [(.t 46), (.t 48)]
    (.op (some 50) .mov [(.t 49)]
    (.sc 50 false (.op (some 51) .mov [(.t 7)]
    (.op (some 52) .mov [(.t 8)]
    (.op (some 53) (.idxS 2) [(.t 51), (.t 52)]
    (.op (some 54) (.ldN .heap 2) [(.t 53)]
    (.op (some 55) .mov [(.t 9)]
    (.op (some 56) .mov [(.t 10)]
    (.op (some 57) (.build ([Cell.int .i64 0, Cell.int .i64 0]) [(0, 1), (1, 1)]) [(.t 55), (.t 56)]
    (.op (some 58) (.eqA true ([Cell.int .i64 0, Cell.int .i64 0])) [(.t 54), (.t 57)]
    .nil)))))))) 58 59 true
    .nil)))))))
  (.cond (.t 59)
  (.seq (.reg 15 false (.op (some 4) .mov [(.k (.c (.bool false)))]
    .nil))
  .ret)
  .skip))
  (.reg 16 false (.op (some 60) .mov [(.t 8)]
    (.op (some 61) (.bin .add) [(.t 60), (.k (.c (.int .i64 1)))]
    (.op (some 8) .mov [(.t 61)]
    .nil))))))))
  (.reg 10 false (.op (some 32) .mov [(.t 10)]
    (.op (some 33) (.bin .add) [(.t 32), (.k (.c (.int .i64 1)))]
    (.op (some 10) .mov [(.t 33)]
    .nil))))))
def jacquardlaw8_RelPairs_p2 : IC :=
  (.reg 7 false (.op (some 27) .mov [(.t 9)]
    (.op (some 28) (.bin .add) [(.t 27), (.k (.c (.int .i64 1)))]
    (.op (some 9) .mov [(.t 28)]
    .nil))))
def jacquardlaw8_RelPairs_b2 : IC :=
  (.seq (.seq (.reg 6 false (.op (some 24) .mov [(.t 9)]
    (.op (some 25) .mov [(.t 0)]
    (.op (some 26) (.bin .lss) [(.t 24), (.t 25)]
    .nil))))
  (.cond (.t 26)
  .skip
  (.exit 0)))
  (.seq (.blk 1 (.seq (.reg 8 false (.op (some 10) .mov [(.k (.c (.int .i64 0)))]
    .nil))
  (.blk 2 (.loop [0, 5, 6, 7, 8, 9, 10] [0] [(0, [4], []), (3, [0, 5, 6, 7, 8, 9], [0])] jacquardlaw8_RelPairs_b1))))
  jacquardlaw8_RelPairs_p2))
def jacquardlaw8_RelPairs_p1 : IC :=
  (.seq (.reg 17 false (.op (some 63) .mov [(.t 0)]
    (.op (some 64) .mov [(.t 7)]
    (.op (some 65) (.call 1 [.agg, .agg]) [(.t 63), (.t 64)]
    (.op (some 62) .mov [(.t 65)]
    (.op (some 66) (.ext 0) [(.t 62)]
    (.op (some 67) (.ext 1) [(.t 62)]
    (.al 11 1 ([Cell.int .i64 0] ++ List.replicate 64 (Cell.int .u64 0))
    (.al 12 2 ([Cell.int .i64 0] ++ List.replicate 64 (Cell.int .u64 0))
    (.op none (.stAll (.slot 1) 65) [(.t 11), (.t 66)]
    (.op none (.stAll (.slot 2) 65) [(.t 12), (.t 67)]
    .nil)))))))))))
  (.seq (.reg 18 false (.op (some 68) .mov [(.t 8)]
    (.op (some 69) .mov [(.t 7)]
    (.op (some 70) .len [(.t 69)]
    (.op (some 71) (.bin .eql) [(.t 68), (.t 70)]
    (.op (some 72) .mov [(.t 71)]
    (.sc 72 true (.op (some 73) .mov [(.t 8)]
    (.op (some 74) (.bin .gtr) [(.t 73), (.k (.c (.int .i64 200)))]
    (.op (some 75) .mov [(.t 74)]
    (.sc 75 false (.op (some 76) (.ldAll (.slot 1) 65) [(.t 11)]
    (.op (some 77) (.ldAll (.slot 0) 65) [(.t 5)]
    (.op (some 78) (.eqA false ([Cell.int .i64 0] ++ List.replicate 64 (Cell.int .u64 0))) [(.t 76), (.t 77)]
    .nil))) 78 79 true
    .nil)))) 79 80 false
    (.op (some 81) .mov [(.t 80)]
    (.sc 81 true (.op (some 82) (.ldAll (.slot 0) 65) [(.t 5)]
    (.op (some 83) (.call 3 [.b]) [(.t 82), (.k (.c (.int .i64 (-1)))), (.k (.c (.int .i64 0)))]
    (.op (some 84) (.un .not) [(.t 83)]
    .nil))) 84 85 false
    (.op (some 86) .mov [(.t 85)]
    (.sc 86 true (.op (some 87) (.ldAll (.slot 0) 65) [(.t 5)]
    (.op (some 88) (.call 3 [.b]) [(.t 87), (.k (.c (.int .i64 0))), (.k (.c (.int .i64 64)))]
    (.op (some 89) (.un .not) [(.t 88)]
    .nil))) 89 90 false
    (.op (some 91) .mov [(.t 90)]
    (.sc 91 true (.op (some 92) (.ldAll (.slot 0) 65) [(.t 5)]
    (.op (some 93) (.call 41 [(.i .u64)]) [(.t 92), (.k (.c (.int .i64 (-1))))]
    (.op (some 94) (.bin .eql) [(.t 93), (.k (.c (.int .u64 0)))]
    .nil))) 94 95 false
    (.op (some 96) .mov [(.t 95)]
    (.sc 96 true (.op (some 97) (.ldAll (.slot 0) 65) [(.t 5)]
    (.op (some 98) (.call 41 [(.i .u64)]) [(.t 97), (.k (.c (.int .i64 64)))]
    (.op (some 99) (.bin .eql) [(.t 98), (.k (.c (.int .u64 0)))]
    .nil))) 99 100 false
    (.op (some 101) .mov [(.t 100)]
    (.sc 101 true (.op (some 102) (.call 55 [.b]) []
    .nil) 102 103 false
    (.op (some 4) .mov [(.t 103)]
    .nil))))))))))))))))))
  .ret))
def jacquardlaw8_RelPairs : Fn := { np := 2, nt := 104, ns := 3, res := [.t 4 .b], gc := true, code :=
  (.seq (.reg 0 false (.op (some 4) .mov [(.k (.c (.bool false)))]
    .nil))
  (.seq (.reg 1 false (.op (some 13) .mov [(.t 0)]
    (.op (some 14) .mx [(.t 13), (.k (.c (.int .i64 0)))]
    (.op (some 15) .mn [(.t 14), (.k (.c (.int .i64 64)))]
    (.op (some 0) .mov [(.t 15)]
    .nil)))))
  (.seq (.reg 2 false (.op (some 17) .mov [(.t 0)]
    (.op (some 18) .mov [(.t 1)]
    (.op (some 19) (.call 1 [.agg, .agg]) [(.t 17), (.t 18)]
    (.op (some 16) .mov [(.t 19)]
    (.op (some 20) (.ext 0) [(.t 16)]
    (.op (some 21) (.ext 1) [(.t 16)]
    (.al 5 0 ([Cell.int .i64 0] ++ List.replicate 64 (Cell.int .u64 0))
    (.op (some 6) (.allocH ([Cell.int .i64 0] ++ List.replicate 64 (Cell.int .u64 0))) []
    (.op none (.stAll (.slot 0) 65) [(.t 5), (.t 20)]
    (.op none (.stAll .heap 65) [(.t 6), (.t 21)]
    .nil)))))))))))
  (.seq (.reg 3 false (.op (some 22) (.ldAll (.slot 0) 65) [(.t 5)]
    (.op (some 23) (.call 20 [.any]) [(.t 22)]
    (.op (some 7) .mov [(.t 23)]
    .nil))))
  (.seq (.reg 4 false (.op (some 8) .mov [(.k (.c (.int .i64 0)))]
    .nil))
  (.seq (.seq (.reg 5 false (.op (some 9) .mov [(.k (.c (.int .i64 0)))]
    .nil))
  (.blk 0 (.loop [0, 5, 6, 7, 8, 9] [0] [(0, [4], []), (1, [0, 5, 7, 8], [0])] jacquardlaw8_RelPairs_b2)))
  jacquardlaw8_RelPairs_p1)))))) }

/- jacquard/jacquardlaw8.RelThen: 241 -/
def jacquardlaw8_RelThen_b1 : IC :=
  (.seq (.seq (.reg 8 false (.op (some 51) .mov [(.t 20)]
    (.op (some 52) .mov [(.t 0)]
    (.op (some 53) (.bin .lss) [(.t 51), (.t 52)]
    .nil))))
  (.cond (.t 53)
  .skip
  (.exit 0)))
  (.seq (.blk 1 (.reg 10 false (.op (some 56) .mov [(.t 19)]
    (.op (some 57) .mov [(.t 56)]
    (.sc 57 false (.op (some 58) (.ldAll (.slot 0) 65) [(.t 13)]
    (.op (some 59) .mov [(.t 4)]
    (.op (some 60) .mov [(.t 20)]
    (.op (some 61) (.call 3 [.b]) [(.t 58), (.t 59), (.t 60)]
    (.op (some 62) .mov [(.t 61)]
    (.sc 62 true (.op (some 63) (.ldAll (.slot 2) 65) [(.t 15)]
    (.op (some 64) .mov [(.t 20)]
    (.op (some 65) .mov [(.t 5)]
    (.op (some 66) (.call 3 [.b]) [(.t 63), (.t 64), (.t 65)]
    .nil)))) 66 67 false
    .nil)))))) 67 68 true
    (.op (some 19) .mov [(.t 68)]
    .nil))))))
  (.reg 9 false (.op (some 54) .mov [(.t 20)]
    (.op (some 55) (.bin .add) [(.t 54), (.k (.c (.int .i64 1)))]
    (.op (some 20) .mov [(.t 55)]
    .nil))))))
def jacquardlaw8_RelThen_p1 : IC :=
  (.seq (.reg 11 true (.op (some 69) (.ldAll (.slot 0) 65) [(.t 13)]
    (.op (some 70) (.ldAll (.slot 2) 65) [(.t 15)]
    (.op (some 71) (.qcall 58 [.agg]) [(.t 69), (.t 70)]
    (.op (some 72) .mov [(.t 4)]
    (.op (some 73) .mov [(.t 5)]
    (.op (some 74) (.qcall 3 [.b]) [(.t 71), (.t 72), (.t 73)]
    (.op (some 75) .mov [(.t 19)]
    (.op (some 76) (.eqB false) [(.t 74), (.t 75)]
    (.op (some 77) .mov [(.t 76)]
    (.sc 77 true (.op (some 78) (.ldAll (.slot 0) 65) [(.t 13)]
    (.op (some 79) (.ldAll (.slot 2) 65) [(.t 15)]
    (.op (some 80) (.qcall 58 [.agg]) [(.t 78), (.t 79)]
    (.op (some 81) (.ldAll (.slot 4) 65) [(.t 17)]
    (.op (some 82) (.qcall 58 [.agg]) [(.t 80), (.t 81)]
    (.op (some 83) (.ldAll (.slot 0) 65) [(.t 13)]
    (.op (some 84) (.ldAll (.slot 2) 65) [(.t 15)]
    (.op (some 85) (.ldAll (.slot 4) 65) [(.t 17)]
    (.op (some 86) (.qcall 58 [.agg]) [(.t 84), (.t 85)]
    (.op (some 87) (.qcall 58 [.agg]) [(.t 83), (.t 86)]
    (.op (some 88) (.eqA false ([Cell.int .i64 0] ++ List.replicate 64 (Cell.int .u64 0))) [(.t 82), (.t 87)]
    .nil))))))))))) 88 89 false
    (.op (some 90) .mov [(.t 89)]
    (.sc 90 true (.op (some 91) (.ldAll (.slot 0) 65) [(.t 13)]
    (.op (some 92) (.ldAll (.slot 2) 65) [(.t 15)]
    (.op (some 93) (.qcall 59 [.agg]) [(.t 91), (.t 92)]
    (.op (some 94) (.ldAll (.slot 4) 65) [(.t 17)]
    (.op (some 95) (.qcall 58 [.agg]) [(.t 93), (.t 94)]
    (.op (some 96) (.ldAll (.slot 0) 65) [(.t 13)]
    (.op (some 97) (.ldAll (.slot 4) 65) [(.t 17)]
    (.op (some 98) (.qcall 58 [.agg]) [(.t 96), (.t 97)]
    (.op (some 99) (.ldAll (.slot 2) 65) [(.t 15)]
    (.op (some 100) (.ldAll (.slot 4) 65) [(.t 17)]
    (.op (some 101) (.qcall 58 [.agg]) [(.t 99), (.t 100)]
    (.op (some 102) (.qcall 59 [.agg]) [(.t 98), (.t 101)]
    (.op (some 103) (.eqA false ([Cell.int .i64 0] ++ List.replicate 64 (Cell.int .u64 0))) [(.t 95), (.t 102)]
    .nil))))))))))))) 103 104 false
    (.op (some 105) .mov [(.t 104)]
    (.sc 105 true (.op (some 106) (.qcall 55 [.b]) []
    .nil) 106 107 false
    (.op (some 12) .mov [(.t 107)]
    .nil))))))))))))))))
  .ret)
def jacquardlaw8_RelThen : Fn := { np := 6, nt := 108, ns := 6, res := [.t 12 .b], gc := false, code :=
  (.seq (.reg 0 false (.op (some 12) .mov [(.k (.c (.bool false)))]
    .nil))
  (.seq (.reg 1 false (.op (some 21) .mov [(.t 0)]
    (.op (some 22) (.bin .and) [(.t 21), (.k (.c (.int .i64 255)))]
    (.op (some 23) (.bin .rem) [(.t 22), (.k (.c (.int .i64 20)))]
    (.op (some 24) (.bin .add) [(.t 23), (.k (.c (.int .i64 1)))]
    (.op (some 0) .mov [(.t 24)]
    .nil))))))
  (.seq (.reg 2 true (.op (some 25) .mov [(.t 4)]
    (.op (some 26) (.bin .and) [(.t 25), (.k (.c (.int .i64 255)))]
    (.op (some 27) .mov [(.t 0)]
    (.op (some 28) (.bin .rem) [(.t 26), (.t 27)]
    (.op (some 29) .mov [(.t 5)]
    (.op (some 30) (.bin .and) [(.t 29), (.k (.c (.int .i64 255)))]
    (.op (some 31) .mov [(.t 0)]
    (.op (some 32) (.bin .rem) [(.t 30), (.t 31)]
    (.op (some 4) .mov [(.t 28)]
    (.op (some 5) .mov [(.t 32)]
    .nil)))))))))))
  (.seq (.reg 3 false (.op (some 34) .mov [(.t 0)]
    (.op (some 35) .mov [(.t 1)]
    (.op (some 36) (.call 1 [.agg, .agg]) [(.t 34), (.t 35)]
    (.op (some 33) .mov [(.t 36)]
    (.op (some 37) (.ext 0) [(.t 33)]
    (.op (some 38) (.ext 1) [(.t 33)]
    (.al 13 0 ([Cell.int .i64 0] ++ List.replicate 64 (Cell.int .u64 0))
    (.al 14 1 ([Cell.int .i64 0] ++ List.replicate 64 (Cell.int .u64 0))
    (.op none (.stAll (.slot 0) 65) [(.t 13), (.t 37)]
    (.op none (.stAll (.slot 1) 65) [(.t 14), (.t 38)]
    .nil)))))))))))
  (.seq (.reg 4 false (.op (some 40) .mov [(.t 0)]
    (.op (some 41) .mov [(.t 2)]
    (.op (some 42) (.call 1 [.agg, .agg]) [(.t 40), (.t 41)]
    (.op (some 39) .mov [(.t 42)]
    (.op (some 43) (.ext 0) [(.t 39)]
    (.op (some 44) (.ext 1) [(.t 39)]
    (.al 15 2 ([Cell.int .i64 0] ++ List.replicate 64 (Cell.int .u64 0))
    (.al 16 3 ([Cell.int .i64 0] ++ List.replicate 64 (Cell.int .u64 0))
    (.op none (.stAll (.slot 2) 65) [(.t 15), (.t 43)]
    (.op none (.stAll (.slot 3) 65) [(.t 16), (.t 44)]
    .nil)))))))))))
  (.seq (.reg 5 false (.op (some 46) .mov [(.t 0)]
    (.op (some 47) .mov [(.t 3)]
    (.op (some 48) (.call 1 [.agg, .agg]) [(.t 46), (.t 47)]
    (.op (some 45) .mov [(.t 48)]
    (.op (some 49) (.ext 0) [(.t 45)]
    (.op (some 50) (.ext 1) [(.t 45)]
    (.al 17 4 ([Cell.int .i64 0] ++ List.replicate 64 (Cell.int .u64 0))
    (.al 18 5 ([Cell.int .i64 0] ++ List.replicate 64 (Cell.int .u64 0))
    (.op none (.stAll (.slot 4) 65) [(.t 17), (.t 49)]
    (.op none (.stAll (.slot 5) 65) [(.t 18), (.t 50)]
    .nil)))))))))))
  (.seq (.reg 6 false (.op (some 19) .mov [(.k (.c (.bool false)))]
    .nil))
  (.seq (.seq (.reg 7 false (.op (some 20) .mov [(.k (.c (.int .i64 0)))]
    .nil))
  (.blk 0 (.loop [0, 4, 5, 13, 15, 17, 19, 20] [0, 2, 4] [(1, [4, 5, 13, 15, 17, 19], [0, 2, 4])] jacquardlaw8_RelThen_b1)))
  jacquardlaw8_RelThen_p1)))))))) }


end Jq

/- What a function needs of an environment. -/
namespace Jq
open Go

structure jacquardlaw8_Of_In (E : Env) : Prop where
  fn : E.fn 1 = some jacquardlaw8_Of
  c9 : rel_New_In E
  c10 : rel_Rel_Add_In E
  c13 : jacquardref6_Rel_Add_In E

structure jacquardlaw8_awake_In (E : Env) : Prop where
  fn : E.fn 55 = some jacquardlaw8_awake
  c3 : rel_Rel_Has_In E
  c9 : rel_New_In E
  c10 : rel_Rel_Add_In E
  c12 : rel_Rel_Closure_In E
  c14 : rel_Rel_N_In E
  c26 : rel_Rel_Acyclic_In E

structure jacquardlaw8_RelPairs_In (E : Env) : Prop where
  fn : E.fn 240 = some jacquardlaw8_RelPairs
  c1 : jacquardlaw8_Of_In E
  c3 : rel_Rel_Has_In E
  c7 : jacquardref6_Rel_Has_In E
  c20 : rel_Rel_Pairs_In E
  c41 : rel_Rel_Row_In E
  c55 : jacquardlaw8_awake_In E

structure jacquardlaw8_RelThen_In (E : Env) : Prop where
  fn : E.fn 241 = some jacquardlaw8_RelThen
  c1 : jacquardlaw8_Of_In E
  c3 : rel_Rel_Has_In E
  c55 : jacquardlaw8_awake_In E
  c58 : rel_Rel_Then_In E
  c59 : rel_Rel_Union_In E

end Jq

namespace Jq
open Go

/- jacquard/sleep.Covers: 368 -/
def sleep_Covers : Fn := { np := 2, nt := 13, ns := 0, res := [.t 4 .b], gc := false, code :=
  (.seq (.reg 0 false (.op (some 4) .mov [(.k (.c (.bool false)))]
    .nil))
  (.seq (.reg 1 false (.op (some 5) .mov [(.t 1)]
    (.op (some 6) (.bin .eql) [(.t 5), (.k (.c (.int .u64 0)))]
    (.op (some 7) .mov [(.t 6)]
    (.sc 7 false (.op (some 8) .mov [(.t 0)]
    (.op (some 9) .mov [(.t 1)]
    (.op (some 10) (.bin .and) [(.t 8), (.t 9)]
    (.op (some 11) (.bin .neq) [(.t 10), (.k (.c (.int .u64 0)))]
    .nil)))) 11 12 true
    (.op (some 4) .mov [(.t 12)]
    .nil))))))
  .ret)) }

/- jacquard/sleep.Clash: 390 -/
def sleep_Clash : Fn := { np := 3, nt := 58, ns := 2, res := [.t 6 .b], gc := false, code :=
  (.seq (.reg 0 false (.box 3 0 (.t 0)
    (.box 4 1 (.t 1)
    (.op (some 6) .mov [(.k (.c (.bool false)))]
    .nil))))
  (.seq (.seq (.reg 1 false (.op (some 7) (.addr 0) [(.t 3)]
    (.op (some 8) (.ld (.slot 0) (.i .i64)) [(.t 7)]
    (.op (some 9) (.addr 0) [(.t 4)]
    (.op (some 10) (.ld (.slot 1) (.i .i64)) [(.t 9)]
    (.op (some 11) (.bin .eql) [(.t 8), (.t 10)]
    .nil))))))
  (.cond (.t 11)
  (.seq (.reg 2 false (.op (some 6) .mov [(.k (.c (.bool true)))]
    .nil))
  .ret)
  .skip))
  (.seq (.seq (.reg 3 false (.op (some 12) (.addr 1) [(.t 3)]
    (.op (some 13) (.ld (.slot 0) (.i .i64)) [(.t 12)]
    (.op (some 14) (.addr 1) [(.t 4)]
    (.op (some 15) (.ld (.slot 1) (.i .i64)) [(.t 14)]
    (.op (some 16) (.bin .eql) [(.t 13), (.t 15)]
    .nil))))))
  (.cond (.t 16)
  (.seq (.reg 4 false (.op (some 17) (.addr 2) [(.t 3)]
    (.op (some 18) (.ld (.slot 0) (.i .i64)) [(.t 17)]
    (.op (some 19) (.bin .eql) [(.t 18), (.k (.c (.int .i64 6)))]
    (.op (some 20) .mov [(.t 19)]
    (.sc 20 true (.op (some 21) (.ldAll (.slot 1) 7) [(.t 4)]
    (.op (some 22) (.call 265 [.b]) [(.t 21)]
    .nil)) 22 23 false
    (.op (some 24) .mov [(.t 23)]
    (.sc 24 false (.op (some 25) (.addr 2) [(.t 4)]
    (.op (some 26) (.ld (.slot 1) (.i .i64)) [(.t 25)]
    (.op (some 27) (.bin .eql) [(.t 26), (.k (.c (.int .i64 6)))]
    (.op (some 28) .mov [(.t 27)]
    (.sc 28 true (.op (some 29) (.ldAll (.slot 0) 7) [(.t 3)]
    (.op (some 30) (.call 265 [.b]) [(.t 29)]
    .nil)) 30 31 false
    .nil))))) 31 32 true
    (.op (some 6) .mov [(.t 32)]
    .nil)))))))))
  .ret)
  .skip))
  (.seq (.reg 5 false (.op (some 33) (.ldAll (.slot 0) 7) [(.t 3)]
    (.op (some 34) .mov [(.t 2)]
    (.op (some 35) (.call 401 [.b]) [(.t 33), (.t 34)]
    (.op (some 36) .mov [(.t 35)]
    (.sc 36 true (.op (some 37) (.ldAll (.slot 1) 7) [(.t 4)]
    (.op (some 38) .mov [(.t 2)]
    (.op (some 39) (.call 401 [.b]) [(.t 37), (.t 38)]
    .nil))) 39 40 false
    (.op (some 41) .mov [(.t 40)]
    (.sc 41 true (.op (some 42) (.addr 3) [(.t 3)]
    (.op (some 43) (.ld (.slot 0) (.i .i64)) [(.t 42)]
    (.op (some 44) (.addr 3) [(.t 4)]
    (.op (some 45) (.ld (.slot 1) (.i .i64)) [(.t 44)]
    (.op (some 46) (.bin .eql) [(.t 43), (.t 45)]
    .nil))))) 46 47 false
    (.op (some 48) .mov [(.t 47)]
    (.sc 48 true (.op (some 49) (.ldAll (.slot 0) 7) [(.t 3)]
    (.op (some 50) .mov [(.t 2)]
    (.op (some 51) (.call 257 [.b]) [(.t 49), (.t 50)]
    (.op (some 52) .mov [(.t 51)]
    (.sc 52 false (.op (some 53) (.ldAll (.slot 1) 7) [(.t 4)]
    (.op (some 54) .mov [(.t 2)]
    (.op (some 55) (.call 257 [.b]) [(.t 53), (.t 54)]
    .nil))) 55 56 true
    .nil))))) 56 57 false
    (.op (some 6) .mov [(.t 57)]
    .nil)))))))))))
  .ret)))) }

/- jacquard/sleep.touches: 401 -/
def sleep_touches : Fn := { np := 2, nt := 12, ns := 1, res := [.t 4 .b], gc := false, code :=
  (.seq (.reg 0 false (.box 2 0 (.t 0)
    (.op (some 4) .mov [(.k (.c (.bool false)))]
    .nil)))
  (.seq (.reg 1 false (.op (some 5) (.ldAll (.slot 0) 7) [(.t 2)]
    (.op (some 6) .mov [(.t 1)]
    (.op (some 7) (.call 257 [.b]) [(.t 5), (.t 6)]
    (.op (some 8) .mov [(.t 7)]
    (.sc 8 false (.op (some 9) (.ldAll (.slot 0) 7) [(.t 2)]
    (.op (some 10) (.call 266 [.b]) [(.t 9)]
    .nil)) 10 11 true
    (.op (some 4) .mov [(.t 11)]
    .nil)))))))
  .ret)) }

/- jacquard/sleep.Wake: 406 -/
def sleep_Wake_b1 : IC :=
  (.seq (.reg 2 false (.op (some 14) (.bin .lss) [(.t 13), (.t 12)]
    .nil))
  (.seq (.cond (.t 14)
  .skip
  (.exit 0))
  (.seq (.blk 1 (.seq (.reg 3 false (.op (some 15) (.idxS 7) [(.t 11), (.t 13)]
    (.op (some 16) (.ldN .heap 7) [(.t 15)]
    (.al 10 1 (List.replicate 7 (Cell.int .i64 0))
    (.op none (.stAll (.slot 1) 7) [(.t 10), (.t 16)]
    .nil)))))
  (.seq (.reg 4 false (.op (some 17) (.ldAll (.slot 1) 7) [(.t 10)]
    (.op (some 18) (.ldAll (.slot 0) 7) [(.t 6)]
    (.op (some 19) .mov [(.t 3)]
    (.op (some 20) (.call 390 [.b]) [(.t 17), (.t 18), (.t 19)]
    .nil)))))
  (.cond (.t 20)
  (.reg 5 false (.op (some 21) .mov [(.t 0)]
    (.op (some 22) (.addr 0) [(.t 10)]
    (.op (some 23) (.ld (.slot 1) (.i .i64)) [(.t 22)]
    (.op (some 24) (.call 63 [(.i .u64)]) [(.t 21), (.t 23)]
    (.op (some 0) .mov [(.t 24)]
    .nil))))))
  .skip))))
  (.reg 6 false (.op (some 25) (.bin .add) [(.t 13), (.k (.c (.int .i64 1)))]
    (.op (some 13) .mov [(.t 25)]
    .nil))))))
def sleep_Wake_p1 : IC :=
  (.seq (.reg 7 false (.op (some 26) .mov [(.t 0)]
    (.op (some 8) .mov [(.t 26)]
    .nil)))
  .ret)
def sleep_Wake : Fn := { np := 4, nt := 27, ns := 2, res := [.t 8 (.i .u64)], gc := false, code :=
  (.seq (.reg 0 false (.box 6 0 (.t 2)
    (.op (some 8) .mov [(.k (.c (.int .u64 0)))]
    .nil)))
  (.seq (.seq (.reg 1 false (.op (some 11) .mov [(.t 1)]
    (.op (some 12) .len [(.t 11)]
    (.op (some 13) .mov [(.k (.c (.int .i64 0)))]
    .nil))))
  (.blk 0 (.loop [0, 3, 6, 11, 12, 13] [0] [(1, [0], [])] sleep_Wake_b1)))
  sleep_Wake_p1)) }

/- jacquard/sleep.Initials: 408 -/
def sleep_Initials_b1 : IC :=
  (.seq (.seq (.reg 8 false (.op (some 21) .mov [(.t 10)]
    (.op (some 22) .mov [(.t 1)]
    (.op (some 23) .len [(.t 22)]
    (.op (some 24) (.bin .lss) [(.t 21), (.t 23)]
    .nil)))))
  (.cond (.t 24)
  .skip
  (.exit 2)))
  (.seq (.blk 3 (.reg 10 false (.op (some 27) .mov [(.t 9)]
    (.op (some 28) .mov [(.t 27)]
    (.sc 28 true (.op (some 29) (.ldAll (.slot 0) 65) [(.t 3)]
    (.op (some 30) .mov [(.t 10)]
    (.op (some 31) .mov [(.t 8)]
    (.op (some 32) (.call 3 [.b]) [(.t 29), (.t 30), (.t 31)]
    (.op (some 33) (.un .not) [(.t 32)]
    .nil))))) 33 34 false
    (.op (some 9) .mov [(.t 34)]
    .nil))))))
  (.reg 9 false (.op (some 25) .mov [(.t 10)]
    (.op (some 26) (.bin .add) [(.t 25), (.k (.c (.int .i64 1)))]
    (.op (some 10) .mov [(.t 26)]
    .nil))))))
def sleep_Initials_p3 : IC :=
  (.seq (.reg 11 false (.op (some 35) .mov [(.t 9)]
    .nil))
  (.cond (.t 35)
  (.reg 12 false (.op (some 36) .mov [(.t 7)]
    (.op (some 37) .mov [(.t 1)]
    (.op (some 38) .mov [(.t 8)]
    (.op (some 39) (.idxS 1) [(.t 37), (.t 38)]
    (.op (some 40) (.ld .heap (.i .i64)) [(.t 39)]
    (.op (some 41) (.call 18 [(.i .u64)]) [(.t 36), (.t 40)]
    (.op (some 7) .mov [(.t 41)]
    .nil))))))))
  .skip))
def sleep_Initials_p2 : IC :=
  (.reg 5 false (.op (some 18) .mov [(.t 8)]
    (.op (some 19) (.bin .add) [(.t 18), (.k (.c (.int .i64 1)))]
    (.op (some 8) .mov [(.t 19)]
    .nil))))
def sleep_Initials_b2 : IC :=
  (.seq (.seq (.reg 4 false (.op (some 14) .mov [(.t 8)]
    (.op (some 15) .mov [(.t 1)]
    (.op (some 16) .len [(.t 15)]
    (.op (some 17) (.bin .lss) [(.t 14), (.t 16)]
    .nil)))))
  (.cond (.t 17)
  .skip
  (.exit 0)))
  (.seq (.blk 1 (.seq (.reg 6 false (.op (some 9) .mov [(.k (.c (.bool true)))]
    .nil))
  (.seq (.seq (.reg 7 false (.op (some 20) .mov [(.t 2)]
    (.op (some 10) .mov [(.t 20)]
    .nil)))
  (.blk 2 (.loop [1, 2, 3, 7, 8, 9, 10] [0] [(3, [1, 2, 3, 7, 8, 9], [0])] sleep_Initials_b1)))
  sleep_Initials_p3)))
  sleep_Initials_p2))
def sleep_Initials_p1 : IC :=
  (.seq (.reg 13 false (.op (some 42) .mov [(.t 7)]
    (.op (some 6) .mov [(.t 42)]
    .nil)))
  .ret)
def sleep_Initials : Fn := { np := 3, nt := 43, ns := 1, res := [.t 6 (.i .u64)], gc := false, code :=
  (.seq (.reg 0 false (.box 3 0 (.t 0)
    (.op (some 6) .mov [(.k (.c (.int .u64 0)))]
    .nil)))
  (.seq (.reg 1 false (.op (some 11) .mov [(.t 2)]
    (.op (some 12) .mx [(.t 11), (.k (.c (.int .i64 0)))]
    (.op (some 2) .mov [(.t 12)]
    .nil))))
  (.seq (.reg 2 false (.op (some 7) .mov [(.k (.c (.int .u64 0)))]
    .nil))
  (.seq (.seq (.reg 3 false (.op (some 13) .mov [(.t 2)]
    (.op (some 8) .mov [(.t 13)]
    .nil)))
  (.blk 0 (.loop [1, 2, 3, 7, 8] [0] [(1, [7], [])] sleep_Initials_b2)))
  sleep_Initials_p1)))) }


end Jq

namespace Jq
open Go

/- jacquard/trace.Writes: 257 -/
def trace_Writes : Fn := { np := 2, nt := 22, ns := 1, res := [.t 4 .b], gc := false, code :=
  (.seq (.reg 0 false (.box 2 0 (.t 0)
    (.op (some 4) .mov [(.k (.c (.bool false)))]
    .nil)))
  (.seq (.reg 1 false (.op (some 5) (.addr 2) [(.t 2)]
    (.op (some 6) (.ld (.slot 0) (.i .i64)) [(.t 5)]
    (.op (some 7) (.bin .eql) [(.t 6), (.k (.c (.int .i64 6)))]
    (.op (some 8) .mov [(.t 7)]
    (.sc 8 false (.op (some 9) (.addr 2) [(.t 2)]
    (.op (some 10) (.ld (.slot 0) (.i .i64)) [(.t 9)]
    (.op (some 11) (.bin .eql) [(.t 10), (.k (.c (.int .i64 4)))]
    .nil))) 11 12 true
    (.op (some 13) .mov [(.t 12)]
    (.sc 13 false (.op (some 14) .mov [(.t 1)]
    (.op (some 15) (.bin .eql) [(.t 14), (.k (.c (.int .i64 1)))]
    (.op (some 16) .mov [(.t 15)]
    (.sc 16 true (.op (some 17) (.addr 2) [(.t 2)]
    (.op (some 18) (.ld (.slot 0) (.i .i64)) [(.t 17)]
    (.op (some 19) (.bin .eql) [(.t 18), (.k (.c (.int .i64 2)))]
    .nil))) 19 20 false
    .nil)))) 20 21 true
    (.op (some 4) .mov [(.t 21)]
    .nil)))))))))
  .ret)) }

/- jacquard/trace.Fences: 265 -/
def trace_Fences : Fn := { np := 1, nt := 16, ns := 1, res := [.t 2 .b], gc := false, code :=
  (.seq (.reg 0 false (.box 1 0 (.t 0)
    (.op (some 2) .mov [(.k (.c (.bool false)))]
    .nil)))
  (.seq (.reg 1 false (.op (some 3) (.addr 2) [(.t 1)]
    (.op (some 4) (.ld (.slot 0) (.i .i64)) [(.t 3)]
    (.op (some 5) (.bin .eql) [(.t 4), (.k (.c (.int .i64 3)))]
    (.op (some 6) .mov [(.t 5)]
    (.sc 6 false (.op (some 7) (.addr 2) [(.t 1)]
    (.op (some 8) (.ld (.slot 0) (.i .i64)) [(.t 7)]
    (.op (some 9) (.bin .eql) [(.t 8), (.k (.c (.int .i64 4)))]
    .nil))) 9 10 true
    (.op (some 11) .mov [(.t 10)]
    (.sc 11 false (.op (some 12) (.addr 2) [(.t 1)]
    (.op (some 13) (.ld (.slot 0) (.i .i64)) [(.t 12)]
    (.op (some 14) (.bin .eql) [(.t 13), (.k (.c (.int .i64 5)))]
    .nil))) 14 15 true
    (.op (some 2) .mov [(.t 15)]
    .nil)))))))))
  .ret)) }

/- jacquard/trace.Reads: 266 -/
def trace_Reads : Fn := { np := 1, nt := 16, ns := 1, res := [.t 2 .b], gc := false, code :=
  (.seq (.reg 0 false (.box 1 0 (.t 0)
    (.op (some 2) .mov [(.k (.c (.bool false)))]
    .nil)))
  (.seq (.reg 1 false (.op (some 3) (.addr 2) [(.t 1)]
    (.op (some 4) (.ld (.slot 0) (.i .i64)) [(.t 3)]
    (.op (some 5) (.bin .eql) [(.t 4), (.k (.c (.int .i64 1)))]
    (.op (some 6) .mov [(.t 5)]
    (.sc 6 false (.op (some 7) (.addr 2) [(.t 1)]
    (.op (some 8) (.ld (.slot 0) (.i .i64)) [(.t 7)]
    (.op (some 9) (.bin .eql) [(.t 8), (.k (.c (.int .i64 4)))]
    .nil))) 9 10 true
    (.op (some 11) .mov [(.t 10)]
    (.sc 11 false (.op (some 12) (.addr 2) [(.t 1)]
    (.op (some 13) (.ld (.slot 0) (.i .i64)) [(.t 12)]
    (.op (some 14) (.bin .eql) [(.t 13), (.k (.c (.int .i64 5)))]
    .nil))) 14 15 true
    (.op (some 2) .mov [(.t 15)]
    .nil)))))))))
  .ret)) }


end Jq

namespace Jq
open Go


end Jq

/- What a function needs of an environment. -/
namespace Jq
open Go


end Jq

/- What a function needs of an environment. -/
namespace Jq
open Go

structure trace_Writes_In (E : Env) : Prop where
  fn : E.fn 257 = some trace_Writes

structure trace_Fences_In (E : Env) : Prop where
  fn : E.fn 265 = some trace_Fences

structure trace_Reads_In (E : Env) : Prop where
  fn : E.fn 266 = some trace_Reads

end Jq

/- What a function needs of an environment. -/
namespace Jq
open Go

structure sleep_touches_In (E : Env) : Prop where
  fn : E.fn 401 = some sleep_touches
  c257 : trace_Writes_In E
  c266 : trace_Reads_In E

structure sleep_Clash_In (E : Env) : Prop where
  fn : E.fn 390 = some sleep_Clash
  c257 : trace_Writes_In E
  c265 : trace_Fences_In E
  c401 : sleep_touches_In E

structure sleep_Covers_In (E : Env) : Prop where
  fn : E.fn 368 = some sleep_Covers

structure sleep_Initials_In (E : Env) : Prop where
  fn : E.fn 408 = some sleep_Initials
  c3 : rel_Rel_Has_In E
  c18 : set_Set_With_In E

structure sleep_Wake_In (E : Env) : Prop where
  fn : E.fn 406 = some sleep_Wake
  c63 : set_Set_Without_In E
  c390 : sleep_Clash_In E

end Jq

/- What a function needs of an environment. -/
namespace Jq
open Go

structure jacquardlaw21_awake_In (E : Env) : Prop where
  fn : E.fn 403 = some jacquardlaw21_awake
  c9 : rel_New_In E
  c368 : sleep_Covers_In E
  c390 : sleep_Clash_In E
  c408 : sleep_Initials_In E

structure jacquardlaw21_SleepWakes_In (E : Env) : Prop where
  fn : E.fn 407 = some jacquardlaw21_SleepWakes
  c17 : set_Set_Has_In E
  c368 : sleep_Covers_In E
  c390 : sleep_Clash_In E
  c403 : jacquardlaw21_awake_In E
  c406 : sleep_Wake_In E

structure jacquardlaw21_SleepTells_In (E : Env) : Prop where
  fn : E.fn 410 = some jacquardlaw21_SleepTells
  c1 : jacquardlaw8_Of_In E
  c7 : jacquardref6_Rel_Has_In E
  c368 : sleep_Covers_In E
  c390 : sleep_Clash_In E
  c403 : jacquardlaw21_awake_In E
  c406 : sleep_Wake_In E
  c408 : sleep_Initials_In E
  c409 : jacquardref16_Clash_In E

end Jq

/- The seat: where the functions that are reached lie in the given program, and that each is the given one. -/
namespace Go.Proofs.Ythnckbgdkljhfaa.LSleepTells
open Go Jq

def seatFn : Nat → Nat
  | 1 => 10
  | 3 => 22
  | 7 => 11
  | 9 => 14
  | 10 => 20
  | 13 => 21
  | 16 => 28
  | 17 => 8
  | 18 => 23
  | 19 => 19
  | 63 => 15
  | 176 => 25
  | 257 => 18
  | 265 => 16
  | 266 => 27
  | 368 => 9
  | 390 => 7
  | 401 => 17
  | 403 => 5
  | 406 => 6
  | 408 => 12
  | 409 => 13
  | 410 => 4
  | 411 => 24
  | 412 => 26
  | _ => 0

def envFn : Nat → Option Jq.Fn
  | 1 => some jacquardlaw8_Of
  | 3 => some rel_Rel_Has
  | 7 => some jacquardref6_Rel_Has
  | 9 => some rel_New
  | 10 => some rel_Rel_Add
  | 13 => some jacquardref6_Rel_Add
  | 16 => some rel_Rel_in
  | 17 => some set_Set_Has
  | 18 => some set_Set_With
  | 19 => some set_bit
  | 63 => some set_Set_Without
  | 176 => some jacquardref16_Writes
  | 257 => some trace_Writes
  | 265 => some trace_Fences
  | 266 => some trace_Reads
  | 368 => some sleep_Covers
  | 390 => some sleep_Clash
  | 401 => some sleep_touches
  | 403 => some jacquardlaw21_awake
  | 406 => some sleep_Wake
  | 408 => some sleep_Initials
  | 409 => some jacquardref16_Clash
  | 410 => some jacquardlaw21_SleepTells
  | 411 => some jacquardref16_own
  | 412 => some jacquardref16_reads
  | _ => none

def seatTab : Nat → List Cell := fun _ => []
noncomputable def seat : Seat := { P := Try.prog, fn := seatFn, gl := fun _ => 0, tab := seatTab }
def env : Env := { fn := envFn, tab := seatTab }

theorem mixed : true = true → seat.P.follows .mixedOrders = true := fun _ => by kernel_rfl

theorem ok_1 : FnOk seat 1 jacquardlaw8_Of := ⟨⟨Try.f10, _, drK seat true, Try.func10, rfl, by kernel_rfl, by kernel_rfl, by kernel_rfl, by kernel_rfl, fun _ _ h => draw_sound mixed h⟩⟩
theorem ok_3 : FnOk seat 3 rel_Rel_Has := ⟨⟨Try.f22, _, drK seat true, Try.func22, rfl, by kernel_rfl, by kernel_rfl, by kernel_rfl, by kernel_rfl, fun _ _ h => draw_sound mixed h⟩⟩
theorem ok_7 : FnOk seat 7 jacquardref6_Rel_Has := ⟨⟨Try.f11, _, drK seat true, Try.func11, rfl, by kernel_rfl, by kernel_rfl, by kernel_rfl, by kernel_rfl, fun _ _ h => draw_sound mixed h⟩⟩
theorem ok_9 : FnOk seat 9 rel_New := ⟨⟨Try.f14, _, drK seat true, Try.func14, rfl, by kernel_rfl, by kernel_rfl, by kernel_rfl, by kernel_rfl, fun _ _ h => draw_sound mixed h⟩⟩
theorem ok_10 : FnOk seat 10 rel_Rel_Add := ⟨⟨Try.f20, _, drK seat true, Try.func20, rfl, by kernel_rfl, by kernel_rfl, by kernel_rfl, by kernel_rfl, fun _ _ h => draw_sound mixed h⟩⟩
theorem ok_13 : FnOk seat 13 jacquardref6_Rel_Add := ⟨⟨Try.f21, _, drK seat true, Try.func21, rfl, by kernel_rfl, by kernel_rfl, by kernel_rfl, by kernel_rfl, fun _ _ h => draw_sound mixed h⟩⟩
theorem ok_16 : FnOk seat 16 rel_Rel_in := ⟨⟨Try.f28, _, drK seat true, Try.func28, rfl, by kernel_rfl, by kernel_rfl, by kernel_rfl, by kernel_rfl, fun _ _ h => draw_sound mixed h⟩⟩
theorem ok_17 : FnOk seat 17 set_Set_Has := ⟨⟨Try.f8, _, drK seat true, Try.func8, rfl, by kernel_rfl, by kernel_rfl, by kernel_rfl, by kernel_rfl, fun _ _ h => draw_sound mixed h⟩⟩
theorem ok_18 : FnOk seat 18 set_Set_With := ⟨⟨Try.f23, _, drK seat true, Try.func23, rfl, by kernel_rfl, by kernel_rfl, by kernel_rfl, by kernel_rfl, fun _ _ h => draw_sound mixed h⟩⟩
theorem ok_19 : FnOk seat 19 set_bit := ⟨⟨Try.f19, _, drK seat true, Try.func19, rfl, by kernel_rfl, by kernel_rfl, by kernel_rfl, by kernel_rfl, fun _ _ h => draw_sound mixed h⟩⟩
theorem ok_63 : FnOk seat 63 set_Set_Without := ⟨⟨Try.f15, _, drK seat true, Try.func15, rfl, by kernel_rfl, by kernel_rfl, by kernel_rfl, by kernel_rfl, fun _ _ h => draw_sound mixed h⟩⟩
theorem ok_176 : FnOk seat 176 jacquardref16_Writes := ⟨⟨Try.f25, _, drK seat true, Try.func25, rfl, by kernel_rfl, by kernel_rfl, by kernel_rfl, by kernel_rfl, fun _ _ h => draw_sound mixed h⟩⟩
theorem ok_257 : FnOk seat 257 trace_Writes := ⟨⟨Try.f18, _, drK seat true, Try.func18, rfl, by kernel_rfl, by kernel_rfl, by kernel_rfl, by kernel_rfl, fun _ _ h => draw_sound mixed h⟩⟩
theorem ok_265 : FnOk seat 265 trace_Fences := ⟨⟨Try.f16, _, drK seat true, Try.func16, rfl, by kernel_rfl, by kernel_rfl, by kernel_rfl, by kernel_rfl, fun _ _ h => draw_sound mixed h⟩⟩
theorem ok_266 : FnOk seat 266 trace_Reads := ⟨⟨Try.f27, _, drK seat true, Try.func27, rfl, by kernel_rfl, by kernel_rfl, by kernel_rfl, by kernel_rfl, fun _ _ h => draw_sound mixed h⟩⟩
theorem ok_368 : FnOk seat 368 sleep_Covers := ⟨⟨Try.f9, _, drK seat true, Try.func9, rfl, by kernel_rfl, by kernel_rfl, by kernel_rfl, by kernel_rfl, fun _ _ h => draw_sound mixed h⟩⟩
theorem ok_390 : FnOk seat 390 sleep_Clash := ⟨⟨Try.f7, _, drK seat true, Try.func7, rfl, by kernel_rfl, by kernel_rfl, by kernel_rfl, by kernel_rfl, fun _ _ h => draw_sound mixed h⟩⟩
theorem ok_401 : FnOk seat 401 sleep_touches := ⟨⟨Try.f17, _, drK seat true, Try.func17, rfl, by kernel_rfl, by kernel_rfl, by kernel_rfl, by kernel_rfl, fun _ _ h => draw_sound mixed h⟩⟩
theorem ok_403 : FnOk seat 403 jacquardlaw21_awake := ⟨⟨Try.f5, _, drK seat true, Try.func5, rfl, by kernel_rfl, by kernel_rfl, by kernel_rfl, by kernel_rfl, fun _ _ h => draw_sound mixed h⟩⟩
theorem ok_406 : FnOk seat 406 sleep_Wake := ⟨⟨Try.f6, _, drK seat true, Try.func6, rfl, by kernel_rfl, by kernel_rfl, by kernel_rfl, by kernel_rfl, fun _ _ h => draw_sound mixed h⟩⟩
theorem ok_408 : FnOk seat 408 sleep_Initials := ⟨⟨Try.f12, _, drK seat true, Try.func12, rfl, by kernel_rfl, by kernel_rfl, by kernel_rfl, by kernel_rfl, fun _ _ h => draw_sound mixed h⟩⟩
theorem ok_409 : FnOk seat 409 jacquardref16_Clash := ⟨⟨Try.f13, _, drK seat true, Try.func13, rfl, by kernel_rfl, by kernel_rfl, by kernel_rfl, by kernel_rfl, fun _ _ h => draw_sound mixed h⟩⟩
theorem ok_410 : FnOk seat 410 jacquardlaw21_SleepTells := ⟨⟨Try.f4, _, drK seat true, Try.func4, rfl, by kernel_rfl, by kernel_rfl, by kernel_rfl, by kernel_rfl, fun _ _ h => draw_sound mixed h⟩⟩
theorem ok_411 : FnOk seat 411 jacquardref16_own := ⟨⟨Try.f24, _, drK seat true, Try.func24, rfl, by kernel_rfl, by kernel_rfl, by kernel_rfl, by kernel_rfl, fun _ _ h => draw_sound mixed h⟩⟩
theorem ok_412 : FnOk seat 412 jacquardref16_reads := ⟨⟨Try.f26, _, drK seat true, Try.func26, rfl, by kernel_rfl, by kernel_rfl, by kernel_rfl, by kernel_rfl, fun _ _ h => draw_sound mixed h⟩⟩

theorem allOk : ∀ g fn, env.fn g = some fn → FnOk seat g fn := by
  intro g fn h
  unfold env envFn at h
  dsimp only at h
  split at h
  · cases h; exact ok_1
  · cases h; exact ok_3
  · cases h; exact ok_7
  · cases h; exact ok_9
  · cases h; exact ok_10
  · cases h; exact ok_13
  · cases h; exact ok_16
  · cases h; exact ok_17
  · cases h; exact ok_18
  · cases h; exact ok_19
  · cases h; exact ok_63
  · cases h; exact ok_176
  · cases h; exact ok_257
  · cases h; exact ok_265
  · cases h; exact ok_266
  · cases h; exact ok_368
  · cases h; exact ok_390
  · cases h; exact ok_401
  · cases h; exact ok_403
  · cases h; exact ok_406
  · cases h; exact ok_408
  · cases h; exact ok_409
  · cases h; exact ok_410
  · cases h; exact ok_411
  · cases h; exact ok_412
  · cases h

theorem in_9 : rel_New_In env := { fn := rfl }
theorem in_16 : rel_Rel_in_In env := { fn := rfl }
theorem in_19 : set_bit_In env := { fn := rfl }
theorem in_18 : set_Set_With_In env := { fn := rfl, c19 := in_19 }
theorem in_10 : rel_Rel_Add_In env := { fn := rfl, c16 := in_16, c18 := in_18 }
theorem in_13 : jacquardref6_Rel_Add_In env := { fn := rfl }
theorem in_1 : jacquardlaw8_Of_In env := { fn := rfl, c9 := in_9, c10 := in_10, c13 := in_13 }
theorem in_7 : jacquardref6_Rel_Has_In env := { fn := rfl }
theorem in_368 : sleep_Covers_In env := { fn := rfl }
theorem in_257 : trace_Writes_In env := { fn := rfl }
theorem in_265 : trace_Fences_In env := { fn := rfl }
theorem in_266 : trace_Reads_In env := { fn := rfl }
theorem in_401 : sleep_touches_In env := { fn := rfl, c257 := in_257, c266 := in_266 }
theorem in_390 : sleep_Clash_In env := { fn := rfl, c257 := in_257, c265 := in_265, c401 := in_401 }
theorem in_17 : set_Set_Has_In env := { fn := rfl, c19 := in_19 }
theorem in_3 : rel_Rel_Has_In env := { fn := rfl, c16 := in_16, c17 := in_17 }
theorem in_408 : sleep_Initials_In env := { fn := rfl, c3 := in_3, c18 := in_18 }
theorem in_403 : jacquardlaw21_awake_In env := { fn := rfl, c9 := in_9, c368 := in_368, c390 := in_390, c408 := in_408 }
theorem in_63 : set_Set_Without_In env := { fn := rfl, c19 := in_19 }
theorem in_406 : sleep_Wake_In env := { fn := rfl, c63 := in_63, c390 := in_390 }
theorem in_176 : jacquardref16_Writes_In env := { fn := rfl }
theorem in_411 : jacquardref16_own_In env := { fn := rfl }
theorem in_412 : jacquardref16_reads_In env := { fn := rfl }
theorem in_409 : jacquardref16_Clash_In env := { fn := rfl, c176 := in_176, c411 := in_411, c412 := in_412 }
theorem in_410 : jacquardlaw21_SleepTells_In env := { fn := rfl, c1 := in_1, c7 := in_7, c368 := in_368, c390 := in_390, c403 := in_403, c406 := in_406, c408 := in_408, c409 := in_409 }

end Go.Proofs.Ythnckbgdkljhfaa.LSleepTells

namespace Jq
open Go

/- (jacquard/set.Set).Has: 17 -/
set_option maxRecDepth 100000 in
theorem set_Set_Has_eq (C : CallF) (L : LoopF) (G : Glo) (a0 : Int) (a1 : Int) (h0 : AHeap) :
    set_Set_Has.body C L G [(.c (.int .u64 a0)), (.c (.int .i64 a1))] h0 =
    c1 (C 19 [(.c (.int .i64 a1))] h0) fun y_2 h_1 => asI .u64 y_2 fun n_3 => some ([(.c (.bool ((G.band .u64 a0 n_3) != 0)))], h_1) := by kernel_rfl

/- (jacquard/set.Set).With: 18 -/
set_option maxRecDepth 100000 in
theorem set_Set_With_eq (C : CallF) (L : LoopF) (G : Glo) (a0 : Int) (a1 : Int) (h0 : AHeap) :
    set_Set_With.body C L G [(.c (.int .u64 a0)), (.c (.int .i64 a1))] h0 =
    c1 (C 19 [(.c (.int .i64 a1))] h0) fun y_2 h_1 => asI .u64 y_2 fun n_3 => some ([(.c (.int .u64 (G.bor .u64 a0 n_3)))], h_1) := by kernel_rfl

/- jacquard/set.bit: 19 -/
set_option maxRecDepth 100000 in
theorem set_bit_eq (C : CallF) (L : LoopF) (G : Glo) (a0 : Int) (h0 : AHeap) :
    set_bit.body C L G [(.c (.int .i64 a0))] h0 =
    scK (decide (a0 < 0)) false (some ((decide (a0 ≥ 64)), h0)) true h0 fun b_1 h_2 => if b_1 = true then some ([(.c (.int .u64 0))], h_2) else if (G.wrap .u64 a0) < 0 then none else some ([(.c (.int .u64 (G.shl .u64 1 (G.wrap .u64 a0))))], h_2) := by kernel_rfl

/- (jacquard/set.Set).List: 32 -/
def set_Set_List_k2 (C : CallF) (L : LoopF) (G : Glo) (h0 : AHeap) : Ex → St → Option (List AV × AHeap) :=
  kSeq (fun st => set_Set_List_p1.exec C L G st (set_Set_List.fin G h0)) (set_Set_List.fin G h0)
def set_Set_List_k3 (C : CallF) (L : LoopF) (G : Glo) (h0 : AHeap) : Ex → St → Option (List AV × AHeap) :=
  kBlk 0 (set_Set_List_k2 C L G h0)
def set_Set_List_s1 (a0 : Int) (x3 : Cell) (h : AHeap) : St := ⟨[.v (.c (.int .u64 a0)), .top, .top, .v (.c x3), .top, .top, .top, .top, .top, .top, .top, .top, .top, .top, .top, .top], [], h⟩
def set_Set_List_F1 (C : CallF) (L : LoopF) (G : Glo) : St → Option (Ex × St) :=
  roundF (fun st f => set_Set_List_b1.exec C L G st f) [0, 3] [] [(1, [3], [])]
def set_Set_List_x1_1 (x3 : Cell) (h : AHeap) : St := ⟨[.top, .top, .top, .v (.c x3), .top, .top, .top, .top, .top, .top, .top, .top, .top, .top, .top, .top], [], h⟩
theorem set_Set_List_r1 (C : CallF) (L : LoopF) (G : Glo) (a0 : Int) (x3 : Cell) (h : AHeap) :
    set_Set_List_F1 C L G (set_Set_List_s1 a0 x3 h) =
    if (a0 != 0) = true then c1 (C 38 [(.c (.int .u64 a0))] h) fun y_2 h_1 => asI .i64 y_2 fun n_3 => if (splice [Cell.int .i64 0] 0 ([(.int .i64 n_3)] : List Cell)).length = 1 * 1 then appK 1 8 x3 (splice [Cell.int .i64 0] 0 ([(.int .i64 n_3)] : List Cell)) h_1 fun x_4 h_5 => some (.normal, (set_Set_List_s1 (G.band .u64 a0 (G.wrap .u64 (a0 - 1))) x_4 h_5)) else none else some ((.exit 0), (set_Set_List_x1_1 x3 h)) := by kernel_rfl
theorem set_Set_List_e1_1 (C : CallF) (L : LoopF) (G : Glo) (h0 : AHeap) (x3 : Cell) (h : AHeap) :
    (set_Set_List_k3 C L G h0) (.exit 0) (set_Set_List_x1_1 x3 h) =
    some ([(.c x3)], h) := by kernel_rfl
set_option maxRecDepth 100000 in
theorem set_Set_List_eq (C : CallF) (L : LoopF) (G : Glo) (a0 : Int) (h0 : AHeap) :
    set_Set_List.body C L G [(.c (.int .u64 a0))] h0 =
    (L (set_Set_List_F1 C L G) (set_Set_List_s1 a0 .nils h0)).bind fun p_6 => (set_Set_List_k3 C L G h0) p_6.1 p_6.2 := by kernel_rfl

/- (jacquard/set.Set).First: 38 -/
set_option maxRecDepth 100000 in
theorem set_Set_First_eq (C : CallF) (L : LoopF) (G : Glo) (a0 : Int) (h0 : AHeap) :
    set_Set_First.body C L G [(.c (.int .u64 a0))] h0 =
    if (a0 == 0) = true then some ([(.c (.int .i64 (-1)))], h0) else c1 (C 42 [(.c (.int .u64 a0))] h0) fun y_2 h_1 => asI .i64 y_2 fun n_3 => some ([(.c (.int .i64 n_3))], h_1) := by kernel_rfl

/- (jacquard/set.Set).Len: 56 -/
set_option maxRecDepth 100000 in
theorem set_Set_Len_eq (C : CallF) (L : LoopF) (G : Glo) (a0 : Int) (h0 : AHeap) :
    set_Set_Len.body C L G [(.c (.int .u64 a0))] h0 =
    c1 (C 57 [(.c (.int .u64 a0))] h0) fun y_2 h_1 => asI .i64 y_2 fun n_3 => some ([(.c (.int .i64 n_3))], h_1) := by kernel_rfl

/- (jacquard/set.Set).Next: 60 -/
set_option maxRecDepth 100000 in
theorem set_Set_Next_eq (C : CallF) (L : LoopF) (G : Glo) (a0 : Int) (h0 : AHeap) :
    set_Set_Next.body C L G [(.c (.int .u64 a0))] h0 =
    if (a0 == 0) = true then some ([(.c (.int .u64 0))], h0) else let v_1 : Int := (G.wrap .u64 (a0 + (G.band .u64 a0 (G.wrap .u64 (0 - a0))))); if (v_1 == 0) = true then some ([(.c (.int .u64 0))], h0) else c1 (C 38 [(.c (.int .u64 (G.band .u64 a0 (G.wrap .u64 (0 - a0)))))] h0) fun y_3 h_2 => asI .i64 y_3 fun n_4 => if (G.wrap .u64 n_4) < 0 then none else let v_5 : Int := (G.shr .u64 (G.shr .u64 (G.bxor .u64 a0 v_1) 2) (G.wrap .u64 n_4)); some ([(.c (.int .u64 (G.bor .u64 v_1 v_5)))], h_2) := by kernel_rfl

/- jacquard/set.Upto: 61 -/
set_option maxRecDepth 100000 in
theorem set_Upto_eq (C : CallF) (L : LoopF) (G : Glo) (a0 : Int) (h0 : AHeap) :
    set_Upto.body C L G [(.c (.int .i64 a0))] h0 =
    let v_1 : Int := (if 64 < (if 0 > a0 then 0 else a0) then 64 else (if 0 > a0 then 0 else a0)); if (v_1 == 64) = true then some ([(.c (.int .u64 18446744073709551615))], h0) else if (G.wrap .u64 v_1) < 0 then none else let v_2 : Int := (G.wrap .u64 ((G.shl .u64 1 (G.wrap .u64 v_1)) - 1)); some ([(.c (.int .u64 v_2))], h0) := by kernel_rfl

/- (jacquard/set.Set).Without: 63 -/
set_option maxRecDepth 100000 in
theorem set_Set_Without_eq (C : CallF) (L : LoopF) (G : Glo) (a0 : Int) (a1 : Int) (h0 : AHeap) :
    set_Set_Without.body C L G [(.c (.int .u64 a0)), (.c (.int .i64 a1))] h0 =
    c1 (C 19 [(.c (.int .i64 a1))] h0) fun y_2 h_1 => asI .u64 y_2 fun n_3 => some ([(.c (.int .u64 (G.bandNot .u64 a0 n_3)))], h_1) := by kernel_rfl

/- jacquard/set.Of: 65 -/
def set_Of_k2 (C : CallF) (L : LoopF) (G : Glo) (h0 : AHeap) : Ex → St → Option (List AV × AHeap) :=
  kSeq (fun st => set_Of_p1.exec C L G st (set_Of.fin G h0)) (set_Of.fin G h0)
def set_Of_k3 (C : CallF) (L : LoopF) (G : Glo) (h0 : AHeap) : Ex → St → Option (List AV × AHeap) :=
  kBlk 0 (set_Of_k2 C L G h0)
def set_Of_s1 (a3 : Int) (x6 : Cell) (a7 : Int) (a8 : Int) (h : AHeap) : St := ⟨[.top, .top, .top, .v (.c (.int .u64 a3)), .top, .top, .v (.c x6), .v (.c (.int .i64 a7)), .v (.c (.int .i64 a8)), .top, .top, .top, .top, .top, .top, .top, .top], [], h⟩
def set_Of_F1 (C : CallF) (L : LoopF) (G : Glo) : St → Option (Ex × St) :=
  roundF (fun st f => set_Of_b1.exec C L G st f) [3, 6, 7, 8] [] [(1, [3], [])]
def set_Of_x1_1 (a3 : Int) (h : AHeap) : St := ⟨[.top, .top, .top, .v (.c (.int .u64 a3)), .top, .top, .top, .top, .top, .top, .top, .top, .top, .top, .top, .top, .top], [], h⟩
theorem set_Of_r1 (C : CallF) (L : LoopF) (G : Glo) (a3 : Int) (x6 : Cell) (a7 : Int) (a8 : Int) (h : AHeap) :
    set_Of_F1 C L G (set_Of_s1 a3 x6 a7 a8 h) =
    if (decide (a8 < a7)) = true then idxSK 1 x6 a8 fun k_2 N_3 o_4 => rdH h k_2 N_3 fun l_5 => atK l_5 o_4 fun q_6 => asI .i64 (.c q_6) fun n_7 => c1 (C 18 [(.c (.int .u64 a3)), (.c (.int .i64 n_7))] h) fun y_9 h_8 => asI .u64 y_9 fun n_10 => some (.normal, (set_Of_s1 n_10 x6 a7 (G.wrap .i64 (a8 + 1)) h_8)) else some ((.exit 0), (set_Of_x1_1 a3 h)) := by kernel_rfl
theorem set_Of_e1_1 (C : CallF) (L : LoopF) (G : Glo) (h0 : AHeap) (a3 : Int) (h : AHeap) :
    (set_Of_k3 C L G h0) (.exit 0) (set_Of_x1_1 a3 h) =
    some ([(.c (.int .u64 a3))], h) := by kernel_rfl
set_option maxRecDepth 100000 in
theorem set_Of_eq (C : CallF) (L : LoopF) (G : Glo) (x0 : Cell) (h0 : AHeap) :
    set_Of.body C L G [(.c x0)] h0 =
    lenK x0 fun n_1 => (L (set_Of_F1 C L G) (set_Of_s1 0 x0 n_1 0 h0)).bind fun p_11 => (set_Of_k3 C L G h0) p_11.1 p_11.2 := by kernel_rfl


end Jq

/- Few numbers in one word: what the package's functions come to. -/
namespace Jq
open Go

/-- A number's bit. -/
def bitI (i : Int) : Nat := if 0 ≤ i ∧ i < 64 then 2 ^ i.toNat else 0

theorem bitI_lt (i : Int) : bitI i < 2 ^ 64 := by
  unfold bitI; split
  · exact Nat.pow_lt_pow_right (by omega) (by omega)
  · omega

theorem testBit_bitI (i : Int) (j : Nat) : (bitI i).testBit j = (decide (i = j) && decide (j < 64)) := by
  unfold bitI; split
  · rename_i h
    rw [Nat.testBit_two_pow]
    rw [Bool.eq_iff_iff]; simp; omega
  · rename_i h
    rw [Nat.zero_testBit, eq_comm, Bool.eq_false_iff]; simp; omega

/-- Whether a number is in it. -/
def hasI (s : Nat) (i : Int) : Bool := decide (0 ≤ i) && s.testBit i.toNat && decide (i < 64)

theorem and_bitI {s : Nat} (i : Int) : ((s &&& bitI i) != 0) = hasI s i := by
  unfold hasI bitI
  by_cases h : 0 ≤ i ∧ i < 64
  · rw [if_pos h]
    simp only [h.1, h.2, decide_true, Bool.true_and, Bool.and_true]
    cases hb : s.testBit i.toNat with
    | true =>
      simp only [bne_iff_ne, ne_eq]
      intro h0
      have := congrArg (fun x => x.testBit i.toNat) h0
      simp [Nat.testBit_and, hb, Nat.testBit_two_pow] at this
    | false =>
      have : s &&& 2 ^ i.toNat = 0 := by
        refine Nat.eq_of_testBit_eq fun j => ?_
        rw [Nat.testBit_and, Nat.testBit_two_pow, Nat.zero_testBit]
        by_cases hj : i.toNat = j
        · subst hj; simp [hb]
        · simp [hj]
      simp [this]
  · rw [if_neg h]
    have : ¬ (0 ≤ i) ∨ ¬ (i < 64) := by omega
    rcases this with h | h <;> simp [h]

theorem hasI_nat {s i : Nat} (hi : i < 64) : hasI s (i : Int) = s.testBit i := by
  unfold hasI; simp; omega

variable {E : Env}

theorem bit_R (hE : set_bit_In E) (i : Int) (h : AHeap) : R E 19 [.c (.int .i64 i)] h = some ([.c (.int .u64 (bitI i))], h) := by
  refine R_intro hE.fn ?_
  rw [set_bit_eq, scK_or]
  unfold bitI
  by_cases hi : 0 ≤ i ∧ i < 64
  · have h1 : (decide (i < 0) || decide (i ≥ 64)) = false := by simp; omega
    rw [h1, if_pos hi]
    obtain ⟨n, rfl⟩ := Int.eq_ofNat_of_zero_le hi.1
    have hw : E.glob.wrap .u64 (n : Int) = n := wrap_u64n (by omega)
    rw [hw]
    simp only [Bool.false_eq_true, if_false]
    rw [if_neg (by omega), show E.glob.shl .u64 1 (n : Int) = _ from std_shl_one (by omega)]
    simp
  · have h1 : (decide (i < 0) || decide (i ≥ 64)) = true := by simp; omega
    rw [h1, if_neg hi]; simp

theorem Has_R (hE : set_Set_Has_In E) {s : Nat} (hs : s < 2 ^ 64) (i : Int) (h : AHeap) : R E 17 [.c (.int .u64 s), .c (.int .i64 i)] h = some ([.c (.bool (hasI s i))], h) := by
  refine R_intro hE.fn ?_
  rw [set_Set_Has_eq, bit_R hE.c19, c1_ok, asI_ok, show E.glob.band .u64 (s : Int) _ = _ from std_band hs (bitI_lt i), ← and_bitI]
  have : (((s &&& bitI i : Nat) : Int) != 0) = (s &&& bitI i != 0) := by rw [Bool.eq_iff_iff]; simp
  rw [this]

theorem With_R (hE : set_Set_With_In E) {s : Nat} (hs : s < 2 ^ 64) (i : Int) (h : AHeap) : R E 18 [.c (.int .u64 s), .c (.int .i64 i)] h = some ([.c (.int .u64 ((s ||| bitI i : Nat) : Int))], h) := by
  refine R_intro hE.fn ?_
  rw [set_Set_With_eq, bit_R hE.c19, c1_ok, asI_ok, show E.glob.bor .u64 (s : Int) _ = _ from std_bor hs (bitI_lt i)]

theorem Without_R (hE : set_Set_Without_In E) {s : Nat} (hs : s < 2 ^ 64) (i : Int) (h : AHeap) : R E 63 [.c (.int .u64 s), .c (.int .i64 i)] h = some ([.c (.int .u64 ((ndiff s (bitI i) : Nat) : Int))], h) := by
  refine R_intro hE.fn ?_
  rw [set_Set_Without_eq, bit_R hE.c19, c1_ok, asI_ok, show E.glob.bandNot .u64 (s : Int) _ = _ from std_bandNot hs (bitI_lt i)]

end Jq

namespace Jq
open Go

/- (jacquard/rel.Rel).Has: 3 -/
set_option maxRecDepth 100000 in
theorem rel_Rel_Has_eq (C : CallF) (L : LoopF) (G : Glo) (l0 : List Cell) (a1 : Int) (a2 : Int) (h0 : AHeap) :
    rel_Rel_Has.body C L G [(.agg l0), (.c (.int .i64 a1)), (.c (.int .i64 a2))] h0 =
    if 0 = 0 ∧ l0.length = 65 then c1 (C 16 [(.agg l0), (.c (.int .i64 a1))] h0) fun y_2 h_1 => asB y_2 fun b_3 => scK b_3 true (if 0 ≤ a1 ∧ a1 < ((64 : Nat) : Int) then atK l0 (1 + ((Int.toNat a1) * 1)) fun q_4 => asI .u64 (.c q_4) fun n_5 => c1 (C 17 [(.c (.int .u64 n_5)), (.c (.int .i64 a2))] h_1) fun y_7 h_6 => asB y_7 fun b_8 => some (b_8, h_6) else none) false h_1 fun b_9 h_10 => some ([(.c (.bool b_9))], h_10) else none := by kernel_rfl

/- jacquard/rel.New: 9 -/
set_option maxRecDepth 100000 in
theorem rel_New_eq (C : CallF) (L : LoopF) (G : Glo) (a0 : Int) (h0 : AHeap) :
    rel_New.body C L G [(.c (.int .i64 a0))] h0 =
    let v_1 : Int := (if 64 < (if 0 > a0 then 0 else a0) then 64 else (if 0 > a0 then 0 else a0)); if 0 = 0 ∧ ([Cell.int .i64 0] ++ List.replicate 64 (Cell.int .u64 0)).length = 65 ∧ (splice ([Cell.int .i64 0] ++ List.replicate 64 (Cell.int .u64 0)) 0 ([(.int .i64 v_1)] : List Cell)).length = 65 then if 0 = 0 ∧ (splice ([Cell.int .i64 0] ++ List.replicate 64 (Cell.int .u64 0)) 0 ([(.int .i64 v_1)] : List Cell)).length = 65 then some ([(.agg (splice ([Cell.int .i64 0] ++ List.replicate 64 (Cell.int .u64 0)) 0 ([(.int .i64 v_1)] : List Cell)))], h0) else none else none := by kernel_rfl

/- (jacquard/rel.Rel).Add: 10 -/
set_option maxRecDepth 100000 in
theorem rel_Rel_Add_eq (C : CallF) (L : LoopF) (G : Glo) (l0 : List Cell) (a1 : Int) (a2 : Int) (h0 : AHeap) :
    rel_Rel_Add.body C L G [(.agg l0), (.c (.int .i64 a1)), (.c (.int .i64 a2))] h0 =
    if 0 = 0 ∧ l0.length = 65 then c1 (C 16 [(.agg l0), (.c (.int .i64 a1))] h0) fun y_2 h_1 => asB y_2 fun b_3 => scK b_3 true (if 0 = 0 ∧ l0.length = 65 then c1 (C 16 [(.agg l0), (.c (.int .i64 a2))] h_1) fun y_5 h_4 => asB y_5 fun b_6 => some (b_6, h_4) else none) false h_1 fun b_7 h_8 => if b_7 = true then if 0 ≤ a1 ∧ a1 < ((64 : Nat) : Int) then atK l0 (1 + ((Int.toNat a1) * 1)) fun q_9 => asI .u64 (.c q_9) fun n_10 => c1 (C 18 [(.c (.int .u64 n_10)), (.c (.int .i64 a2))] h_8) fun y_12 h_11 => asI .u64 y_12 fun n_13 => if 0 ≤ a1 ∧ a1 < ((64 : Nat) : Int) then if (1 + ((Int.toNat a1) * 1)) < l0.length then if 0 = 0 ∧ (l0.set (1 + ((Int.toNat a1) * 1)) (.int .u64 n_13)).length = 65 then if 0 = 0 ∧ ([Cell.int .i64 0] ++ List.replicate 64 (Cell.int .u64 0)).length = 65 ∧ (l0.set (1 + ((Int.toNat a1) * 1)) (.int .u64 n_13)).length = 65 then if 0 = 0 ∧ (l0.set (1 + ((Int.toNat a1) * 1)) (.int .u64 n_13)).length = 65 then some ([(.agg (l0.set (1 + ((Int.toNat a1) * 1)) (.int .u64 n_13)))], h_11) else none else none else none else none else none else none else if 0 = 0 ∧ l0.length = 65 then if 0 = 0 ∧ ([Cell.int .i64 0] ++ List.replicate 64 (Cell.int .u64 0)).length = 65 ∧ l0.length = 65 then if 0 = 0 ∧ l0.length = 65 then some ([(.agg l0)], h_8) else none else none else none else none := by kernel_rfl

/- (jacquard/rel.Rel).Closure: 12 -/
def rel_Rel_Closure_k2 (C : CallF) (L : LoopF) (G : Glo) (h0 : AHeap) : Ex → St → Option (List AV × AHeap) :=
  kSeq (fun st => rel_Rel_Closure_p1.exec C L G st (rel_Rel_Closure.fin G h0)) (rel_Rel_Closure.fin G h0)
def rel_Rel_Closure_k3 (C : CallF) (L : LoopF) (G : Glo) (h0 : AHeap) : Ex → St → Option (List AV × AHeap) :=
  kBlk 0 (rel_Rel_Closure_k2 C L G h0)
def rel_Rel_Closure_s2 (a6 : Int) (a7 : Int) (s0 : List Cell) (s1 : List Cell) (h : AHeap) : St := ⟨[.top, .loc 0 0, .loc 1 0, .top, .top, .top, .v (.c (.int .i64 a6)), .v (.c (.int .i64 a7)), .top, .top, .top, .top, .top, .top, .top, .top, .top, .top, .top, .top, .top, .top, .top, .top, .top, .top, .top, .top, .top, .top, .top, .top, .top, .top, .top], [some s0, some s1], h⟩
def rel_Rel_Closure_F2 (C : CallF) (L : LoopF) (G : Glo) : St → Option (Ex × St) :=
  roundF (fun st f => rel_Rel_Closure_b2.exec C L G st f) [1, 2, 6, 7] [0, 1] [(1, [1, 2], [0, 1])]
def rel_Rel_Closure_k4 (C : CallF) (L : LoopF) (G : Glo) : Ex → St → Option (Ex × St) :=
  kSeq (fun st => rel_Rel_Closure_p2.exec C L G st (kLoop [1, 2, 6, 7] [0, 1] [(1, [1, 2], [0, 1])])) (kLoop [1, 2, 6, 7] [0, 1] [(1, [1, 2], [0, 1])])
def rel_Rel_Closure_k5 (C : CallF) (L : LoopF) (G : Glo) : Ex → St → Option (Ex × St) :=
  kBlk 1 (rel_Rel_Closure_k4 C L G)
def rel_Rel_Closure_k6 (C : CallF) (L : LoopF) (G : Glo) : Ex → St → Option (Ex × St) :=
  kBlk 2 (rel_Rel_Closure_k5 C L G)
def rel_Rel_Closure_s1 (a3 : Int) (a6 : Int) (a7 : Int) (a11 : Int) (a12 : Int) (s0 : List Cell) (s1 : List Cell) (h : AHeap) : St := ⟨[.top, .loc 0 0, .loc 1 0, .v (.c (.int .i64 a3)), .top, .top, .v (.c (.int .i64 a6)), .v (.c (.int .i64 a7)), .top, .top, .top, .v (.c (.int .i64 a11)), .v (.c (.int .i64 a12)), .top, .top, .top, .top, .top, .top, .top, .top, .top, .top, .top, .top, .top, .top, .top, .top, .top, .top, .top, .top, .top, .top], [some s0, some s1], h⟩
def rel_Rel_Closure_F1 (C : CallF) (L : LoopF) (G : Glo) : St → Option (Ex × St) :=
  roundF (fun st f => rel_Rel_Closure_b1.exec C L G st f) [1, 2, 3, 6, 7, 11, 12] [0, 1] [(3, [1, 2, 6, 7], [0, 1])]
def rel_Rel_Closure_x1_3 (a6 : Int) (a7 : Int) (s0 : List Cell) (s1 : List Cell) (h : AHeap) : St := ⟨[.top, .loc 0 0, .loc 1 0, .top, .top, .top, .v (.c (.int .i64 a6)), .v (.c (.int .i64 a7)), .top, .top, .top, .top, .top, .top, .top, .top, .top, .top, .top, .top, .top, .top, .top, .top, .top, .top, .top, .top, .top, .top, .top, .top, .top, .top, .top], [some s0, some s1], h⟩
def rel_Rel_Closure_x2_1 (s0 : List Cell) (s1 : List Cell) (h : AHeap) : St := ⟨[.top, .loc 0 0, .loc 1 0, .top, .top, .top, .top, .top, .top, .top, .top, .top, .top, .top, .top, .top, .top, .top, .top, .top, .top, .top, .top, .top, .top, .top, .top, .top, .top, .top, .top, .top, .top, .top, .top], [some s0, some s1], h⟩
theorem rel_Rel_Closure_r1 (C : CallF) (L : LoopF) (G : Glo) (a3 : Int) (a6 : Int) (a7 : Int) (a11 : Int) (a12 : Int) (s0 : List Cell) (s1 : List Cell) (h : AHeap) :
    rel_Rel_Closure_F1 C L G (rel_Rel_Closure_s1 a3 a6 a7 a11 a12 s0 s1 h) =
    if (decide (a12 < a11)) = true then if 0 ≤ a12 ∧ a12 < ((64 : Nat) : Int) then atK s0 (1 + ((Int.toNat a12) * 1)) fun q_5 => asI .u64 (.c q_5) fun n_6 => c1 (C 17 [(.c (.int .u64 n_6)), (.c (.int .i64 a3))] h) fun y_8 h_7 => asB y_8 fun b_9 => if b_9 = true then if 0 ≤ a12 ∧ a12 < ((64 : Nat) : Int) then atK s0 (1 + ((Int.toNat a12) * 1)) fun q_10 => asI .u64 (.c q_10) fun n_11 => if 0 ≤ a3 ∧ a3 < ((64 : Nat) : Int) then atK s0 (1 + ((Int.toNat a3) * 1)) fun q_12 => asI .u64 (.c q_12) fun n_13 => if 0 ≤ a12 ∧ a12 < ((64 : Nat) : Int) then if (1 + ((Int.toNat a12) * 1)) < s0.length then some (.normal, (rel_Rel_Closure_s1 a3 a6 a7 a11 (G.wrap .i64 (a12 + 1)) (s0.set (1 + ((Int.toNat a12) * 1)) (.int .u64 (G.bor .u64 n_11 n_13))) s1 h_7)) else none else none else none else none else some (.normal, (rel_Rel_Closure_s1 a3 a6 a7 a11 (G.wrap .i64 (a12 + 1)) s0 s1 h_7)) else none else some ((.exit 2), (rel_Rel_Closure_x1_3 a6 a7 s0 s1 h)) := by kernel_rfl
theorem rel_Rel_Closure_e1_3 (C : CallF) (L : LoopF) (G : Glo) (a6 : Int) (a7 : Int) (s0 : List Cell) (s1 : List Cell) (h : AHeap) :
    (rel_Rel_Closure_k6 C L G) (.exit 2) (rel_Rel_Closure_x1_3 a6 a7 s0 s1 h) =
    some (.normal, (rel_Rel_Closure_s2 a6 (G.wrap .i64 (a7 + 1)) s0 s1 h)) := by kernel_rfl
theorem rel_Rel_Closure_r2 (C : CallF) (L : LoopF) (G : Glo) (a6 : Int) (a7 : Int) (s0 : List Cell) (s1 : List Cell) (h : AHeap) :
    rel_Rel_Closure_F2 C L G (rel_Rel_Closure_s2 a6 a7 s0 s1 h) =
    if (decide (a7 < a6)) = true then atK s0 0 fun q_3 => asI .i64 (.c q_3) fun n_4 => (L (rel_Rel_Closure_F1 C L G) (rel_Rel_Closure_s1 a7 a6 a7 n_4 0 s0 s1 h)).bind fun p_14 => (rel_Rel_Closure_k6 C L G) p_14.1 p_14.2 else some ((.exit 0), (rel_Rel_Closure_x2_1 s0 s1 h)) := by kernel_rfl
theorem rel_Rel_Closure_e2_1 (C : CallF) (L : LoopF) (G : Glo) (h0 : AHeap) (s0 : List Cell) (s1 : List Cell) (h : AHeap) :
    (rel_Rel_Closure_k3 C L G h0) (.exit 0) (rel_Rel_Closure_x2_1 s0 s1 h) =
    if 0 = 0 ∧ s0.length = 65 then if 0 = 0 ∧ s1.length = 65 ∧ s0.length = 65 then if 0 = 0 ∧ s0.length = 65 then some ([(.agg s0)], h) else none else none else none := by kernel_rfl
set_option maxRecDepth 100000 in
theorem rel_Rel_Closure_eq (C : CallF) (L : LoopF) (G : Glo) (l0 : List Cell) (h0 : AHeap) :
    rel_Rel_Closure.body C L G [(.agg l0)] h0 =
    atK l0 0 fun q_1 => asI .i64 (.c q_1) fun n_2 => (L (rel_Rel_Closure_F2 C L G) (rel_Rel_Closure_s2 n_2 0 l0 ([Cell.int .i64 0] ++ List.replicate 64 (Cell.int .u64 0)) h0)).bind fun p_15 => (rel_Rel_Closure_k3 C L G h0) p_15.1 p_15.2 := by kernel_rfl

/- (jacquard/rel.Rel).N: 14 -/
set_option maxRecDepth 100000 in
theorem rel_Rel_N_eq (C : CallF) (L : LoopF) (G : Glo) (l0 : List Cell) (h0 : AHeap) :
    rel_Rel_N.body C L G [(.agg l0)] h0 =
    atK l0 0 fun q_1 => asI .i64 (.c q_1) fun n_2 => some ([(.c (.int .i64 n_2))], h0) := by kernel_rfl

/- (jacquard/rel.Rel).in: 16 -/
set_option maxRecDepth 100000 in
theorem rel_Rel_in_eq (C : CallF) (L : LoopF) (G : Glo) (l0 : List Cell) (a1 : Int) (h0 : AHeap) :
    rel_Rel_in.body C L G [(.agg l0), (.c (.int .i64 a1))] h0 =
    scK (decide (a1 ≥ 0)) true (atK l0 0 fun q_1 => asI .i64 (.c q_1) fun n_2 => some ((decide (a1 < n_2)), h0)) false h0 fun b_3 h_4 => some ([(.c (.bool b_3))], h_4) := by kernel_rfl

/- (jacquard/rel.Rel).Pairs: 20 -/
def rel_Rel_Pairs_k2 (C : CallF) (L : LoopF) (G : Glo) (h0 : AHeap) : Ex → St → Option (List AV × AHeap) :=
  kSeq (fun st => rel_Rel_Pairs_p1.exec C L G st (rel_Rel_Pairs.fin G h0)) (rel_Rel_Pairs.fin G h0)
def rel_Rel_Pairs_k3 (C : CallF) (L : LoopF) (G : Glo) (h0 : AHeap) : Ex → St → Option (List AV × AHeap) :=
  kBlk 0 (rel_Rel_Pairs_k2 C L G h0)
def rel_Rel_Pairs_s2 (x3 : Cell) (a8 : Int) (a9 : Int) (s0 : List Cell) (h : AHeap) : St := ⟨[.top, .loc 0 0, .top, .v (.c x3), .top, .top, .top, .top, .v (.c (.int .i64 a8)), .v (.c (.int .i64 a9)), .top, .top, .top, .top, .top, .top, .top, .top, .top, .top, .top, .top, .top, .top, .top, .top, .top, .top, .top, .top, .top], [some s0], h⟩
def rel_Rel_Pairs_F2 (C : CallF) (L : LoopF) (G : Glo) : St → Option (Ex × St) :=
  roundF (fun st f => rel_Rel_Pairs_b2.exec C L G st f) [1, 3, 8, 9] [0] [(1, [3], [])]
def rel_Rel_Pairs_k4 (C : CallF) (L : LoopF) (G : Glo) : Ex → St → Option (Ex × St) :=
  kSeq (fun st => rel_Rel_Pairs_p2.exec C L G st (kLoop [1, 3, 8, 9] [0] [(1, [3], [])])) (kLoop [1, 3, 8, 9] [0] [(1, [3], [])])
def rel_Rel_Pairs_k5 (C : CallF) (L : LoopF) (G : Glo) : Ex → St → Option (Ex × St) :=
  kBlk 1 (rel_Rel_Pairs_k4 C L G)
def rel_Rel_Pairs_k6 (C : CallF) (L : LoopF) (G : Glo) : Ex → St → Option (Ex × St) :=
  kBlk 2 (rel_Rel_Pairs_k5 C L G)
def rel_Rel_Pairs_s1 (x3 : Cell) (a4 : Int) (a8 : Int) (a9 : Int) (x16 : Cell) (a17 : Int) (a18 : Int) (s0 : List Cell) (h : AHeap) : St := ⟨[.top, .loc 0 0, .top, .v (.c x3), .v (.c (.int .i64 a4)), .top, .top, .top, .v (.c (.int .i64 a8)), .v (.c (.int .i64 a9)), .top, .top, .top, .top, .top, .top, .v (.c x16), .v (.c (.int .i64 a17)), .v (.c (.int .i64 a18)), .top, .top, .top, .top, .top, .top, .top, .top, .top, .top, .top, .top], [some s0], h⟩
def rel_Rel_Pairs_F1 (C : CallF) (L : LoopF) (G : Glo) : St → Option (Ex × St) :=
  roundF (fun st f => rel_Rel_Pairs_b1.exec C L G st f) [1, 3, 4, 8, 9, 16, 17, 18] [0] [(3, [1, 3, 8, 9], [0])]
def rel_Rel_Pairs_x1_3 (x3 : Cell) (a8 : Int) (a9 : Int) (s0 : List Cell) (h : AHeap) : St := ⟨[.top, .loc 0 0, .top, .v (.c x3), .top, .top, .top, .top, .v (.c (.int .i64 a8)), .v (.c (.int .i64 a9)), .top, .top, .top, .top, .top, .top, .top, .top, .top, .top, .top, .top, .top, .top, .top, .top, .top, .top, .top, .top, .top], [some s0], h⟩
def rel_Rel_Pairs_x2_1 (x3 : Cell) (h : AHeap) : St := ⟨[.top, .top, .top, .v (.c x3), .top, .top, .top, .top, .top, .top, .top, .top, .top, .top, .top, .top, .top, .top, .top, .top, .top, .top, .top, .top, .top, .top, .top, .top, .top, .top, .top], [none], h⟩
theorem rel_Rel_Pairs_r1 (C : CallF) (L : LoopF) (G : Glo) (x3 : Cell) (a4 : Int) (a8 : Int) (a9 : Int) (x16 : Cell) (a17 : Int) (a18 : Int) (s0 : List Cell) (h : AHeap) :
    rel_Rel_Pairs_F1 C L G (rel_Rel_Pairs_s1 x3 a4 a8 a9 x16 a17 a18 s0 h) =
    if (decide (a18 < a17)) = true then idxSK 1 x16 a18 fun k_9 N_10 o_11 => rdH h k_9 N_10 fun l_12 => atK l_12 o_11 fun q_13 => asI .i64 (.c q_13) fun n_14 => if (splice (splice [Cell.int .i64 0, Cell.int .i64 0] 0 ([(.int .i64 a4)] : List Cell)) 1 ([(.int .i64 n_14)] : List Cell)).length = 2 ∧ 0 + 2 ≤ [Cell.int .i64 0, Cell.int .i64 0].length then if (splice [Cell.int .i64 0, Cell.int .i64 0] 0 (splice (splice [Cell.int .i64 0, Cell.int .i64 0] 0 ([(.int .i64 a4)] : List Cell)) 1 ([(.int .i64 n_14)] : List Cell))).length = 1 * 2 then appK 2 16 x3 (splice [Cell.int .i64 0, Cell.int .i64 0] 0 (splice (splice [Cell.int .i64 0, Cell.int .i64 0] 0 ([(.int .i64 a4)] : List Cell)) 1 ([(.int .i64 n_14)] : List Cell))) h fun x_15 h_16 => some (.normal, (rel_Rel_Pairs_s1 x_15 a4 a8 a9 x16 a17 (G.wrap .i64 (a18 + 1)) s0 h_16)) else none else none else some ((.exit 2), (rel_Rel_Pairs_x1_3 x3 a8 a9 s0 h)) := by kernel_rfl
theorem rel_Rel_Pairs_e1_3 (C : CallF) (L : LoopF) (G : Glo) (x3 : Cell) (a8 : Int) (a9 : Int) (s0 : List Cell) (h : AHeap) :
    (rel_Rel_Pairs_k6 C L G) (.exit 2) (rel_Rel_Pairs_x1_3 x3 a8 a9 s0 h) =
    some (.normal, (rel_Rel_Pairs_s2 x3 a8 (G.wrap .i64 (a9 + 1)) s0 h)) := by kernel_rfl
theorem rel_Rel_Pairs_r2 (C : CallF) (L : LoopF) (G : Glo) (x3 : Cell) (a8 : Int) (a9 : Int) (s0 : List Cell) (h : AHeap) :
    rel_Rel_Pairs_F2 C L G (rel_Rel_Pairs_s2 x3 a8 a9 s0 h) =
    if (decide (a9 < a8)) = true then if 0 ≤ a9 ∧ a9 < ((64 : Nat) : Int) then atK s0 (1 + ((Int.toNat a9) * 1)) fun q_3 => asI .u64 (.c q_3) fun n_4 => c1 (C 32 [(.c (.int .u64 n_4))] h) fun y_6 h_5 => asC y_6 fun x_7 => lenK x_7 fun n_8 => (L (rel_Rel_Pairs_F1 C L G) (rel_Rel_Pairs_s1 x3 a9 a8 a9 x_7 n_8 0 s0 h_5)).bind fun p_17 => (rel_Rel_Pairs_k6 C L G) p_17.1 p_17.2 else none else some ((.exit 0), (rel_Rel_Pairs_x2_1 x3 h)) := by kernel_rfl
theorem rel_Rel_Pairs_e2_1 (C : CallF) (L : LoopF) (G : Glo) (h0 : AHeap) (x3 : Cell) (h : AHeap) :
    (rel_Rel_Pairs_k3 C L G h0) (.exit 0) (rel_Rel_Pairs_x2_1 x3 h) =
    some ([(.c x3)], h) := by kernel_rfl
set_option maxRecDepth 100000 in
theorem rel_Rel_Pairs_eq (C : CallF) (L : LoopF) (G : Glo) (l0 : List Cell) (h0 : AHeap) :
    rel_Rel_Pairs.body C L G [(.agg l0)] h0 =
    atK l0 0 fun q_1 => asI .i64 (.c q_1) fun n_2 => (L (rel_Rel_Pairs_F2 C L G) (rel_Rel_Pairs_s2 .nils n_2 0 l0 h0)).bind fun p_18 => (rel_Rel_Pairs_k3 C L G h0) p_18.1 p_18.2 := by kernel_rfl

/- (jacquard/rel.Rel).Acyclic: 26 -/
def rel_Rel_Acyclic_k2 (C : CallF) (L : LoopF) (G : Glo) (h0 : AHeap) : Ex → St → Option (List AV × AHeap) :=
  kSeq (fun st => rel_Rel_Acyclic_p1.exec C L G st (rel_Rel_Acyclic.fin G h0)) (rel_Rel_Acyclic.fin G h0)
def rel_Rel_Acyclic_k3 (C : CallF) (L : LoopF) (G : Glo) (h0 : AHeap) : Ex → St → Option (List AV × AHeap) :=
  kBlk 0 (rel_Rel_Acyclic_k2 C L G h0)
def rel_Rel_Acyclic_s1 (a8 : Int) (a9 : Int) (s1 : List Cell) (h : AHeap) : St := ⟨[.top, .top, .top, .loc 1 0, .top, .top, .top, .top, .v (.c (.int .i64 a8)), .v (.c (.int .i64 a9)), .top, .top, .top, .top, .top, .top, .top, .top, .top], [none, some s1], h⟩
def rel_Rel_Acyclic_F1 (C : CallF) (L : LoopF) (G : Glo) : St → Option (Ex × St) :=
  roundF (fun st f => rel_Rel_Acyclic_b1.exec C L G st f) [3, 8, 9] [1] [(0, [2], []), (1, [], [])]
def rel_Rel_Acyclic_x1_0 (b2 : Bool) (h : AHeap) : St := ⟨[.top, .top, .v (.c (.bool b2)), .top, .top, .top, .top, .top, .top, .top, .top, .top, .top, .top, .top, .top, .top, .top, .top], [none, none], h⟩
def rel_Rel_Acyclic_x1_1 (h : AHeap) : St := ⟨[.top, .top, .top, .top, .top, .top, .top, .top, .top, .top, .top, .top, .top, .top, .top, .top, .top, .top, .top], [none, none], h⟩
theorem rel_Rel_Acyclic_r1 (C : CallF) (L : LoopF) (G : Glo) (a8 : Int) (a9 : Int) (s1 : List Cell) (h : AHeap) :
    rel_Rel_Acyclic_F1 C L G (rel_Rel_Acyclic_s1 a8 a9 s1 h) =
    if (decide (a9 < a8)) = true then if 0 ≤ a9 ∧ a9 < ((64 : Nat) : Int) then atK s1 (1 + ((Int.toNat a9) * 1)) fun q_6 => asI .u64 (.c q_6) fun n_7 => c1 (C 17 [(.c (.int .u64 n_7)), (.c (.int .i64 a9))] h) fun y_9 h_8 => asB y_9 fun b_10 => if b_10 = true then some (.ret, (rel_Rel_Acyclic_x1_0 false h_8)) else some (.normal, (rel_Rel_Acyclic_s1 a8 (G.wrap .i64 (a9 + 1)) s1 h_8)) else none else some ((.exit 0), (rel_Rel_Acyclic_x1_1 h)) := by kernel_rfl
theorem rel_Rel_Acyclic_e1_0 (C : CallF) (L : LoopF) (G : Glo) (h0 : AHeap) (b2 : Bool) (h : AHeap) :
    (rel_Rel_Acyclic_k3 C L G h0) .ret (rel_Rel_Acyclic_x1_0 b2 h) =
    some ([(.c (.bool b2))], h) := by kernel_rfl
theorem rel_Rel_Acyclic_e1_1 (C : CallF) (L : LoopF) (G : Glo) (h0 : AHeap) (h : AHeap) :
    (rel_Rel_Acyclic_k3 C L G h0) (.exit 0) (rel_Rel_Acyclic_x1_1 h) =
    some ([(.c (.bool true))], h) := by kernel_rfl
set_option maxRecDepth 100000 in
theorem rel_Rel_Acyclic_eq (C : CallF) (L : LoopF) (G : Glo) (l0 : List Cell) (h0 : AHeap) :
    rel_Rel_Acyclic.body C L G [(.agg l0)] h0 =
    if 0 = 0 ∧ l0.length = 65 then c1 (C 12 [(.agg l0)] h0) fun y_2 h_1 => asA y_2 fun l_3 => if 0 = 0 ∧ ([Cell.int .i64 0] ++ List.replicate 64 (Cell.int .u64 0)).length = 65 ∧ l_3.length = 65 then atK l_3 0 fun q_4 => asI .i64 (.c q_4) fun n_5 => (L (rel_Rel_Acyclic_F1 C L G) (rel_Rel_Acyclic_s1 n_5 0 l_3 h_1)).bind fun p_11 => (rel_Rel_Acyclic_k3 C L G h0) p_11.1 p_11.2 else none else none := by kernel_rfl

/- (jacquard/rel.Rel).Inverse: 40 -/
def rel_Rel_Inverse_k2 (C : CallF) (L : LoopF) (G : Glo) (h0 : AHeap) : Ex → St → Option (List AV × AHeap) :=
  kSeq (fun st => rel_Rel_Inverse_p1.exec C L G st (rel_Rel_Inverse.fin G h0)) (rel_Rel_Inverse.fin G h0)
def rel_Rel_Inverse_k3 (C : CallF) (L : LoopF) (G : Glo) (h0 : AHeap) : Ex → St → Option (List AV × AHeap) :=
  kBlk 0 (rel_Rel_Inverse_k2 C L G h0)
def rel_Rel_Inverse_s2 (a10 : Int) (a11 : Int) (s0 : List Cell) (s1 : List Cell) (s2 : List Cell) (h : AHeap) : St := ⟨[.top, .loc 0 0, .loc 1 0, .loc 2 0, .top, .top, .top, .top, .top, .top, .v (.c (.int .i64 a10)), .v (.c (.int .i64 a11)), .top, .top, .top, .top, .top, .top, .top, .top, .top, .top, .top, .top, .top, .top, .top, .top, .top, .top, .top, .top, .top, .top, .top, .top, .top], [some s0, some s1, some s2], h⟩
def rel_Rel_Inverse_F2 (C : CallF) (L : LoopF) (G : Glo) : St → Option (Ex × St) :=
  roundF (fun st f => rel_Rel_Inverse_b2.exec C L G st f) [1, 2, 3, 10, 11] [0, 1, 2] [(1, [2, 3], [1, 2])]
def rel_Rel_Inverse_k4 (C : CallF) (L : LoopF) (G : Glo) : Ex → St → Option (Ex × St) :=
  kSeq (fun st => rel_Rel_Inverse_p2.exec C L G st (kLoop [1, 2, 3, 10, 11] [0, 1, 2] [(1, [2, 3], [1, 2])])) (kLoop [1, 2, 3, 10, 11] [0, 1, 2] [(1, [2, 3], [1, 2])])
def rel_Rel_Inverse_k5 (C : CallF) (L : LoopF) (G : Glo) : Ex → St → Option (Ex × St) :=
  kBlk 1 (rel_Rel_Inverse_k4 C L G)
def rel_Rel_Inverse_k6 (C : CallF) (L : LoopF) (G : Glo) : Ex → St → Option (Ex × St) :=
  kBlk 2 (rel_Rel_Inverse_k5 C L G)
def rel_Rel_Inverse_s1 (a4 : Int) (a5 : Int) (a10 : Int) (a11 : Int) (s0 : List Cell) (s1 : List Cell) (s2 : List Cell) (h : AHeap) : St := ⟨[.top, .loc 0 0, .loc 1 0, .loc 2 0, .v (.c (.int .i64 a4)), .v (.c (.int .u64 a5)), .top, .top, .top, .top, .v (.c (.int .i64 a10)), .v (.c (.int .i64 a11)), .top, .top, .top, .top, .top, .top, .top, .top, .top, .top, .top, .top, .top, .top, .top, .top, .top, .top, .top, .top, .top, .top, .top, .top, .top], [some s0, some s1, some s2], h⟩
def rel_Rel_Inverse_F1 (C : CallF) (L : LoopF) (G : Glo) : St → Option (Ex × St) :=
  roundF (fun st f => rel_Rel_Inverse_b1.exec C L G st f) [1, 2, 3, 4, 5, 10, 11] [0, 1, 2] [(3, [1, 2, 3, 10, 11], [0, 1, 2])]
def rel_Rel_Inverse_x1_3 (a10 : Int) (a11 : Int) (s0 : List Cell) (s1 : List Cell) (s2 : List Cell) (h : AHeap) : St := ⟨[.top, .loc 0 0, .loc 1 0, .loc 2 0, .top, .top, .top, .top, .top, .top, .v (.c (.int .i64 a10)), .v (.c (.int .i64 a11)), .top, .top, .top, .top, .top, .top, .top, .top, .top, .top, .top, .top, .top, .top, .top, .top, .top, .top, .top, .top, .top, .top, .top, .top, .top], [some s0, some s1, some s2], h⟩
def rel_Rel_Inverse_x2_1 (s1 : List Cell) (s2 : List Cell) (h : AHeap) : St := ⟨[.top, .top, .loc 1 0, .loc 2 0, .top, .top, .top, .top, .top, .top, .top, .top, .top, .top, .top, .top, .top, .top, .top, .top, .top, .top, .top, .top, .top, .top, .top, .top, .top, .top, .top, .top, .top, .top, .top, .top, .top], [none, some s1, some s2], h⟩
theorem rel_Rel_Inverse_r1 (C : CallF) (L : LoopF) (G : Glo) (a4 : Int) (a5 : Int) (a10 : Int) (a11 : Int) (s0 : List Cell) (s1 : List Cell) (s2 : List Cell) (h : AHeap) :
    rel_Rel_Inverse_F1 C L G (rel_Rel_Inverse_s1 a4 a5 a10 a11 s0 s1 s2 h) =
    if (a5 != 0) = true then c1 (C 38 [(.c (.int .u64 a5))] h) fun y_11 h_10 => asI .i64 y_11 fun n_12 => c1 (C 38 [(.c (.int .u64 a5))] h_10) fun y_14 h_13 => asI .i64 y_14 fun n_15 => if 0 ≤ n_15 ∧ n_15 < ((64 : Nat) : Int) then atK s2 (1 + ((Int.toNat n_15) * 1)) fun q_16 => asI .u64 (.c q_16) fun n_17 => c1 (C 18 [(.c (.int .u64 n_17)), (.c (.int .i64 a4))] h_13) fun y_19 h_18 => asI .u64 y_19 fun n_20 => if 0 ≤ n_12 ∧ n_12 < ((64 : Nat) : Int) then if (1 + ((Int.toNat n_12) * 1)) < s2.length then some (.normal, (rel_Rel_Inverse_s1 a4 (G.band .u64 a5 (G.wrap .u64 (a5 - 1))) a10 a11 s0 s1 (s2.set (1 + ((Int.toNat n_12) * 1)) (.int .u64 n_20)) h_18)) else none else none else none else some ((.exit 2), (rel_Rel_Inverse_x1_3 a10 a11 s0 s1 s2 h)) := by kernel_rfl
theorem rel_Rel_Inverse_e1_3 (C : CallF) (L : LoopF) (G : Glo) (a10 : Int) (a11 : Int) (s0 : List Cell) (s1 : List Cell) (s2 : List Cell) (h : AHeap) :
    (rel_Rel_Inverse_k6 C L G) (.exit 2) (rel_Rel_Inverse_x1_3 a10 a11 s0 s1 s2 h) =
    some (.normal, (rel_Rel_Inverse_s2 a10 (G.wrap .i64 (a11 + 1)) s0 s1 s2 h)) := by kernel_rfl
theorem rel_Rel_Inverse_r2 (C : CallF) (L : LoopF) (G : Glo) (a10 : Int) (a11 : Int) (s0 : List Cell) (s1 : List Cell) (s2 : List Cell) (h : AHeap) :
    rel_Rel_Inverse_F2 C L G (rel_Rel_Inverse_s2 a10 a11 s0 s1 s2 h) =
    if (decide (a11 < a10)) = true then if 0 ≤ a11 ∧ a11 < ((64 : Nat) : Int) then atK s0 (1 + ((Int.toNat a11) * 1)) fun q_8 => asI .u64 (.c q_8) fun n_9 => (L (rel_Rel_Inverse_F1 C L G) (rel_Rel_Inverse_s1 a11 n_9 a10 a11 s0 s1 s2 h)).bind fun p_21 => (rel_Rel_Inverse_k6 C L G) p_21.1 p_21.2 else none else some ((.exit 0), (rel_Rel_Inverse_x2_1 s1 s2 h)) := by kernel_rfl
theorem rel_Rel_Inverse_e2_1 (C : CallF) (L : LoopF) (G : Glo) (h0 : AHeap) (s1 : List Cell) (s2 : List Cell) (h : AHeap) :
    (rel_Rel_Inverse_k3 C L G h0) (.exit 0) (rel_Rel_Inverse_x2_1 s1 s2 h) =
    if 0 = 0 ∧ s2.length = 65 then if 0 = 0 ∧ s1.length = 65 ∧ s2.length = 65 then if 0 = 0 ∧ s2.length = 65 then some ([(.agg s2)], h) else none else none else none := by kernel_rfl
set_option maxRecDepth 100000 in
theorem rel_Rel_Inverse_eq (C : CallF) (L : LoopF) (G : Glo) (l0 : List Cell) (h0 : AHeap) :
    rel_Rel_Inverse.body C L G [(.agg l0)] h0 =
    atK l0 0 fun q_1 => asI .i64 (.c q_1) fun n_2 => c1 (C 9 [(.c (.int .i64 n_2))] h0) fun y_4 h_3 => asA y_4 fun l_5 => if 0 = 0 ∧ ([Cell.int .i64 0] ++ List.replicate 64 (Cell.int .u64 0)).length = 65 ∧ l_5.length = 65 then atK l0 0 fun q_6 => asI .i64 (.c q_6) fun n_7 => (L (rel_Rel_Inverse_F2 C L G) (rel_Rel_Inverse_s2 n_7 0 l0 ([Cell.int .i64 0] ++ List.replicate 64 (Cell.int .u64 0)) l_5 h_3)).bind fun p_22 => (rel_Rel_Inverse_k3 C L G h0) p_22.1 p_22.2 else none := by kernel_rfl

/- (jacquard/rel.Rel).Row: 41 -/
set_option maxRecDepth 100000 in
theorem rel_Rel_Row_eq (C : CallF) (L : LoopF) (G : Glo) (l0 : List Cell) (a1 : Int) (h0 : AHeap) :
    rel_Rel_Row.body C L G [(.agg l0), (.c (.int .i64 a1))] h0 =
    if 0 = 0 ∧ l0.length = 65 then c1 (C 16 [(.agg l0), (.c (.int .i64 a1))] h0) fun y_2 h_1 => asB y_2 fun b_3 => if (!b_3) = true then some ([(.c (.int .u64 0))], h_1) else if 0 ≤ a1 ∧ a1 < ((64 : Nat) : Int) then atK l0 (1 + ((Int.toNat a1) * 1)) fun q_4 => asI .u64 (.c q_4) fun n_5 => some ([(.c (.int .u64 n_5))], h_1) else none else none := by kernel_rfl

/- (jacquard/rel.Rel).Then: 58 -/
def rel_Rel_Then_k2 (C : CallF) (L : LoopF) (G : Glo) (h0 : AHeap) : Ex → St → Option (List AV × AHeap) :=
  kSeq (fun st => rel_Rel_Then_p1.exec C L G st (rel_Rel_Then.fin G h0)) (rel_Rel_Then.fin G h0)
def rel_Rel_Then_k3 (C : CallF) (L : LoopF) (G : Glo) (h0 : AHeap) : Ex → St → Option (List AV × AHeap) :=
  kBlk 0 (rel_Rel_Then_k2 C L G h0)
def rel_Rel_Then_s2 (a6 : Int) (a19 : Int) (a20 : Int) (s0 : List Cell) (s1 : List Cell) (s2 : List Cell) (s3 : List Cell) (h : AHeap) : St := ⟨[.top, .top, .loc 0 0, .loc 1 0, .loc 2 0, .loc 3 0, .v (.c (.int .u64 a6)), .top, .top, .top, .top, .top, .top, .top, .top, .top, .top, .top, .top, .v (.c (.int .i64 a19)), .v (.c (.int .i64 a20)), .top, .top, .top, .top, .top, .top, .top, .top, .top, .top, .top, .top, .top, .top, .top, .top, .top, .top, .top, .top, .top, .top, .top, .top, .top, .top, .top, .top, .top, .top], [some s0, some s1, some s2, some s3], h⟩
def rel_Rel_Then_F2 (C : CallF) (L : LoopF) (G : Glo) : St → Option (Ex × St) :=
  roundF (fun st f => rel_Rel_Then_b2.exec C L G st f) [2, 3, 4, 5, 6, 19, 20] [0, 1, 2, 3] [(1, [4, 5], [2, 3])]
def rel_Rel_Then_k4 (C : CallF) (L : LoopF) (G : Glo) : Ex → St → Option (Ex × St) :=
  kSeq (fun st => rel_Rel_Then_p2.exec C L G st (kLoop [2, 3, 4, 5, 6, 19, 20] [0, 1, 2, 3] [(1, [4, 5], [2, 3])])) (kLoop [2, 3, 4, 5, 6, 19, 20] [0, 1, 2, 3] [(1, [4, 5], [2, 3])])
def rel_Rel_Then_k5 (C : CallF) (L : LoopF) (G : Glo) : Ex → St → Option (Ex × St) :=
  kBlk 1 (rel_Rel_Then_k4 C L G)
def rel_Rel_Then_k6 (C : CallF) (L : LoopF) (G : Glo) : Ex → St → Option (Ex × St) :=
  kBlk 2 (rel_Rel_Then_k5 C L G)
def rel_Rel_Then_s1 (a6 : Int) (a7 : Int) (a8 : Int) (a19 : Int) (a20 : Int) (s0 : List Cell) (s1 : List Cell) (s2 : List Cell) (s3 : List Cell) (h : AHeap) : St := ⟨[.top, .top, .loc 0 0, .loc 1 0, .loc 2 0, .loc 3 0, .v (.c (.int .u64 a6)), .v (.c (.int .i64 a7)), .v (.c (.int .u64 a8)), .top, .top, .top, .top, .top, .top, .top, .top, .top, .top, .v (.c (.int .i64 a19)), .v (.c (.int .i64 a20)), .top, .top, .top, .top, .top, .top, .top, .top, .top, .top, .top, .top, .top, .top, .top, .top, .top, .top, .top, .top, .top, .top, .top, .top, .top, .top, .top, .top, .top, .top], [some s0, some s1, some s2, some s3], h⟩
def rel_Rel_Then_F1 (C : CallF) (L : LoopF) (G : Glo) : St → Option (Ex × St) :=
  roundF (fun st f => rel_Rel_Then_b1.exec C L G st f) [2, 3, 4, 5, 6, 7, 8, 19, 20] [0, 1, 2, 3] [(3, [2, 3, 4, 5, 6, 19, 20], [0, 1, 2, 3])]
def rel_Rel_Then_x1_3 (a6 : Int) (a19 : Int) (a20 : Int) (s0 : List Cell) (s1 : List Cell) (s2 : List Cell) (s3 : List Cell) (h : AHeap) : St := ⟨[.top, .top, .loc 0 0, .loc 1 0, .loc 2 0, .loc 3 0, .v (.c (.int .u64 a6)), .top, .top, .top, .top, .top, .top, .top, .top, .top, .top, .top, .top, .v (.c (.int .i64 a19)), .v (.c (.int .i64 a20)), .top, .top, .top, .top, .top, .top, .top, .top, .top, .top, .top, .top, .top, .top, .top, .top, .top, .top, .top, .top, .top, .top, .top, .top, .top, .top, .top, .top, .top, .top], [some s0, some s1, some s2, some s3], h⟩
def rel_Rel_Then_x2_1 (s2 : List Cell) (s3 : List Cell) (h : AHeap) : St := ⟨[.top, .top, .top, .top, .loc 2 0, .loc 3 0, .top, .top, .top, .top, .top, .top, .top, .top, .top, .top, .top, .top, .top, .top, .top, .top, .top, .top, .top, .top, .top, .top, .top, .top, .top, .top, .top, .top, .top, .top, .top, .top, .top, .top, .top, .top, .top, .top, .top, .top, .top, .top, .top, .top, .top], [none, none, some s2, some s3], h⟩
theorem rel_Rel_Then_r1 (C : CallF) (L : LoopF) (G : Glo) (a6 : Int) (a7 : Int) (a8 : Int) (a19 : Int) (a20 : Int) (s0 : List Cell) (s1 : List Cell) (s2 : List Cell) (s3 : List Cell) (h : AHeap) :
    rel_Rel_Then_F1 C L G (rel_Rel_Then_s1 a6 a7 a8 a19 a20 s0 s1 s2 s3 h) =
    if (a8 != 0) = true then if 0 ≤ a7 ∧ a7 < ((64 : Nat) : Int) then atK s3 (1 + ((Int.toNat a7) * 1)) fun q_17 => asI .u64 (.c q_17) fun n_18 => c1 (qh h (C 38 [(.c (.int .u64 a8))] h)) fun y_20 h_19 => asI .i64 y_20 fun n_21 => if 0 ≤ n_21 ∧ n_21 < ((64 : Nat) : Int) then atK s1 (1 + ((Int.toNat n_21) * 1)) fun q_22 => asI .u64 (.c q_22) fun n_23 => if 0 ≤ a7 ∧ a7 < ((64 : Nat) : Int) then if (1 + ((Int.toNat a7) * 1)) < s3.length then some (.normal, (rel_Rel_Then_s1 a6 a7 (G.band .u64 a8 (G.wrap .u64 (a8 - 1))) a19 a20 s0 s1 s2 (s3.set (1 + ((Int.toNat a7) * 1)) (.int .u64 (G.bor .u64 n_18 (G.band .u64 n_23 a6)))) h)) else none else none else none else none else some ((.exit 2), (rel_Rel_Then_x1_3 a6 a19 a20 s0 s1 s2 s3 h)) := by kernel_rfl
theorem rel_Rel_Then_e1_3 (C : CallF) (L : LoopF) (G : Glo) (a6 : Int) (a19 : Int) (a20 : Int) (s0 : List Cell) (s1 : List Cell) (s2 : List Cell) (s3 : List Cell) (h : AHeap) :
    (rel_Rel_Then_k6 C L G) (.exit 2) (rel_Rel_Then_x1_3 a6 a19 a20 s0 s1 s2 s3 h) =
    some (.normal, (rel_Rel_Then_s2 a6 a19 (G.wrap .i64 (a20 + 1)) s0 s1 s2 s3 h)) := by kernel_rfl
theorem rel_Rel_Then_r2 (C : CallF) (L : LoopF) (G : Glo) (a6 : Int) (a19 : Int) (a20 : Int) (s0 : List Cell) (s1 : List Cell) (s2 : List Cell) (s3 : List Cell) (h : AHeap) :
    rel_Rel_Then_F2 C L G (rel_Rel_Then_s2 a6 a19 a20 s0 s1 s2 s3 h) =
    if (decide (a20 < a19)) = true then if 0 ≤ a20 ∧ a20 < ((64 : Nat) : Int) then atK s0 (1 + ((Int.toNat a20) * 1)) fun q_15 => asI .u64 (.c q_15) fun n_16 => (L (rel_Rel_Then_F1 C L G) (rel_Rel_Then_s1 a6 a20 (G.band .u64 n_16 a6) a19 a20 s0 s1 s2 s3 h)).bind fun p_24 => (rel_Rel_Then_k6 C L G) p_24.1 p_24.2 else none else some ((.exit 0), (rel_Rel_Then_x2_1 s2 s3 h)) := by kernel_rfl
theorem rel_Rel_Then_e2_1 (C : CallF) (L : LoopF) (G : Glo) (h0 : AHeap) (s2 : List Cell) (s3 : List Cell) (h : AHeap) :
    (rel_Rel_Then_k3 C L G h0) (.exit 0) (rel_Rel_Then_x2_1 s2 s3 h) =
    if 0 = 0 ∧ s3.length = 65 then if 0 = 0 ∧ s2.length = 65 ∧ s3.length = 65 then if 0 = 0 ∧ s3.length = 65 then some ([(.agg s3)], h) else none else none else none := by kernel_rfl
set_option maxRecDepth 100000 in
theorem rel_Rel_Then_eq (C : CallF) (L : LoopF) (G : Glo) (l0 : List Cell) (l1 : List Cell) (h0 : AHeap) :
    rel_Rel_Then.body C L G [(.agg l0), (.agg l1)] h0 =
    atK l0 0 fun q_1 => asI .i64 (.c q_1) fun n_2 => atK l1 0 fun q_3 => asI .i64 (.c q_3) fun n_4 => c1 (C 9 [(.c (.int .i64 (if n_4 < n_2 then n_4 else n_2)))] h0) fun y_6 h_5 => asA y_6 fun l_7 => if 0 = 0 ∧ ([Cell.int .i64 0] ++ List.replicate 64 (Cell.int .u64 0)).length = 65 ∧ l_7.length = 65 then atK l_7 0 fun q_8 => asI .i64 (.c q_8) fun n_9 => c1 (C 61 [(.c (.int .i64 n_9))] h_5) fun y_11 h_10 => asI .u64 y_11 fun n_12 => atK l_7 0 fun q_13 => asI .i64 (.c q_13) fun n_14 => (L (rel_Rel_Then_F2 C L G) (rel_Rel_Then_s2 n_12 n_14 0 l0 l1 ([Cell.int .i64 0] ++ List.replicate 64 (Cell.int .u64 0)) l_7 h_10)).bind fun p_25 => (rel_Rel_Then_k3 C L G h0) p_25.1 p_25.2 else none := by kernel_rfl

/- (jacquard/rel.Rel).Union: 59 -/
set_option maxRecDepth 100000 in
theorem rel_Rel_Union_eq (C : CallF) (L : LoopF) (G : Glo) (l0 : List Cell) (l1 : List Cell) (h0 : AHeap) :
    rel_Rel_Union.body C L G [(.agg l0), (.agg l1)] h0 =
    if 0 = 0 ∧ l0.length = 65 then if 0 = 0 ∧ l1.length = 65 then c1 (C 73 [(.agg l0), (.agg l1), (.c (.fn 72 []))] h0) fun y_2 h_1 => asA y_2 fun l_3 => if 0 = 0 ∧ ([Cell.int .i64 0] ++ List.replicate 64 (Cell.int .u64 0)).length = 65 ∧ l_3.length = 65 then if 0 = 0 ∧ l_3.length = 65 then some ([(.agg l_3)], h_1) else none else none else none else none := by kernel_rfl

/- (jacquard/rel.Rel).Keep: 66 -/
def rel_Rel_Keep_k2 (C : CallF) (L : LoopF) (G : Glo) (h0 : AHeap) : Ex → St → Option (List AV × AHeap) :=
  kSeq (fun st => rel_Rel_Keep_p1.exec C L G st (rel_Rel_Keep.fin G h0)) (rel_Rel_Keep.fin G h0)
def rel_Rel_Keep_k3 (C : CallF) (L : LoopF) (G : Glo) (h0 : AHeap) : Ex → St → Option (List AV × AHeap) :=
  kBlk 0 (rel_Rel_Keep_k2 C L G h0)
def rel_Rel_Keep_s1 (a1 : Int) (a11 : Int) (a12 : Int) (s0 : List Cell) (s1 : List Cell) (s2 : List Cell) (h : AHeap) : St := ⟨[.top, .v (.c (.int .u64 a1)), .loc 0 0, .top, .loc 1 0, .loc 2 0, .top, .top, .top, .top, .top, .v (.c (.int .i64 a11)), .v (.c (.int .i64 a12)), .top, .top, .top, .top, .top, .top, .top, .top, .top, .top, .top, .top, .top, .top, .top, .top], [some s0, some s1, some s2], h⟩
def rel_Rel_Keep_F1 (C : CallF) (L : LoopF) (G : Glo) : St → Option (Ex × St) :=
  roundF (fun st f => rel_Rel_Keep_b1.exec C L G st f) [1, 2, 4, 5, 11, 12] [0, 1, 2] [(1, [4, 5], [1, 2])]
def rel_Rel_Keep_x1_1 (s1 : List Cell) (s2 : List Cell) (h : AHeap) : St := ⟨[.top, .top, .top, .top, .loc 1 0, .loc 2 0, .top, .top, .top, .top, .top, .top, .top, .top, .top, .top, .top, .top, .top, .top, .top, .top, .top, .top, .top, .top, .top, .top, .top], [none, some s1, some s2], h⟩
theorem rel_Rel_Keep_r1 (C : CallF) (L : LoopF) (G : Glo) (a1 : Int) (a11 : Int) (a12 : Int) (s0 : List Cell) (s1 : List Cell) (s2 : List Cell) (h : AHeap) :
    rel_Rel_Keep_F1 C L G (rel_Rel_Keep_s1 a1 a11 a12 s0 s1 s2 h) =
    if (decide (a12 < a11)) = true then c1 (C 17 [(.c (.int .u64 a1)), (.c (.int .i64 a12))] h) fun y_9 h_8 => asB y_9 fun b_10 => if b_10 = true then if 0 ≤ a12 ∧ a12 < ((64 : Nat) : Int) then atK s0 (1 + ((Int.toNat a12) * 1)) fun q_11 => asI .u64 (.c q_11) fun n_12 => if 0 ≤ a12 ∧ a12 < ((64 : Nat) : Int) then if (1 + ((Int.toNat a12) * 1)) < s2.length then some (.normal, (rel_Rel_Keep_s1 a1 a11 (G.wrap .i64 (a12 + 1)) s0 s1 (s2.set (1 + ((Int.toNat a12) * 1)) (.int .u64 (G.band .u64 n_12 a1))) h_8)) else none else none else none else some (.normal, (rel_Rel_Keep_s1 a1 a11 (G.wrap .i64 (a12 + 1)) s0 s1 s2 h_8)) else some ((.exit 0), (rel_Rel_Keep_x1_1 s1 s2 h)) := by kernel_rfl
theorem rel_Rel_Keep_e1_1 (C : CallF) (L : LoopF) (G : Glo) (h0 : AHeap) (s1 : List Cell) (s2 : List Cell) (h : AHeap) :
    (rel_Rel_Keep_k3 C L G h0) (.exit 0) (rel_Rel_Keep_x1_1 s1 s2 h) =
    if 0 = 0 ∧ s2.length = 65 then if 0 = 0 ∧ s1.length = 65 ∧ s2.length = 65 then if 0 = 0 ∧ s2.length = 65 then some ([(.agg s2)], h) else none else none else none := by kernel_rfl
set_option maxRecDepth 100000 in
theorem rel_Rel_Keep_eq (C : CallF) (L : LoopF) (G : Glo) (l0 : List Cell) (a1 : Int) (h0 : AHeap) :
    rel_Rel_Keep.body C L G [(.agg l0), (.c (.int .u64 a1))] h0 =
    atK l0 0 fun q_1 => asI .i64 (.c q_1) fun n_2 => c1 (C 9 [(.c (.int .i64 n_2))] h0) fun y_4 h_3 => asA y_4 fun l_5 => if 0 = 0 ∧ ([Cell.int .i64 0] ++ List.replicate 64 (Cell.int .u64 0)).length = 65 ∧ l_5.length = 65 then atK l0 0 fun q_6 => asI .i64 (.c q_6) fun n_7 => (L (rel_Rel_Keep_F1 C L G) (rel_Rel_Keep_s1 a1 n_7 0 l0 ([Cell.int .i64 0] ++ List.replicate 64 (Cell.int .u64 0)) l_5 h_3)).bind fun p_13 => (rel_Rel_Keep_k3 C L G h0) p_13.1 p_13.2 else none := by kernel_rfl

/- (jacquard/rel.Rel).Meet: 67 -/
set_option maxRecDepth 100000 in
theorem rel_Rel_Meet_eq (C : CallF) (L : LoopF) (G : Glo) (l0 : List Cell) (l1 : List Cell) (h0 : AHeap) :
    rel_Rel_Meet.body C L G [(.agg l0), (.agg l1)] h0 =
    if 0 = 0 ∧ l0.length = 65 then if 0 = 0 ∧ l1.length = 65 then c1 (C 73 [(.agg l0), (.agg l1), (.c (.fn 74 []))] h0) fun y_2 h_1 => asA y_2 fun l_3 => if 0 = 0 ∧ ([Cell.int .i64 0] ++ List.replicate 64 (Cell.int .u64 0)).length = 65 ∧ l_3.length = 65 then if 0 = 0 ∧ l_3.length = 65 then some ([(.agg l_3)], h_1) else none else none else none else none := by kernel_rfl

/- (jacquard/rel.Rel).Minus: 68 -/
set_option maxRecDepth 100000 in
theorem rel_Rel_Minus_eq (C : CallF) (L : LoopF) (G : Glo) (l0 : List Cell) (l1 : List Cell) (h0 : AHeap) :
    rel_Rel_Minus.body C L G [(.agg l0), (.agg l1)] h0 =
    if 0 = 0 ∧ l0.length = 65 then if 0 = 0 ∧ l1.length = 65 then c1 (C 73 [(.agg l0), (.agg l1), (.c (.fn 75 []))] h0) fun y_2 h_1 => asA y_2 fun l_3 => if 0 = 0 ∧ ([Cell.int .i64 0] ++ List.replicate 64 (Cell.int .u64 0)).length = 65 ∧ l_3.length = 65 then if 0 = 0 ∧ l_3.length = 65 then some ([(.agg l_3)], h_1) else none else none else none else none := by kernel_rfl

/- (jacquard/rel.Rel).Union$1: 72 -/
set_option maxRecDepth 100000 in
theorem rel_Rel_Union_1_eq (C : CallF) (L : LoopF) (G : Glo) (a0 : Int) (a1 : Int) (h0 : AHeap) :
    rel_Rel_Union_1.body C L G [(.c (.int .u64 a0)), (.c (.int .u64 a1))] h0 =
    some ([(.c (.int .u64 (G.bor .u64 a0 a1)))], h0) := by kernel_rfl

/- jacquard/rel.both: 73 -/
def rel_both_k2 (C : CallF) (L : LoopF) (G : Glo) (h0 : AHeap) : Ex → St → Option (List AV × AHeap) :=
  kSeq (fun st => rel_both_p1.exec C L G st (rel_both.fin G h0)) (rel_both.fin G h0)
def rel_both_k3 (C : CallF) (L : LoopF) (G : Glo) (h0 : AHeap) : Ex → St → Option (List AV × AHeap) :=
  kBlk 0 (rel_both_k2 C L G h0)
def rel_both_s1 (x2 : Cell) (a16 : Int) (a17 : Int) (s0 : List Cell) (s1 : List Cell) (s2 : List Cell) (s3 : List Cell) (h : AHeap) : St := ⟨[.top, .top, .v (.c x2), .loc 0 0, .loc 1 0, .top, .loc 2 0, .loc 3 0, .top, .top, .top, .top, .top, .top, .top, .top, .v (.c (.int .i64 a16)), .v (.c (.int .i64 a17)), .top, .top, .top, .top, .top, .top, .top, .top, .top, .top, .top, .top, .top, .top, .top, .top, .top, .top, .top, .top, .top], [some s0, some s1, some s2, some s3], h⟩
def rel_both_F1 (C : CallF) (L : LoopF) (G : Glo) : St → Option (Ex × St) :=
  roundF (fun st f => rel_both_b1.exec C L G st f) [2, 3, 4, 6, 7, 16, 17] [0, 1, 2, 3] [(1, [6, 7], [2, 3])]
def rel_both_x1_1 (s2 : List Cell) (s3 : List Cell) (h : AHeap) : St := ⟨[.top, .top, .top, .top, .top, .top, .loc 2 0, .loc 3 0, .top, .top, .top, .top, .top, .top, .top, .top, .top, .top, .top, .top, .top, .top, .top, .top, .top, .top, .top, .top, .top, .top, .top, .top, .top, .top, .top, .top, .top, .top, .top], [none, none, some s2, some s3], h⟩
theorem rel_both_r1 (C : CallF) (L : LoopF) (G : Glo) (x2 : Cell) (a16 : Int) (a17 : Int) (s0 : List Cell) (s1 : List Cell) (s2 : List Cell) (s3 : List Cell) (h : AHeap) :
    rel_both_F1 C L G (rel_both_s1 x2 a16 a17 s0 s1 s2 s3 h) =
    if (decide (a17 < a16)) = true then if 0 ≤ a17 ∧ a17 < ((64 : Nat) : Int) then atK s0 (1 + ((Int.toNat a17) * 1)) fun q_10 => asI .u64 (.c q_10) fun n_11 => if 0 ≤ a17 ∧ a17 < ((64 : Nat) : Int) then atK s1 (1 + ((Int.toNat a17) * 1)) fun q_12 => asI .u64 (.c q_12) fun n_13 => fnK x2 fun g_14 l_15 => c1 (qh h (C g_14 ([(.c (.int .u64 n_11)), (.c (.int .u64 n_13))] ++ l_15) h)) fun y_17 h_16 => asI .u64 y_17 fun n_18 => atK s3 0 fun q_19 => asI .i64 (.c q_19) fun n_20 => c1 (qh h (C 61 [(.c (.int .i64 n_20))] h)) fun y_22 h_21 => asI .u64 y_22 fun n_23 => if 0 ≤ a17 ∧ a17 < ((64 : Nat) : Int) then if (1 + ((Int.toNat a17) * 1)) < s3.length then some (.normal, (rel_both_s1 x2 a16 (G.wrap .i64 (a17 + 1)) s0 s1 s2 (s3.set (1 + ((Int.toNat a17) * 1)) (.int .u64 (G.band .u64 n_18 n_23))) h)) else none else none else none else none else some ((.exit 0), (rel_both_x1_1 s2 s3 h)) := by kernel_rfl
theorem rel_both_e1_1 (C : CallF) (L : LoopF) (G : Glo) (h0 : AHeap) (s2 : List Cell) (s3 : List Cell) (h : AHeap) :
    (rel_both_k3 C L G h0) (.exit 0) (rel_both_x1_1 s2 s3 h) =
    if 0 = 0 ∧ s3.length = 65 then if 0 = 0 ∧ s2.length = 65 ∧ s3.length = 65 then if 0 = 0 ∧ s3.length = 65 then some ([(.agg s3)], h) else none else none else none := by kernel_rfl
set_option maxRecDepth 100000 in
theorem rel_both_eq (C : CallF) (L : LoopF) (G : Glo) (l0 : List Cell) (l1 : List Cell) (x2 : Cell) (h0 : AHeap) :
    rel_both.body C L G [(.agg l0), (.agg l1), (.c x2)] h0 =
    atK l0 0 fun q_1 => asI .i64 (.c q_1) fun n_2 => atK l1 0 fun q_3 => asI .i64 (.c q_3) fun n_4 => c1 (C 9 [(.c (.int .i64 (if n_4 < n_2 then n_4 else n_2)))] h0) fun y_6 h_5 => asA y_6 fun l_7 => if 0 = 0 ∧ ([Cell.int .i64 0] ++ List.replicate 64 (Cell.int .u64 0)).length = 65 ∧ l_7.length = 65 then atK l_7 0 fun q_8 => asI .i64 (.c q_8) fun n_9 => (L (rel_both_F1 C L G) (rel_both_s1 x2 n_9 0 l0 l1 ([Cell.int .i64 0] ++ List.replicate 64 (Cell.int .u64 0)) l_7 h_5)).bind fun p_24 => (rel_both_k3 C L G h0) p_24.1 p_24.2 else none := by kernel_rfl

/- (jacquard/rel.Rel).Meet$1: 74 -/
set_option maxRecDepth 100000 in
theorem rel_Rel_Meet_1_eq (C : CallF) (L : LoopF) (G : Glo) (a0 : Int) (a1 : Int) (h0 : AHeap) :
    rel_Rel_Meet_1.body C L G [(.c (.int .u64 a0)), (.c (.int .u64 a1))] h0 =
    some ([(.c (.int .u64 (G.band .u64 a0 a1)))], h0) := by kernel_rfl

/- (jacquard/rel.Rel).Minus$1: 75 -/
set_option maxRecDepth 100000 in
theorem rel_Rel_Minus_1_eq (C : CallF) (L : LoopF) (G : Glo) (a0 : Int) (a1 : Int) (h0 : AHeap) :
    rel_Rel_Minus_1.body C L G [(.c (.int .u64 a0)), (.c (.int .u64 a1))] h0 =
    some ([(.c (.int .u64 (G.bandNot .u64 a0 a1)))], h0) := by kernel_rfl


end Jq

/- Relations: what the package's functions come to. -/
namespace Jq
open Go

/-- A relation's cells: over how many, the rows. -/
def relL (n : Nat) (f : Nat → Nat) : List Cell := .int .i64 n :: (List.range 64).map fun i => .int .u64 (f i)

theorem relL_len (n : Nat) (f : Nat → Nat) : (relL n f).length = 65 := by simp [relL]
theorem relL_zero (n : Nat) (f : Nat → Nat) : (relL n f)[0]? = some (.int .i64 n) := rfl
theorem relL_row {n : Nat} {f : Nat → Nat} {i : Nat} (hi : i < 64) : (relL n f)[1 + i]? = some (.int .u64 (f i)) := by
  rw [relL, Nat.add_comm, List.getElem?_cons_succ, List.getElem?_map, List.getElem?_range hi]; rfl

def updF (f : Nat → Nat) (i v : Nat) : Nat → Nat := fun j => if j = i then v else f j

theorem relL_set {n : Nat} {f : Nat → Nat} {i v : Nat} : (relL n f).set (1 + i) (.int .u64 v) = relL n (updF f i v) := by
  rw [relL, Nat.add_comm, List.set_cons_succ, relL]
  congr 1
  refine List.ext_getElem? fun j => ?_
  rw [List.getElem?_set]
  simp only [List.length_map, List.length_range, List.getElem?_map, updF]
  by_cases hj : j < 64
  · rw [List.getElem?_range hj]
    by_cases hij : i = j
    · subst hij; simp [hj]
    · have : ¬ j = i := fun h => hij h.symm
      simp [hij, this]
  · rw [List.getElem?_eq_none (by simp; omega)]
    simp; intro h1; omega

theorem relL_congr {n : Nat} {f g : Nat → Nat} (h : ∀ i, i < 64 → f i = g i) : relL n f = relL n g := by
  unfold relL
  congr 1
  refine List.map_congr_left fun i hi => ?_
  rw [h i (by simpa using hi)]

theorem relL_inj {n m : Nat} {f g : Nat → Nat} (h : relL n f = relL m g) : n = m ∧ ∀ i, i < 64 → f i = g i := by
  have h0 : (relL n f)[0]? = (relL m g)[0]? := by rw [h]
  rw [relL_zero, relL_zero] at h0
  refine ⟨by simp at h0; omega, fun i hi => ?_⟩
  have h1 : (relL n f)[1 + i]? = (relL m g)[1 + i]? := by rw [h]
  rw [relL_row hi, relL_row hi] at h1
  simp at h1; omega

def zeroL : List Cell := [Cell.int .i64 0] ++ List.replicate 64 (Cell.int .u64 0)
theorem zero_len : ([Cell.int .i64 0] ++ List.replicate 64 (Cell.int .u64 0)).length = 65 := by simp
theorem zero_rel : ([Cell.int .i64 0] ++ List.replicate 64 (Cell.int .u64 0)) = relL 0 fun _ => 0 := by
  rw [relL, List.singleton_append]; congr 1
theorem splice_zero {n m : Nat} {f : Nat → Nat} : splice (relL m f) 0 [.int .i64 n] = relL n f := by
  simp [splice, relL]

/-- All rows are words. -/
def Words (f : Nat → Nat) : Prop := ∀ i, f i < 2 ^ 64

theorem words_zero : Words fun _ => 0 := fun _ => by simp
theorem words_upd {f : Nat → Nat} (h : Words f) {i v : Nat} (hv : v < 2 ^ 64) : Words (updF f i v) := fun j => by unfold updF; split; exact hv; exact h j

/-- Numbers, brought between nought and 64. -/
def clamp (a : Int) : Nat := min a.toNat 64

variable {E : Env}

theorem New_R (hE : rel_New_In E) (a : Int) (h : AHeap) : R E 9 [.c (.int .i64 a)] h = some ([.agg (relL (clamp a) fun _ => 0)], h) := by
  refine R_intro hE.fn ?_
  rw [rel_New_eq]
  have hv : (if 64 < (if 0 > a then 0 else a) then 64 else (if 0 > a then 0 else a)) = ((clamp a : Nat) : Int) := by
    unfold clamp; split <;> split <;> omega
  simp only [hv, zero_rel, splice_zero, relL_len, and_self, if_true]

def inR (n : Nat) (a : Int) : Bool := decide (0 ≤ a) && decide (a < n)

theorem in_R (hE : rel_Rel_in_In E) (n : Nat) (f : Nat → Nat) (a : Int) (h : AHeap) : R E 16 [.agg (relL n f), .c (.int .i64 a)] h = some ([.c (.bool (inR n a))], h) := by
  refine R_intro hE.fn ?_
  rw [rel_Rel_in_eq, atK_ok (relL_zero n f), asI_ok, scK_and]
  rfl

theorem N_R (hE : rel_Rel_N_In E) (n : Nat) (f : Nat → Nat) (h : AHeap) : R E 14 [.agg (relL n f)] h = some ([.c (.int .i64 n)], h) := by
  refine R_intro hE.fn ?_
  rw [rel_Rel_N_eq, atK_ok (relL_zero n f), asI_ok]

/-- Whether a leads to b. -/
def hasR (n : Nat) (f : Nat → Nat) (a b : Int) : Bool := inR n a && hasI (f a.toNat) b

theorem HasR_R (hE : rel_Rel_Has_In E) {n : Nat} (hn : n ≤ 64) {f : Nat → Nat} (hf : Words f) (a b : Int) (h : AHeap) : R E 3 [.agg (relL n f), .c (.int .i64 a), .c (.int .i64 b)] h = some ([.c (.bool (hasR n f a b))], h) := by
  refine R_intro hE.fn ?_
  rw [rel_Rel_Has_eq, if_pos ⟨rfl, relL_len n f⟩, in_R hE.c16, c1_ok, asB_ok]
  unfold hasR
  by_cases hi : inR n a = true
  · have h2 : 0 ≤ a ∧ a < n := by simpa [inR] using hi
    have h3 : a.toNat < 64 := by omega
    rw [hi, scK_ok, if_pos ⟨h2.1, by omega⟩, Nat.mul_one, atK_ok (relL_row h3), asI_ok, Has_R hE.c17 (hf _), c1_ok, asB_ok, bind_ok, Bool.true_and]
  · have hi' : inR n a = false := by simpa using hi
    rw [hi', scK_ft, Bool.false_and]

/-- A relation with a pair. -/
def addR (n : Nat) (f : Nat → Nat) (a b : Int) : Nat → Nat := if inR n a && inR n b then updF f a.toNat (f a.toNat ||| bitI b) else f

theorem words_add {n : Nat} {f : Nat → Nat} (hf : Words f) (a b : Int) : Words (addR n f a b) := by
  unfold addR; split
  · exact words_upd hf (or_lt (hf _) (bitI_lt b))
  · exact hf

theorem Add_R (hE : rel_Rel_Add_In E) {n : Nat} (hn : n ≤ 64) {f : Nat → Nat} (hf : Words f) (a b : Int) (h : AHeap) : R E 10 [.agg (relL n f), .c (.int .i64 a), .c (.int .i64 b)] h = some ([.agg (relL n (addR n f a b))], h) := by
  refine R_intro hE.fn ?_
  rw [rel_Rel_Add_eq, if_pos ⟨rfl, relL_len n f⟩, in_R hE.c16, c1_ok, asB_ok, if_pos ⟨rfl, relL_len n f⟩, in_R hE.c16, c1_ok, asB_ok, scK_and]
  unfold addR
  by_cases hi : (inR n a && inR n b) = true
  · rw [hi]
    simp only [Bool.and_eq_true] at hi
    have h2 : 0 ≤ a ∧ a < n := by simpa [inR] using hi.1
    have h3 : a.toNat < 64 := by omega
    simp only [if_true]
    rw [if_pos ⟨h2.1, by omega⟩, Nat.mul_one, atK_ok (relL_row h3), asI_ok, With_R hE.c18 (hf _), c1_ok, asI_ok, if_pos ⟨h2.1, by omega⟩, relL_set]
    simp only [relL_len, zero_len, and_self, if_true]
    rw [if_pos (by omega)]
  · rw [show (inR n a && inR n b) = false by simpa using hi]
    simp only [Bool.false_eq_true, if_false, relL_len, zero_len, and_self, if_true]

theorem Row_R (hE : rel_Rel_Row_In E) {n : Nat} (hn : n ≤ 64) (f : Nat → Nat) (a : Int) (h : AHeap) : R E 41 [.agg (relL n f), .c (.int .i64 a)] h = some ([.c (.int .u64 ((if inR n a then f a.toNat else 0 : Nat) : Int))], h) := by
  refine R_intro hE.fn ?_
  rw [rel_Rel_Row_eq, if_pos ⟨rfl, relL_len n f⟩, in_R hE.c16, c1_ok, asB_ok]
  by_cases hi : inR n a = true
  · have h2 : 0 ≤ a ∧ a < n := by simpa [inR] using hi
    have h3 : a.toNat < 64 := by omega
    rw [hi]
    simp only [Bool.not_true, Bool.false_eq_true, if_false, if_true]
    rw [if_pos ⟨h2.1, by omega⟩, Nat.mul_one, atK_ok (relL_row h3), asI_ok]
  · rw [show inR n a = false by simpa using hi]
    simp

/- Closing. -/

/-- One of a round: from i by k. -/
def clS (f : Nat → Nat) (k i : Nat) : Nat → Nat := if (f i).testBit k then updF f i (f i ||| f k) else f

def cl1 (k : Nat) : Nat → (Nat → Nat) → Nat → Nat
  | 0, f => f
  | i + 1, f => clS (cl1 k i f) k i

/-- The first k rounds. -/
def clK (n : Nat) (f : Nat → Nat) : Nat → Nat → Nat
  | 0 => f
  | k + 1 => cl1 k n (clK n f k)

theorem words_cl1 {f : Nat → Nat} (hf : Words f) (k : Nat) : ∀ n, Words (cl1 k n f)
  | 0 => hf
  | i + 1 => by
    have ih := words_cl1 hf k i
    unfold cl1 clS; split
    · exact words_upd ih (or_lt (ih _) (ih _))
    · exact ih

theorem words_clK {f : Nat → Nat} (hf : Words f) (n : Nat) : ∀ k, Words (clK n f k)
  | 0 => hf
  | k + 1 => words_cl1 (words_clK hf n k) k n

theorem wrap_succ {E : Env} {i : Nat} (hi : i < 9223372036854775807) : E.glob.wrap .i64 ((i : Int) + 1) = ((i + 1 : Nat) : Int) := by
  show IntKind.wrap .i64 _ = _
  rw [wrap_i64 (by omega) (by omega)]; omega

theorem Closure_R (hE : rel_Rel_Closure_In E) {n : Nat} (hn : n ≤ 64) {f : Nat → Nat} (hf : Words f) (h : AHeap) : R E 12 [.agg (relL n f)] h = some ([.agg (relL n (clK n f n))], h) := by
  refine R_intro hE.fn ?_
  rw [rel_Rel_Closure_eq, atK_ok (relL_zero n f), asI_ok]
  have outer : Lim (rel_Rel_Closure_F2 (R E) Lim E.glob) (rel_Rel_Closure_s2 n ((0 : Nat) : Int) (relL n (clK n f 0)) zeroL h) = some (.exit 0, rel_Rel_Closure_x2_1 (relL n (clK n f n)) zeroL h) := by
    refine Lim_count (fun k => rel_Rel_Closure_s2 n (k : Int) (relL n (clK n f k)) zeroL h) 0 n (by omega) (fun k _ hk => ?_) (Lim_exit ?_)
    · try dsimp only
      rw [rel_Rel_Closure_r2, if_pos (by simp; omega), atK_ok (relL_zero _ _), asI_ok]
      have inner : Lim (rel_Rel_Closure_F1 (R E) Lim E.glob) (rel_Rel_Closure_s1 k n k n ((0 : Nat) : Int) (relL n (cl1 k 0 (clK n f k))) zeroL h) = some (.exit 2, rel_Rel_Closure_x1_3 n k (relL n (cl1 k n (clK n f k))) zeroL h) := by
        refine Lim_count (fun i => rel_Rel_Closure_s1 k n k n (i : Int) (relL n (cl1 k i (clK n f k))) zeroL h) 0 n (by omega) (fun i _ hi => ?_) (Lim_exit ?_)
        · try dsimp only
          have hw := words_cl1 (words_clK hf n k) k i
          have e1 : (i : Int).toNat = i := by omega
          have e2 : (k : Int).toNat = k := by omega
          have q1 : 0 ≤ (i : Int) ∧ (i : Int) < ((64 : Nat) : Int) := by omega
          have q2 : 0 ≤ (k : Int) ∧ (k : Int) < ((64 : Nat) : Int) := by omega
          rw [rel_Rel_Closure_r1, if_pos (by simp; omega), if_pos q1, e1, e2, Nat.mul_one, Nat.mul_one, atK_ok (relL_row (by omega)), asI_ok, Has_R hE.c17 (hw _), c1_ok, asB_ok, wrap_succ (by omega), hasI_nat (by omega)]
          rw [cl1, clS]
          cases hb : (cl1 k i (clK n f k) i).testBit k with
          | true =>
            simp only [if_true]
            rw [if_pos q1, atK_ok (relL_row (by omega)), asI_ok, if_pos q2, atK_ok (relL_row (by omega)), asI_ok, if_pos q1, g_bor (hw _) (hw _), relL_set, if_pos (by rw [relL_len]; omega)]
          | false => simp only [Bool.false_eq_true, if_false]
        · try dsimp only
          rw [rel_Rel_Closure_r1, if_neg (by simp)]
      have inner' := inner
      simp only [Int.ofNat_zero, Int.natCast_zero] at inner'
      rw [show rel_Rel_Closure_s1 k n k n 0 (relL n (clK n f k)) zeroL h = rel_Rel_Closure_s1 k n k n ((0 : Nat) : Int) (relL n (cl1 k 0 (clK n f k))) zeroL h from rfl, inner, bind_ok, rel_Rel_Closure_e1_3, wrap_succ (by omega)]
      rfl
    · try dsimp only
      rw [rel_Rel_Closure_r2, if_neg (by simp)]
  rw [show rel_Rel_Closure_s2 n 0 (relL n f) ([Cell.int .i64 0] ++ List.replicate 64 (Cell.int .u64 0)) h = rel_Rel_Closure_s2 n ((0 : Nat) : Int) (relL n (clK n f 0)) zeroL h from rfl, outer, bind_ok, rel_Rel_Closure_e2_1]
  simp only [relL_len, zeroL, zero_len, and_self, if_true]

/-- Whether none leads to itself. -/
def acycR (n : Nat) (f : Nat → Nat) : Bool := !(List.range n).any fun i => (clK n f n i).testBit i

theorem Acyclic_R (hE : rel_Rel_Acyclic_In E) {n : Nat} (hn : n ≤ 64) {f : Nat → Nat} (hf : Words f) (h : AHeap) : R E 26 [.agg (relL n f)] h = some ([.c (.bool (acycR n f))], h) := by
  refine R_intro hE.fn ?_
  rw [rel_Rel_Acyclic_eq, if_pos ⟨rfl, relL_len n f⟩, Closure_R hE.c12 hn hf, c1_ok, asA_ok, if_pos ⟨rfl, zero_len, relL_len _ _⟩, atK_ok (relL_zero _ _), asI_ok]
  have hw := words_clK hf n n
  have loop := Lim_any (F := rel_Rel_Acyclic_F1 (R E) Lim E.glob) (fun i => rel_Rel_Acyclic_s1 n (i : Int) (relL n (clK n f n)) h) (fun i => (clK n f n i).testBit i) (.ret, rel_Rel_Acyclic_x1_0 false h) (.exit 0, rel_Rel_Acyclic_x1_1 h) n (fun i hi => by
      try dsimp only
      have q1 : 0 ≤ (i : Int) ∧ (i : Int) < ((64 : Nat) : Int) := by omega
      rw [rel_Rel_Acyclic_r1, if_pos (by simp; omega), if_pos q1, Int.toNat_natCast, Nat.mul_one, atK_ok (relL_row (by omega)), asI_ok, Has_R hE.c17 (hw _), c1_ok, asB_ok, wrap_succ (by omega), hasI_nat (by omega)]) (by simp) (by
      try dsimp only
      rw [rel_Rel_Acyclic_r1, if_neg (by simp)]) (by simp)
  simp only [Int.ofNat_zero, Int.natCast_zero] at loop
  rw [loop, bind_ok]
  unfold acycR
  cases (List.range n).any fun i => (clK n f n i).testBit i with
  | true => simp only [if_true]; rw [rel_Rel_Acyclic_e1_0]; rfl
  | false => simp only [Bool.false_eq_true, if_false]; rw [rel_Rel_Acyclic_e1_1]; rfl

end Jq

/- Relations: what closing is. -/
namespace Jq

/-- A way from one to another whose stops in between are below k. -/
inductive Way (f : Nat → Nat) (k : Nat) : Nat → Nat → Prop
  | one {a b : Nat} : (f a).testBit b = true → Way f k a b
  | step {a c b : Nat} : (f a).testBit c = true → c < k → Way f k c b → Way f k a b

theorem Way.mono {f : Nat → Nat} {k m : Nat} (hkm : k ≤ m) {a b : Nat} (w : Way f k a b) : Way f m a b := by
  induction w with
  | one h => exact .one h
  | step h hc _ ih => exact .step h (by omega) ih

theorem Way.trans {f : Nat → Nat} {k a c b : Nat} (w : Way f k a c) (hc : c < k) (v : Way f k c b) : Way f k a b := by
  induction w with
  | one h => exact .step h hc v
  | step h hc' _ ih => exact .step h hc' (ih hc v)

theorem Way.succ {f : Nat → Nat} {k a b : Nat} : Way f (k + 1) a b ↔ Way f k a b ∨ (Way f k a k ∧ Way f k k b) := by
  constructor
  · intro w
    induction w with
    | one h => exact .inl (.one h)
    | step h hc _ ih =>
      rcases Nat.lt_or_ge _ k with hk | hk
      · rcases ih with ih | ⟨i1, i2⟩
        · exact .inl (.step h hk ih)
        · exact .inr ⟨.step h hk i1, i2⟩
      · have : _ = k := Nat.le_antisymm (Nat.lt_succ_iff.1 hc) hk
        subst this
        rcases ih with ih | ⟨_, i2⟩
        · exact .inr ⟨.one h, ih⟩
        · exact .inr ⟨.one h, i2⟩
  · rintro (w | ⟨w1, w2⟩)
    · exact w.mono (by omega)
    · exact (w1.mono (by omega)).trans (Nat.lt_succ_self k) (w2.mono (by omega))

theorem cl1_eq (f : Nat → Nat) (k : Nat) : ∀ n i, cl1 k n f i = if i < n ∧ (f i).testBit k = true then f i ||| f k else f i := by
  intro n
  induction n with
  | zero => intro i; rw [if_neg (by omega)]; rfl
  | succ n ih =>
    intro i
    have hk : cl1 k n f k = f k := by
      rw [ih]; split
      · exact Nat.or_self _
      · rfl
    rw [cl1, clS]
    by_cases hb : (f n).testBit k = true
    · have hn : cl1 k n f n = f n := by rw [ih, if_neg (by omega)]
      rw [hn, if_pos hb, hk]
      unfold updF
      by_cases hi : i = n
      · subst hi; rw [if_pos rfl, if_pos ⟨by omega, hb⟩]
      · rw [if_neg hi, ih]
        congr 1
        rw [eq_iff_iff]
        exact and_congr_left fun _ => by omega
    · have hn : cl1 k n f n = f n := by rw [ih, if_neg (by omega)]
      rw [hn, if_neg hb, ih]
      by_cases hi : i = n
      · subst hi; rw [if_neg (by omega), if_neg (fun h => hb h.2)]
      · congr 1
        rw [eq_iff_iff]
        exact and_congr_left fun _ => by omega

/-- CLOSED, one leads to another just if there is a way. -/
theorem clK_way (n : Nat) (f : Nat → Nat) : ∀ k, k ≤ n → ∀ a b, a < n → ((clK n f k a).testBit b = true ↔ Way f k a b) := by
  intro k
  induction k with
  | zero =>
    intro _ a b _
    constructor
    · exact fun h => .one h
    · intro w
      cases w with
      | one h => exact h
      | step _ hc _ => omega
  | succ k ih =>
    intro hk a b ha
    have ih' := ih (by omega)
    rw [clK, cl1_eq, Way.succ, ← ih' a b ha, ← ih' a k ha, ← ih' k b (by omega)]
    by_cases hb : (clK n f k a).testBit k = true
    · rw [if_pos ⟨ha, hb⟩, Nat.testBit_or, Bool.or_eq_true]; simp [hb]
    · rw [if_neg (fun h => hb h.2)]; simp [hb]

theorem acycR_iff (n : Nat) (f : Nat → Nat) : acycR n f = true ↔ ∀ a, a < n → ¬ Way f n a a := by
  unfold acycR
  rw [Bool.not_eq_true', ← Bool.not_eq_true, List.any_eq_true]
  simp only [List.mem_range, not_exists, not_and]
  exact forall_congr' fun a => imp_congr_right fun ha => by rw [clK_way n f n (Nat.le_refl _) a a ha]

end Jq

namespace Jq
open Go

/- jacquard/jacquardlaw8.Of: 1 -/
def jacquardlaw8_Of_k2 (C : CallF) (L : LoopF) (G : Glo) (h0 : AHeap) : Ex → St → Option (List AV × AHeap) :=
  kSeq (fun st => jacquardlaw8_Of_p1.exec C L G st (jacquardlaw8_Of.fin G h0)) (jacquardlaw8_Of.fin G h0)
def jacquardlaw8_Of_k3 (C : CallF) (L : LoopF) (G : Glo) (h0 : AHeap) : Ex → St → Option (List AV × AHeap) :=
  kBlk 0 (jacquardlaw8_Of_k2 C L G h0)
def jacquardlaw8_Of_s1 (x1 : Cell) (k7 : Nat) (N7 : Nat) (o7 : Nat) (a8 : Int) (s0 : List Cell) (s1 : List Cell) (s2 : List Cell) (h : AHeap) : St := ⟨[.top, .v (.c x1), .top, .top, .loc 0 0, .loc 1 0, .loc 2 0, .v (.c (.ptr k7 N7 o7)), .v (.c (.int .i64 a8)), .top, .top, .top, .top, .top, .top, .top, .top, .top, .top, .top, .top, .top, .top, .top, .top, .top, .top, .top, .top, .top, .top, .top, .top, .top, .top, .top, .top, .top, .top, .top, .top, .top, .top, .top, .top, .top, .top, .top, .top, .top, .top, .top, .top, .top, .top, .top, .top, .top, .top, .top, .top, .top, .top, .top], [some s0, some s1, some s2], h⟩
def jacquardlaw8_Of_F1 (C : CallF) (L : LoopF) (G : Glo) : St → Option (Ex × St) :=
  roundF (fun st f => jacquardlaw8_Of_b1.exec C L G st f) [1, 4, 5, 6, 7, 8] [0, 1, 2] [(1, [4, 5, 6, 7], [0, 1, 2])]
def jacquardlaw8_Of_x1_1 (k7 : Nat) (N7 : Nat) (o7 : Nat) (s0 : List Cell) (s1 : List Cell) (s2 : List Cell) (h : AHeap) : St := ⟨[.top, .top, .top, .top, .loc 0 0, .loc 1 0, .loc 2 0, .v (.c (.ptr k7 N7 o7)), .top, .top, .top, .top, .top, .top, .top, .top, .top, .top, .top, .top, .top, .top, .top, .top, .top, .top, .top, .top, .top, .top, .top, .top, .top, .top, .top, .top, .top, .top, .top, .top, .top, .top, .top, .top, .top, .top, .top, .top, .top, .top, .top, .top, .top, .top, .top, .top, .top, .top, .top, .top, .top, .top, .top, .top], [some s0, some s1, some s2], h⟩
theorem jacquardlaw8_Of_r1 (C : CallF) (L : LoopF) (G : Glo) (x1 : Cell) (k7 : Nat) (N7 : Nat) (o7 : Nat) (a8 : Int) (s0 : List Cell) (s1 : List Cell) (s2 : List Cell) (h : AHeap) :
    jacquardlaw8_Of_F1 C L G (jacquardlaw8_Of_s1 x1 k7 N7 o7 a8 s0 s1 s2 h) =
    lenK x1 fun n_7 => scK (decide (a8 < n_7)) true (some ((decide (a8 < 200)), h)) false h fun b_8 h_9 => if b_8 = true then idxSK 2 x1 a8 fun k_10 N_11 o_12 => rdH h_9 k_10 N_11 fun l_13 => atK l_13 (o_12 + 0) fun q_14 => asI .i64 (.c q_14) fun n_15 => idxSK 2 x1 a8 fun k_16 N_17 o_18 => rdH h_9 k_16 N_17 fun l_19 => atK l_19 (o_18 + 1) fun q_20 => asI .i64 (.c q_20) fun n_21 => if 0 = 0 ∧ s2.length = 65 then c1 (C 10 [(.agg s2), (.c (.int .i64 n_15)), (.c (.int .i64 n_21))] h_9) fun y_23 h_22 => asA y_23 fun l_24 => if 0 = 0 ∧ s2.length = 65 ∧ l_24.length = 65 then scK (decide (n_15 ≥ 0)) true (rdH h_22 k7 N7 fun l_25 => atK l_25 (o7 + 0) fun q_26 => asI .i64 (.c q_26) fun n_27 => some ((decide (n_15 < n_27)), h_22)) false h_22 fun b_28 h_29 => scK b_28 true (some ((decide (n_21 ≥ 0)), h_29)) false h_29 fun b_30 h_31 => scK b_30 true (rdH h_31 k7 N7 fun l_32 => atK l_32 (o7 + 0) fun q_33 => asI .i64 (.c q_33) fun n_34 => some ((decide (n_21 < n_34)), h_31)) false h_31 fun b_35 h_36 => if b_35 = true then c0 (C 13 [(.c (.ptr k7 N7 o7)), (.c (.int .i64 n_15)), (.c (.int .i64 n_21))] h_36) fun h_37 => some (.normal, (jacquardlaw8_Of_s1 x1 k7 N7 o7 (G.wrap .i64 (a8 + 1)) s0 s1 l_24 h_37)) else some (.normal, (jacquardlaw8_Of_s1 x1 k7 N7 o7 (G.wrap .i64 (a8 + 1)) s0 s1 l_24 h_36)) else none else none else some ((.exit 0), (jacquardlaw8_Of_x1_1 k7 N7 o7 s0 s1 s2 h_9)) := by kernel_rfl
theorem jacquardlaw8_Of_e1_1 (C : CallF) (L : LoopF) (G : Glo) (h0 : AHeap) (k7 : Nat) (N7 : Nat) (o7 : Nat) (s0 : List Cell) (s1 : List Cell) (s2 : List Cell) (h : AHeap) :
    (jacquardlaw8_Of_k3 C L G h0) (.exit 0) (jacquardlaw8_Of_x1_1 k7 N7 o7 s0 s1 s2 h) =
    if 0 = 0 ∧ s2.length = 65 then rdH h k7 N7 fun l_38 => if o7 = 0 ∧ l_38.length = 65 then if 0 = 0 ∧ s0.length = 65 ∧ s2.length = 65 then if 0 = 0 ∧ s1.length = 65 ∧ l_38.length = 65 then if 0 = 0 ∧ s2.length = 65 then if 0 = 0 ∧ l_38.length = 65 then finish true h0 [(.agg s2), (.agg l_38)] h else none else none else none else none else none else none := by kernel_rfl
set_option maxRecDepth 100000 in
theorem jacquardlaw8_Of_eq (C : CallF) (L : LoopF) (G : Glo) (a0 : Int) (x1 : Cell) (h0 : AHeap) :
    jacquardlaw8_Of.body C L G [(.c (.int .i64 a0)), (.c x1)] h0 =
    c1 (C 9 [(.c (.int .i64 a0))] h0) fun y_2 h_1 => asA y_2 fun l_3 => if 0 = 0 ∧ ([Cell.int .i64 0] ++ List.replicate 64 (Cell.int .u64 0)).length = 65 ∧ l_3.length = 65 then let v_4 : Int := (if 64 < (if 0 > a0 then 0 else a0) then 64 else (if 0 > a0 then 0 else a0)); rdH (h_1 ++ [some (Blk.mk true 0 ([Cell.int .i64 0] ++ List.replicate 64 (Cell.int .u64 0)))]) h_1.length (([Cell.int .i64 0] ++ List.replicate 64 (Cell.int .u64 0)).length) fun l_5 => if 0 = 0 ∧ l_5.length = 65 ∧ (splice ([Cell.int .i64 0] ++ List.replicate 64 (Cell.int .u64 0)) 0 ([(.int .i64 v_4)] : List Cell)).length = 65 then putH (h_1 ++ [some (Blk.mk true 0 ([Cell.int .i64 0] ++ List.replicate 64 (Cell.int .u64 0)))]) h_1.length (splice ([Cell.int .i64 0] ++ List.replicate 64 (Cell.int .u64 0)) 0 ([(.int .i64 v_4)] : List Cell)) fun h_6 => (L (jacquardlaw8_Of_F1 C L G) (jacquardlaw8_Of_s1 x1 h_1.length (([Cell.int .i64 0] ++ List.replicate 64 (Cell.int .u64 0)).length) 0 0 ([Cell.int .i64 0] ++ List.replicate 64 (Cell.int .u64 0)) ([Cell.int .i64 0] ++ List.replicate 64 (Cell.int .u64 0)) l_3 h_6)).bind fun p_39 => (jacquardlaw8_Of_k3 C L G h0) p_39.1 p_39.2 else none else none := by kernel_rfl

/- jacquard/jacquardlaw8.awake: 55 -/
set_option maxRecDepth 100000 in
theorem jacquardlaw8_awake_eq (C : CallF) (L : LoopF) (G : Glo)  (h0 : AHeap) :
    jacquardlaw8_awake.body C L G [] h0 =
    c1 (C 9 [(.c (.int .i64 3))] h0) fun y_2 h_1 => asA y_2 fun l_3 => c1 (C 10 [(.agg l_3), (.c (.int .i64 0)), (.c (.int .i64 1))] h_1) fun y_5 h_4 => asA y_5 fun l_6 => c1 (C 10 [(.agg l_6), (.c (.int .i64 1)), (.c (.int .i64 2))] h_4) fun y_8 h_7 => asA y_8 fun l_9 => if 0 = 0 ∧ ([Cell.int .i64 0] ++ List.replicate 64 (Cell.int .u64 0)).length = 65 ∧ l_9.length = 65 then if 0 = 0 ∧ l_9.length = 65 then c1 (C 12 [(.agg l_9)] h_7) fun y_11 h_10 => asA y_11 fun l_12 => c1 (C 3 [(.agg l_12), (.c (.int .i64 0)), (.c (.int .i64 2))] h_10) fun y_14 h_13 => asB y_14 fun b_15 => scK b_15 true (if 0 = 0 ∧ l_9.length = 65 then c1 (C 3 [(.agg l_9), (.c (.int .i64 0)), (.c (.int .i64 2))] h_13) fun y_17 h_16 => asB y_17 fun b_18 => some ((!b_18), h_16) else none) false h_13 fun b_19 h_20 => scK b_19 true (if 0 = 0 ∧ l_9.length = 65 then c1 (C 26 [(.agg l_9)] h_20) fun y_22 h_21 => asB y_22 fun b_23 => some (b_23, h_21) else none) false h_20 fun b_24 h_25 => scK b_24 true (if 0 = 0 ∧ l_9.length = 65 then c1 (C 10 [(.agg l_9), (.c (.int .i64 2)), (.c (.int .i64 0))] h_25) fun y_27 h_26 => asA y_27 fun l_28 => c1 (C 26 [(.agg l_28)] h_26) fun y_30 h_29 => asB y_30 fun b_31 => some ((!b_31), h_29) else none) false h_25 fun b_32 h_33 => scK b_32 true (if 0 = 0 ∧ l_9.length = 65 then c1 (C 14 [(.agg l_9)] h_33) fun y_35 h_34 => asI .i64 y_35 fun n_36 => some ((n_36 == 3), h_34) else none) false h_33 fun b_37 h_38 => some ([(.c (.bool b_37))], h_38) else none else none := by kernel_rfl

/- jacquard/jacquardlaw8.RelPairs: 240 -/
def jacquardlaw8_RelPairs_k2 (C : CallF) (L : LoopF) (G : Glo) (h0 : AHeap) : Ex → St → Option (List AV × AHeap) :=
  kSeq (fun st => jacquardlaw8_RelPairs_p1.exec C L G st (jacquardlaw8_RelPairs.fin G h0)) (jacquardlaw8_RelPairs.fin G h0)
def jacquardlaw8_RelPairs_k3 (C : CallF) (L : LoopF) (G : Glo) (h0 : AHeap) : Ex → St → Option (List AV × AHeap) :=
  kBlk 0 (jacquardlaw8_RelPairs_k2 C L G h0)
def jacquardlaw8_RelPairs_s2 (a0 : Int) (k6 : Nat) (N6 : Nat) (o6 : Nat) (x7 : Cell) (a8 : Int) (a9 : Int) (s0 : List Cell) (h : AHeap) : St := ⟨[.v (.c (.int .i64 a0)), .top, .top, .top, .top, .loc 0 0, .v (.c (.ptr k6 N6 o6)), .v (.c x7), .v (.c (.int .i64 a8)), .v (.c (.int .i64 a9)), .top, .top, .top, .top, .top, .top, .top, .top, .top, .top, .top, .top, .top, .top, .top, .top, .top, .top, .top, .top, .top, .top, .top, .top, .top, .top, .top, .top, .top, .top, .top, .top, .top, .top, .top, .top, .top, .top, .top, .top, .top, .top, .top, .top, .top, .top, .top, .top, .top, .top, .top, .top, .top, .top, .top, .top, .top, .top, .top, .top, .top, .top, .top, .top, .top, .top, .top, .top, .top, .top, .top, .top, .top, .top, .top, .top, .top, .top, .top, .top, .top, .top, .top, .top, .top, .top, .top, .top, .top, .top, .top, .top, .top, .top], [some s0, none, none], h⟩
def jacquardlaw8_RelPairs_F2 (C : CallF) (L : LoopF) (G : Glo) : St → Option (Ex × St) :=
  roundF (fun st f => jacquardlaw8_RelPairs_b2.exec C L G st f) [0, 5, 6, 7, 8, 9] [0] [(0, [4], []), (1, [0, 5, 7, 8], [0])]
def jacquardlaw8_RelPairs_k4 (C : CallF) (L : LoopF) (G : Glo) : Ex → St → Option (Ex × St) :=
  kSeq (fun st => jacquardlaw8_RelPairs_p2.exec C L G st (kLoop [0, 5, 6, 7, 8, 9] [0] [(0, [4], []), (1, [0, 5, 7, 8], [0])])) (kLoop [0, 5, 6, 7, 8, 9] [0] [(0, [4], []), (1, [0, 5, 7, 8], [0])])
def jacquardlaw8_RelPairs_k5 (C : CallF) (L : LoopF) (G : Glo) : Ex → St → Option (Ex × St) :=
  kBlk 1 (jacquardlaw8_RelPairs_k4 C L G)
def jacquardlaw8_RelPairs_k6 (C : CallF) (L : LoopF) (G : Glo) : Ex → St → Option (Ex × St) :=
  kBlk 2 (jacquardlaw8_RelPairs_k5 C L G)
def jacquardlaw8_RelPairs_s1 (a0 : Int) (k6 : Nat) (N6 : Nat) (o6 : Nat) (x7 : Cell) (a8 : Int) (a9 : Int) (a10 : Int) (s0 : List Cell) (h : AHeap) : St := ⟨[.v (.c (.int .i64 a0)), .top, .top, .top, .top, .loc 0 0, .v (.c (.ptr k6 N6 o6)), .v (.c x7), .v (.c (.int .i64 a8)), .v (.c (.int .i64 a9)), .v (.c (.int .i64 a10)), .top, .top, .top, .top, .top, .top, .top, .top, .top, .top, .top, .top, .top, .top, .top, .top, .top, .top, .top, .top, .top, .top, .top, .top, .top, .top, .top, .top, .top, .top, .top, .top, .top, .top, .top, .top, .top, .top, .top, .top, .top, .top, .top, .top, .top, .top, .top, .top, .top, .top, .top, .top, .top, .top, .top, .top, .top, .top, .top, .top, .top, .top, .top, .top, .top, .top, .top, .top, .top, .top, .top, .top, .top, .top, .top, .top, .top, .top, .top, .top, .top, .top, .top, .top, .top, .top, .top, .top, .top, .top, .top, .top, .top], [some s0, none, none], h⟩
def jacquardlaw8_RelPairs_F1 (C : CallF) (L : LoopF) (G : Glo) : St → Option (Ex × St) :=
  roundF (fun st f => jacquardlaw8_RelPairs_b1.exec C L G st f) [0, 5, 6, 7, 8, 9, 10] [0] [(0, [4], []), (3, [0, 5, 6, 7, 8, 9], [0])]
def jacquardlaw8_RelPairs_x1_0 (b4 : Bool) (h : AHeap) : St := ⟨[.top, .top, .top, .top, .v (.c (.bool b4)), .top, .top, .top, .top, .top, .top, .top, .top, .top, .top, .top, .top, .top, .top, .top, .top, .top, .top, .top, .top, .top, .top, .top, .top, .top, .top, .top, .top, .top, .top, .top, .top, .top, .top, .top, .top, .top, .top, .top, .top, .top, .top, .top, .top, .top, .top, .top, .top, .top, .top, .top, .top, .top, .top, .top, .top, .top, .top, .top, .top, .top, .top, .top, .top, .top, .top, .top, .top, .top, .top, .top, .top, .top, .top, .top, .top, .top, .top, .top, .top, .top, .top, .top, .top, .top, .top, .top, .top, .top, .top, .top, .top, .top, .top, .top, .top, .top, .top, .top], [none, none, none], h⟩
def jacquardlaw8_RelPairs_x1_3 (a0 : Int) (k6 : Nat) (N6 : Nat) (o6 : Nat) (x7 : Cell) (a8 : Int) (a9 : Int) (s0 : List Cell) (h : AHeap) : St := ⟨[.v (.c (.int .i64 a0)), .top, .top, .top, .top, .loc 0 0, .v (.c (.ptr k6 N6 o6)), .v (.c x7), .v (.c (.int .i64 a8)), .v (.c (.int .i64 a9)), .top, .top, .top, .top, .top, .top, .top, .top, .top, .top, .top, .top, .top, .top, .top, .top, .top, .top, .top, .top, .top, .top, .top, .top, .top, .top, .top, .top, .top, .top, .top, .top, .top, .top, .top, .top, .top, .top, .top, .top, .top, .top, .top, .top, .top, .top, .top, .top, .top, .top, .top, .top, .top, .top, .top, .top, .top, .top, .top, .top, .top, .top, .top, .top, .top, .top, .top, .top, .top, .top, .top, .top, .top, .top, .top, .top, .top, .top, .top, .top, .top, .top, .top, .top, .top, .top, .top, .top, .top, .top, .top, .top, .top, .top], [some s0, none, none], h⟩
def jacquardlaw8_RelPairs_x2_0 (b4 : Bool) (h : AHeap) : St := ⟨[.top, .top, .top, .top, .v (.c (.bool b4)), .top, .top, .top, .top, .top, .top, .top, .top, .top, .top, .top, .top, .top, .top, .top, .top, .top, .top, .top, .top, .top, .top, .top, .top, .top, .top, .top, .top, .top, .top, .top, .top, .top, .top, .top, .top, .top, .top, .top, .top, .top, .top, .top, .top, .top, .top, .top, .top, .top, .top, .top, .top, .top, .top, .top, .top, .top, .top, .top, .top, .top, .top, .top, .top, .top, .top, .top, .top, .top, .top, .top, .top, .top, .top, .top, .top, .top, .top, .top, .top, .top, .top, .top, .top, .top, .top, .top, .top, .top, .top, .top, .top, .top, .top, .top, .top, .top, .top, .top], [none, none, none], h⟩
def jacquardlaw8_RelPairs_x2_1 (a0 : Int) (x7 : Cell) (a8 : Int) (s0 : List Cell) (h : AHeap) : St := ⟨[.v (.c (.int .i64 a0)), .top, .top, .top, .top, .loc 0 0, .top, .v (.c x7), .v (.c (.int .i64 a8)), .top, .top, .top, .top, .top, .top, .top, .top, .top, .top, .top, .top, .top, .top, .top, .top, .top, .top, .top, .top, .top, .top, .top, .top, .top, .top, .top, .top, .top, .top, .top, .top, .top, .top, .top, .top, .top, .top, .top, .top, .top, .top, .top, .top, .top, .top, .top, .top, .top, .top, .top, .top, .top, .top, .top, .top, .top, .top, .top, .top, .top, .top, .top, .top, .top, .top, .top, .top, .top, .top, .top, .top, .top, .top, .top, .top, .top, .top, .top, .top, .top, .top, .top, .top, .top, .top, .top, .top, .top, .top, .top, .top, .top, .top, .top], [some s0, none, none], h⟩
theorem jacquardlaw8_RelPairs_r1 (C : CallF) (L : LoopF) (G : Glo) (a0 : Int) (k6 : Nat) (N6 : Nat) (o6 : Nat) (x7 : Cell) (a8 : Int) (a9 : Int) (a10 : Int) (s0 : List Cell) (h : AHeap) :
    jacquardlaw8_RelPairs_F1 C L G (jacquardlaw8_RelPairs_s1 a0 k6 N6 o6 x7 a8 a9 a10 s0 h) =
    if (decide (a10 < a0)) = true then if 0 = 0 ∧ s0.length = 65 then c1 (C 3 [(.agg s0), (.c (.int .i64 a9)), (.c (.int .i64 a10))] h) fun y_13 h_12 => asB y_13 fun b_14 => c1 (C 7 [(.c (.ptr k6 N6 o6)), (.c (.int .i64 a9)), (.c (.int .i64 a10))] h_12) fun y_16 h_15 => asB y_16 fun b_17 => if (!(b_14 == b_17)) = true then some (.ret, (jacquardlaw8_RelPairs_x1_0 false h_15)) else c1 (C 7 [(.c (.ptr k6 N6 o6)), (.c (.int .i64 a9)), (.c (.int .i64 a10))] h_15) fun y_19 h_18 => asB y_19 fun b_20 => if (!b_20) = true then some (.normal, (jacquardlaw8_RelPairs_s1 a0 k6 N6 o6 x7 a8 a9 (G.wrap .i64 (a10 + 1)) s0 h_18)) else lenK x7 fun n_21 => scK (decide (a8 ≥ n_21)) false (idxSK 2 x7 a8 fun k_22 N_23 o_24 => rdH h_18 k_22 N_23 fun l_25 => if o_24 + 2 ≤ l_25.length then if alike ((l_25.drop o_24).take 2) ([Cell.int .i64 0, Cell.int .i64 0]) = true ∧ alike (splice (splice [Cell.int .i64 0, Cell.int .i64 0] 0 ([(.int .i64 a9)] : List Cell)) 1 ([(.int .i64 a10)] : List Cell)) ([Cell.int .i64 0, Cell.int .i64 0]) = true then some ((!(decide (((l_25.drop o_24).take 2) = (splice (splice [Cell.int .i64 0, Cell.int .i64 0] 0 ([(.int .i64 a9)] : List Cell)) 1 ([(.int .i64 a10)] : List Cell))))), h_18) else none else none) true h_18 fun b_26 h_27 => if b_26 = true then some (.ret, (jacquardlaw8_RelPairs_x1_0 false h_27)) else some (.normal, (jacquardlaw8_RelPairs_s1 a0 k6 N6 o6 x7 (G.wrap .i64 (a8 + 1)) a9 (G.wrap .i64 (a10 + 1)) s0 h_27)) else none else some ((.exit 2), (jacquardlaw8_RelPairs_x1_3 a0 k6 N6 o6 x7 a8 a9 s0 h)) := by kernel_rfl
theorem jacquardlaw8_RelPairs_e1_0 (C : CallF) (L : LoopF) (G : Glo) (b4 : Bool) (h : AHeap) :
    (jacquardlaw8_RelPairs_k6 C L G) .ret (jacquardlaw8_RelPairs_x1_0 b4 h) =
    some (.ret, (jacquardlaw8_RelPairs_x2_0 b4 h)) := by kernel_rfl
theorem jacquardlaw8_RelPairs_e1_3 (C : CallF) (L : LoopF) (G : Glo) (a0 : Int) (k6 : Nat) (N6 : Nat) (o6 : Nat) (x7 : Cell) (a8 : Int) (a9 : Int) (s0 : List Cell) (h : AHeap) :
    (jacquardlaw8_RelPairs_k6 C L G) (.exit 2) (jacquardlaw8_RelPairs_x1_3 a0 k6 N6 o6 x7 a8 a9 s0 h) =
    some (.normal, (jacquardlaw8_RelPairs_s2 a0 k6 N6 o6 x7 a8 (G.wrap .i64 (a9 + 1)) s0 h)) := by kernel_rfl
theorem jacquardlaw8_RelPairs_r2 (C : CallF) (L : LoopF) (G : Glo) (a0 : Int) (k6 : Nat) (N6 : Nat) (o6 : Nat) (x7 : Cell) (a8 : Int) (a9 : Int) (s0 : List Cell) (h : AHeap) :
    jacquardlaw8_RelPairs_F2 C L G (jacquardlaw8_RelPairs_s2 a0 k6 N6 o6 x7 a8 a9 s0 h) =
    if (decide (a9 < a0)) = true then (L (jacquardlaw8_RelPairs_F1 C L G) (jacquardlaw8_RelPairs_s1 a0 k6 N6 o6 x7 a8 a9 0 s0 h)).bind fun p_28 => (jacquardlaw8_RelPairs_k6 C L G) p_28.1 p_28.2 else some ((.exit 0), (jacquardlaw8_RelPairs_x2_1 a0 x7 a8 s0 h)) := by kernel_rfl
theorem jacquardlaw8_RelPairs_e2_0 (C : CallF) (L : LoopF) (G : Glo) (h0 : AHeap) (b4 : Bool) (h : AHeap) :
    (jacquardlaw8_RelPairs_k3 C L G h0) .ret (jacquardlaw8_RelPairs_x2_0 b4 h) =
    finish true h0 [(.c (.bool b4))] h := by kernel_rfl
theorem jacquardlaw8_RelPairs_e2_1 (C : CallF) (L : LoopF) (G : Glo) (h0 : AHeap) (a0 : Int) (x7 : Cell) (a8 : Int) (s0 : List Cell) (h : AHeap) :
    (jacquardlaw8_RelPairs_k3 C L G h0) (.exit 0) (jacquardlaw8_RelPairs_x2_1 a0 x7 a8 s0 h) =
    c2 (C 1 [(.c (.int .i64 a0)), (.c x7)] h) fun y_30 y_31 h_29 => asA y_30 fun l_32 => asA y_31 fun l_33 => if 0 = 0 ∧ ([Cell.int .i64 0] ++ List.replicate 64 (Cell.int .u64 0)).length = 65 ∧ l_32.length = 65 then if 0 = 0 ∧ ([Cell.int .i64 0] ++ List.replicate 64 (Cell.int .u64 0)).length = 65 ∧ l_33.length = 65 then lenK x7 fun n_34 => scK (a8 == n_34) true (scK (decide (a8 > 200)) false (if 0 = 0 ∧ l_32.length = 65 then if 0 = 0 ∧ s0.length = 65 then if alike l_32 ([Cell.int .i64 0] ++ List.replicate 64 (Cell.int .u64 0)) = true ∧ alike s0 ([Cell.int .i64 0] ++ List.replicate 64 (Cell.int .u64 0)) = true then some ((decide (l_32 = s0)), h_29) else none else none else none) true h_29 fun b_35 h_36 => some (b_35, h_36)) false h_29 fun b_37 h_38 => scK b_37 true (if 0 = 0 ∧ s0.length = 65 then c1 (C 3 [(.agg s0), (.c (.int .i64 (-1))), (.c (.int .i64 0))] h_38) fun y_40 h_39 => asB y_40 fun b_41 => some ((!b_41), h_39) else none) false h_38 fun b_42 h_43 => scK b_42 true (if 0 = 0 ∧ s0.length = 65 then c1 (C 3 [(.agg s0), (.c (.int .i64 0)), (.c (.int .i64 64))] h_43) fun y_45 h_44 => asB y_45 fun b_46 => some ((!b_46), h_44) else none) false h_43 fun b_47 h_48 => scK b_47 true (if 0 = 0 ∧ s0.length = 65 then c1 (C 41 [(.agg s0), (.c (.int .i64 (-1)))] h_48) fun y_50 h_49 => asI .u64 y_50 fun n_51 => some ((n_51 == 0), h_49) else none) false h_48 fun b_52 h_53 => scK b_52 true (if 0 = 0 ∧ s0.length = 65 then c1 (C 41 [(.agg s0), (.c (.int .i64 64))] h_53) fun y_55 h_54 => asI .u64 y_55 fun n_56 => some ((n_56 == 0), h_54) else none) false h_53 fun b_57 h_58 => scK b_57 true (c1 (C 55 [] h_58) fun y_60 h_59 => asB y_60 fun b_61 => some (b_61, h_59)) false h_58 fun b_62 h_63 => finish true h0 [(.c (.bool b_62))] h_63 else none else none := by kernel_rfl
set_option maxRecDepth 100000 in
theorem jacquardlaw8_RelPairs_eq (C : CallF) (L : LoopF) (G : Glo) (a0 : Int) (x1 : Cell) (h0 : AHeap) :
    jacquardlaw8_RelPairs.body C L G [(.c (.int .i64 a0)), (.c x1)] h0 =
    let v_1 : Int := (if 64 < (if 0 > a0 then 0 else a0) then 64 else (if 0 > a0 then 0 else a0)); c2 (C 1 [(.c (.int .i64 v_1)), (.c x1)] h0) fun y_3 y_4 h_2 => asA y_3 fun l_5 => asA y_4 fun l_6 => if 0 = 0 ∧ ([Cell.int .i64 0] ++ List.replicate 64 (Cell.int .u64 0)).length = 65 ∧ l_5.length = 65 then rdH (h_2 ++ [some (Blk.mk true 0 ([Cell.int .i64 0] ++ List.replicate 64 (Cell.int .u64 0)))]) h_2.length (([Cell.int .i64 0] ++ List.replicate 64 (Cell.int .u64 0)).length) fun l_7 => if 0 = 0 ∧ l_7.length = 65 ∧ l_6.length = 65 then putH (h_2 ++ [some (Blk.mk true 0 ([Cell.int .i64 0] ++ List.replicate 64 (Cell.int .u64 0)))]) h_2.length l_6 fun h_8 => if 0 = 0 ∧ l_5.length = 65 then c1 (C 20 [(.agg l_5)] h_8) fun y_10 h_9 => asC y_10 fun x_11 => (L (jacquardlaw8_RelPairs_F2 C L G) (jacquardlaw8_RelPairs_s2 v_1 h_2.length (([Cell.int .i64 0] ++ List.replicate 64 (Cell.int .u64 0)).length) 0 x_11 0 0 l_5 h_9)).bind fun p_64 => (jacquardlaw8_RelPairs_k3 C L G h0) p_64.1 p_64.2 else none else none else none := by kernel_rfl

/- jacquard/jacquardlaw8.RelThen: 241 -/
def jacquardlaw8_RelThen_k2 (C : CallF) (L : LoopF) (G : Glo) (h0 : AHeap) : Ex → St → Option (List AV × AHeap) :=
  kSeq (fun st => jacquardlaw8_RelThen_p1.exec C L G st (jacquardlaw8_RelThen.fin G h0)) (jacquardlaw8_RelThen.fin G h0)
def jacquardlaw8_RelThen_k3 (C : CallF) (L : LoopF) (G : Glo) (h0 : AHeap) : Ex → St → Option (List AV × AHeap) :=
  kBlk 0 (jacquardlaw8_RelThen_k2 C L G h0)
def jacquardlaw8_RelThen_s1 (a0 : Int) (a4 : Int) (a5 : Int) (b19 : Bool) (a20 : Int) (s0 : List Cell) (s2 : List Cell) (s4 : List Cell) (h : AHeap) : St := ⟨[.v (.c (.int .i64 a0)), .top, .top, .top, .v (.c (.int .i64 a4)), .v (.c (.int .i64 a5)), .top, .top, .top, .top, .top, .top, .top, .loc 0 0, .top, .loc 2 0, .top, .loc 4 0, .top, .v (.c (.bool b19)), .v (.c (.int .i64 a20)), .top, .top, .top, .top, .top, .top, .top, .top, .top, .top, .top, .top, .top, .top, .top, .top, .top, .top, .top, .top, .top, .top, .top, .top, .top, .top, .top, .top, .top, .top, .top, .top, .top, .top, .top, .top, .top, .top, .top, .top, .top, .top, .top, .top, .top, .top, .top, .top, .top, .top, .top, .top, .top, .top, .top, .top, .top, .top, .top, .top, .top, .top, .top, .top, .top, .top, .top, .top, .top, .top, .top, .top, .top, .top, .top, .top, .top, .top, .top, .top, .top, .top, .top, .top, .top, .top, .top], [some s0, none, some s2, none, some s4, none], h⟩
def jacquardlaw8_RelThen_F1 (C : CallF) (L : LoopF) (G : Glo) : St → Option (Ex × St) :=
  roundF (fun st f => jacquardlaw8_RelThen_b1.exec C L G st f) [0, 4, 5, 13, 15, 17, 19, 20] [0, 2, 4] [(1, [4, 5, 13, 15, 17, 19], [0, 2, 4])]
def jacquardlaw8_RelThen_x1_1 (a4 : Int) (a5 : Int) (b19 : Bool) (s0 : List Cell) (s2 : List Cell) (s4 : List Cell) (h : AHeap) : St := ⟨[.top, .top, .top, .top, .v (.c (.int .i64 a4)), .v (.c (.int .i64 a5)), .top, .top, .top, .top, .top, .top, .top, .loc 0 0, .top, .loc 2 0, .top, .loc 4 0, .top, .v (.c (.bool b19)), .top, .top, .top, .top, .top, .top, .top, .top, .top, .top, .top, .top, .top, .top, .top, .top, .top, .top, .top, .top, .top, .top, .top, .top, .top, .top, .top, .top, .top, .top, .top, .top, .top, .top, .top, .top, .top, .top, .top, .top, .top, .top, .top, .top, .top, .top, .top, .top, .top, .top, .top, .top, .top, .top, .top, .top, .top, .top, .top, .top, .top, .top, .top, .top, .top, .top, .top, .top, .top, .top, .top, .top, .top, .top, .top, .top, .top, .top, .top, .top, .top, .top, .top, .top, .top, .top, .top, .top], [some s0, none, some s2, none, some s4, none], h⟩
theorem jacquardlaw8_RelThen_r1 (C : CallF) (L : LoopF) (G : Glo) (a0 : Int) (a4 : Int) (a5 : Int) (b19 : Bool) (a20 : Int) (s0 : List Cell) (s2 : List Cell) (s4 : List Cell) (h : AHeap) :
    jacquardlaw8_RelThen_F1 C L G (jacquardlaw8_RelThen_s1 a0 a4 a5 b19 a20 s0 s2 s4 h) =
    if (decide (a20 < a0)) = true then scK b19 false (if 0 = 0 ∧ s0.length = 65 then c1 (C 3 [(.agg s0), (.c (.int .i64 a4)), (.c (.int .i64 a20))] h) fun y_18 h_17 => asB y_18 fun b_19 => scK b_19 true (if 0 = 0 ∧ s2.length = 65 then c1 (C 3 [(.agg s2), (.c (.int .i64 a20)), (.c (.int .i64 a5))] h_17) fun y_21 h_20 => asB y_21 fun b_22 => some (b_22, h_20) else none) false h_17 fun b_23 h_24 => some (b_23, h_24) else none) true h fun b_25 h_26 => some (.normal, (jacquardlaw8_RelThen_s1 a0 a4 a5 b_25 (G.wrap .i64 (a20 + 1)) s0 s2 s4 h_26)) else some ((.exit 0), (jacquardlaw8_RelThen_x1_1 a4 a5 b19 s0 s2 s4 h)) := by kernel_rfl
theorem jacquardlaw8_RelThen_e1_1 (C : CallF) (L : LoopF) (G : Glo) (h0 : AHeap) (a4 : Int) (a5 : Int) (b19 : Bool) (s0 : List Cell) (s2 : List Cell) (s4 : List Cell) (h : AHeap) :
    (jacquardlaw8_RelThen_k3 C L G h0) (.exit 0) (jacquardlaw8_RelThen_x1_1 a4 a5 b19 s0 s2 s4 h) =
    if 0 = 0 ∧ s0.length = 65 then if 0 = 0 ∧ s2.length = 65 then c1 (qh h (C 58 [(.agg s0), (.agg s2)] h)) fun y_28 h_27 => asA y_28 fun l_29 => c1 (qh h (C 3 [(.agg l_29), (.c (.int .i64 a4)), (.c (.int .i64 a5))] h)) fun y_31 h_30 => asB y_31 fun b_32 => scK (b_32 == b19) true (if 0 = 0 ∧ s0.length = 65 then if 0 = 0 ∧ s2.length = 65 then c1 (qh h (C 58 [(.agg s0), (.agg s2)] h)) fun y_34 h_33 => asA y_34 fun l_35 => if 0 = 0 ∧ s4.length = 65 then c1 (qh h (C 58 [(.agg l_35), (.agg s4)] h)) fun y_37 h_36 => asA y_37 fun l_38 => if 0 = 0 ∧ s0.length = 65 then if 0 = 0 ∧ s2.length = 65 then if 0 = 0 ∧ s4.length = 65 then c1 (qh h (C 58 [(.agg s2), (.agg s4)] h)) fun y_40 h_39 => asA y_40 fun l_41 => c1 (qh h (C 58 [(.agg s0), (.agg l_41)] h)) fun y_43 h_42 => asA y_43 fun l_44 => if alike l_38 ([Cell.int .i64 0] ++ List.replicate 64 (Cell.int .u64 0)) = true ∧ alike l_44 ([Cell.int .i64 0] ++ List.replicate 64 (Cell.int .u64 0)) = true then some ((decide (l_38 = l_44)), h) else none else none else none else none else none else none else none) false h fun b_45 h_46 => scK b_45 true (if 0 = 0 ∧ s0.length = 65 then if 0 = 0 ∧ s2.length = 65 then c1 (qh h_46 (C 59 [(.agg s0), (.agg s2)] h_46)) fun y_48 h_47 => asA y_48 fun l_49 => if 0 = 0 ∧ s4.length = 65 then c1 (qh h_46 (C 58 [(.agg l_49), (.agg s4)] h_46)) fun y_51 h_50 => asA y_51 fun l_52 => if 0 = 0 ∧ s0.length = 65 then if 0 = 0 ∧ s4.length = 65 then c1 (qh h_46 (C 58 [(.agg s0), (.agg s4)] h_46)) fun y_54 h_53 => asA y_54 fun l_55 => if 0 = 0 ∧ s2.length = 65 then if 0 = 0 ∧ s4.length = 65 then c1 (qh h_46 (C 58 [(.agg s2), (.agg s4)] h_46)) fun y_57 h_56 => asA y_57 fun l_58 => c1 (qh h_46 (C 59 [(.agg l_55), (.agg l_58)] h_46)) fun y_60 h_59 => asA y_60 fun l_61 => if alike l_52 ([Cell.int .i64 0] ++ List.replicate 64 (Cell.int .u64 0)) = true ∧ alike l_61 ([Cell.int .i64 0] ++ List.replicate 64 (Cell.int .u64 0)) = true then some ((decide (l_52 = l_61)), h_46) else none else none else none else none else none else none else none else none) false h_46 fun b_62 h_63 => scK b_62 true (c1 (qh h_63 (C 55 [] h_63)) fun y_65 h_64 => asB y_65 fun b_66 => some (b_66, h_63)) false h_63 fun b_67 h_68 => some ([(.c (.bool b_67))], h_68) else none else none := by kernel_rfl
set_option maxRecDepth 100000 in
theorem jacquardlaw8_RelThen_eq (C : CallF) (L : LoopF) (G : Glo) (a0 : Int) (x1 : Cell) (x2 : Cell) (x3 : Cell) (a4 : Int) (a5 : Int) (h0 : AHeap) :
    jacquardlaw8_RelThen.body C L G [(.c (.int .i64 a0)), (.c x1), (.c x2), (.c x3), (.c (.int .i64 a4)), (.c (.int .i64 a5))] h0 =
    let v_1 : Int := (G.wrap .i64 ((G.rem .i64 (G.band .i64 a0 255) 20) + 1)); if v_1 = 0 then none else if v_1 = 0 then none else c2 (C 1 [(.c (.int .i64 v_1)), (.c x1)] h0) fun y_3 y_4 h_2 => asA y_3 fun l_5 => asA y_4 fun l_6 => if 0 = 0 ∧ ([Cell.int .i64 0] ++ List.replicate 64 (Cell.int .u64 0)).length = 65 ∧ l_5.length = 65 then if 0 = 0 ∧ ([Cell.int .i64 0] ++ List.replicate 64 (Cell.int .u64 0)).length = 65 ∧ l_6.length = 65 then c2 (C 1 [(.c (.int .i64 v_1)), (.c x2)] h_2) fun y_8 y_9 h_7 => asA y_8 fun l_10 => asA y_9 fun l_11 => if 0 = 0 ∧ ([Cell.int .i64 0] ++ List.replicate 64 (Cell.int .u64 0)).length = 65 ∧ l_10.length = 65 then if 0 = 0 ∧ ([Cell.int .i64 0] ++ List.replicate 64 (Cell.int .u64 0)).length = 65 ∧ l_11.length = 65 then c2 (C 1 [(.c (.int .i64 v_1)), (.c x3)] h_7) fun y_13 y_14 h_12 => asA y_13 fun l_15 => asA y_14 fun l_16 => if 0 = 0 ∧ ([Cell.int .i64 0] ++ List.replicate 64 (Cell.int .u64 0)).length = 65 ∧ l_15.length = 65 then if 0 = 0 ∧ ([Cell.int .i64 0] ++ List.replicate 64 (Cell.int .u64 0)).length = 65 ∧ l_16.length = 65 then (L (jacquardlaw8_RelThen_F1 C L G) (jacquardlaw8_RelThen_s1 v_1 (G.rem .i64 (G.band .i64 a4 255) v_1) (G.rem .i64 (G.band .i64 a5 255) v_1) false 0 l_5 l_10 l_15 h_12)).bind fun p_69 => (jacquardlaw8_RelThen_k3 C L G h0) p_69.1 p_69.2 else none else none else none else none else none else none := by kernel_rfl


end Jq

namespace Jq
open Go

/- (*jacquard/jacquardref6.Rel).Has: 7 -/
set_option maxRecDepth 100000 in
theorem jacquardref6_Rel_Has_eq (C : CallF) (L : LoopF) (G : Glo) (k0 : Nat) (N0 : Nat) (o0 : Nat) (a1 : Int) (a2 : Int) (h0 : AHeap) :
    jacquardref6_Rel_Has.body C L G [(.c (.ptr k0 N0 o0)), (.c (.int .i64 a1)), (.c (.int .i64 a2))] h0 =
    if 0 ≤ a1 ∧ a1 < ((64 : Nat) : Int) then rdH h0 k0 N0 fun l_1 => atK l_1 ((o0 + 1) + ((Int.toNat a1) * 1)) fun q_2 => asI .u64 (.c q_2) fun n_3 => if a2 < 0 then none else some ([(.c (.bool ((G.band .u64 (G.shr .u64 n_3 a2) 1) == 1)))], h0) else none := by kernel_rfl

/- (*jacquard/jacquardref6.Rel).Add: 13 -/
set_option maxRecDepth 100000 in
theorem jacquardref6_Rel_Add_eq (C : CallF) (L : LoopF) (G : Glo) (k0 : Nat) (N0 : Nat) (o0 : Nat) (a1 : Int) (a2 : Int) (h0 : AHeap) :
    jacquardref6_Rel_Add.body C L G [(.c (.ptr k0 N0 o0)), (.c (.int .i64 a1)), (.c (.int .i64 a2))] h0 =
    if 0 ≤ a1 ∧ a1 < ((64 : Nat) : Int) then rdH h0 k0 N0 fun l_1 => atK l_1 ((o0 + 1) + ((Int.toNat a1) * 1)) fun q_2 => asI .u64 (.c q_2) fun n_3 => if a2 < 0 then none else if 0 ≤ a1 ∧ a1 < ((64 : Nat) : Int) then rdH h0 k0 N0 fun l_4 => if ((o0 + 1) + ((Int.toNat a1) * 1)) < l_4.length then putH h0 k0 (l_4.set ((o0 + 1) + ((Int.toNat a1) * 1)) (.int .u64 (G.bor .u64 n_3 (G.shl .u64 1 a2)))) fun h_5 => some ([], h_5) else none else none else none := by kernel_rfl


end Jq

/- The statements of relations: what their helpers come to. -/
namespace Jq
open Go

/-- A relation of pairs. -/
def ofR (n : Nat) (l : List (Int × Int)) : Nat → Nat := l.foldl (fun f p => addR n f p.1 p.2) fun _ => 0

theorem words_of (n : Nat) (l : List (Int × Int)) : Words (ofR n l) := by
  unfold ofR
  have : ∀ (l : List (Int × Int)) (f : Nat → Nat), Words f → Words (l.foldl (fun f p => addR n f p.1 p.2) f) := by
    intro l
    induction l with
    | nil => exact fun f h => h
    | cons p l ih => exact fun f h => ih _ (words_add h _ _)
  exact this l _ words_zero

theorem of_snoc (n : Nat) (l : List (Int × Int)) (p : Int × Int) : ofR n (l ++ [p]) = addR n (ofR n l) p.1 p.2 := by
  unfold ofR; rw [List.foldl_append]; rfl

theorem take_succ {α : Type} {l : List α} {i : Nat} {p : α} (h : l[i]? = some p) : l.take (i + 1) = l.take i ++ [p] := by
  rw [List.take_add_one, h]; rfl

variable {E : Env}

theorem refAdd_R (hE : jacquardref6_Rel_Add_In E) {n : Nat} (hn : n ≤ 64) {f : Nat → Nat} (hf : Words f) {a b : Int} (ha : inR n a = true) (hb : inR n b = true) {k : Nat} {h : AHeap} (hk : blk? h k = some ⟨true, 0, relL n f⟩) :
    R E 13 [.c (.ptr k 65 0), .c (.int .i64 a), .c (.int .i64 b)] h = some ([], setBlk h k (some ⟨true, 0, relL n (addR n f a b)⟩)) := by
  refine R_intro hE.fn ?_
  have h2 : 0 ≤ a ∧ a < n := by simpa [inR] using ha
  have h3 : 0 ≤ b ∧ b < n := by simpa [inR] using hb
  have q1 : 0 ≤ a ∧ a < ((64 : Nat) : Int) := by omega
  obtain ⟨m, rfl⟩ := Int.eq_ofNat_of_zero_le h3.1
  have hbit : bitI (m : Int) = 2 ^ m := by unfold bitI; rw [if_pos (by omega)]; simp
  rw [jacquardref6_Rel_Add_eq, if_pos q1, rdH_ok hk (relL_len n f)]
  dsimp only
  rw [show 0 + 1 + a.toNat * 1 = 1 + a.toNat by omega, atK_ok (relL_row (by omega)), asI_ok, if_neg (by omega), if_pos q1, rdH_ok hk (relL_len n f)]
  dsimp only
  rw [if_pos (by rw [relL_len]; omega), g_shl_one (by omega), ← hbit, g_bor (hf _) (bitI_lt _), relL_set, putH_ok hk rfl]
  unfold addR
  rw [ha, hb]; rfl

theorem inR_le {n : Nat} {a : Int} : inR n a = (decide (a ≥ 0) && decide (a < n)) := rfl

theorem Of_R (hE : jacquardlaw8_Of_In E) (a : Int) {x : Cell} {l : List (Int × Int)} {h : AHeap} (hx : SlAt h x 2 (pairC l) l.length) (hlow : Low h.length x) :
    R E 1 [.c (.int .i64 a), .c x] h = some ([.agg (relL (clamp a) (ofR (clamp a) (l.take 200))), .agg (relL (clamp a) (ofR (clamp a) (l.take 200)))], h) := by
  refine R_intro hE.fn ?_
  have hn : clamp a ≤ 64 := by unfold clamp; omega
  generalize hN : clamp a = n at hn ⊢
  have hv : (if 64 < (if 0 > a then 0 else a) then 64 else (if 0 > a then 0 else a)) = (n : Int) := by
    rw [← hN]; unfold clamp; split <;> split <;> omega
  rw [jacquardlaw8_Of_eq, New_R hE.c9, c1_ok, asA_ok, if_pos ⟨rfl, zero_len, relL_len _ _⟩, hN]
  simp only [hv, zero_rel, relL_len]
  rw [rdH_ok (blk_new h _) (relL_len _ _)]
  dsimp only
  rw [if_pos ⟨by trivial, relL_len _ _, by rw [splice_zero]; exact relL_len _ _⟩, splice_zero, putH_ok (blk_new h _) rfl, setBlk_last]
  dsimp only
  let g : Nat → St := fun i => jacquardlaw8_Of_s1 x h.length 65 0 (i : Int) (relL 0 fun _ => 0) (relL 0 fun _ => 0) (relL n (ofR n (l.take i))) (h ++ [some ⟨true, 0, relL n (ofR n (l.take i))⟩])
  have hk : ∀ t : AHeap, SlAt (h ++ t) x 2 (pairC l) l.length := fun t => hx.keep hlow (Kp.app t (Nat.le_refl _))
  have loop : Lim (jacquardlaw8_Of_F1 (R E) Lim E.glob) (g 0) = some (.exit 0, jacquardlaw8_Of_x1_1 h.length 65 0 (relL 0 fun _ => 0) (relL 0 fun _ => 0) (relL n (ofR n (l.take 200))) (h ++ [some ⟨true, 0, relL n (ofR n (l.take 200))⟩])) := by
    refine Lim_count g 0 (min l.length 200) (by omega) (fun i _ hi => ?_) ?_
    · obtain ⟨p, hp⟩ : ∃ p, l[i]? = some p := ⟨l[i], by simp⟩
      obtain ⟨g1, g2⟩ := pairC_get l i p hp
      have hil : i < l.length := by omega
      have hw := words_of n (l.take i)
      have hki := hk [some ⟨true, 0, relL n (ofR n (l.take i))⟩]
      show jacquardlaw8_Of_F1 (R E) Lim E.glob (jacquardlaw8_Of_s1 x h.length 65 0 (i : Int) _ _ _ _) = _
      rw [jacquardlaw8_Of_r1, hx.len, scK_and, show (decide ((i : Int) < (l.length : Int)) && decide ((i : Int) < 200)) = true by simp; omega]
      simp only [if_true]
      rw [hki.get hil (by omega) g1, asI_ok, hki.get hil (by omega) g2, asI_ok, if_pos ⟨by trivial, relL_len _ _⟩, Add_R hE.c10 hn hw, c1_ok, asA_ok, if_pos ⟨by trivial, relL_len _ _, relL_len _ _⟩]
      rw [rdH_ok (blk_new h _) (relL_len _ _), atK_ok (i := 0 + 0) (relL_zero _ _), asI_ok, scK_and, ← inR_le, scK_and, rdH_ok (blk_new h _) (relL_len _ _), atK_ok (i := 0 + 0) (relL_zero _ _), asI_ok, scK_and, Bool.and_assoc, ← inR_le]
      have hnext : g (i + 1) = jacquardlaw8_Of_s1 x h.length 65 0 ((i + 1 : Nat) : Int) (relL 0 fun _ => 0) (relL 0 fun _ => 0) (relL n (addR n (ofR n (l.take i)) p.1 p.2)) (h ++ [some ⟨true, 0, relL n (addR n (ofR n (l.take i)) p.1 p.2)⟩]) := by
        show jacquardlaw8_Of_s1 x h.length 65 0 ((i + 1 : Nat) : Int) _ _ _ _ = _
        rw [take_succ hp, of_snoc]
      rw [hnext]
      by_cases hin : (inR n p.1 && inR n p.2) = true
      · rw [hin]
        simp only [Bool.and_eq_true] at hin
        simp only [if_true]
        rw [refAdd_R hE.c13 hn hw hin.1 hin.2 (blk_new h _), c0_ok, setBlk_last, g_succ (by omega)]
      · have hadd : addR n (ofR n (l.take i)) p.1 p.2 = ofR n (l.take i) := by unfold addR; rw [if_neg hin]
        rw [show (inR n p.1 && inR n p.2) = false by simpa using hin, hadd]
        simp only [Bool.false_eq_true, if_false]
        rw [g_succ (by omega)]
    · refine Lim_exit ?_
      show jacquardlaw8_Of_F1 (R E) Lim E.glob (jacquardlaw8_Of_s1 x h.length 65 0 ((min l.length 200 : Nat) : Int) _ _ _ _) = _
      rw [jacquardlaw8_Of_r1, hx.len, scK_and, show (decide (((min l.length 200 : Nat) : Int) < (l.length : Int)) && decide (((min l.length 200 : Nat) : Int) < 200)) = false by simp; omega]
      simp only [Bool.false_eq_true, if_false]
      have : l.take (min l.length 200) = l.take 200 := by rw [Nat.min_comm, ← List.take_take, List.take_length]
      rw [this]
  have start : g 0 = jacquardlaw8_Of_s1 x h.length 65 0 0 (relL 0 fun _ => 0) (relL 0 fun _ => 0) (relL n fun _ => 0) (h ++ [some ⟨true, 0, relL n fun _ => 0⟩]) := rfl
  rw [start] at loop
  rw [loop, bind_ok, jacquardlaw8_Of_e1_1, if_pos ⟨rfl, relL_len _ _⟩, rdH_ok (blk_new h _) (relL_len _ _)]
  simp only [relL_len, and_self, if_true]
  unfold finish
  have hgc : gcOk h (h ++ [some ⟨true, 0, relL n (ofR n (l.take 200))⟩]) [.agg (relL n (ofR n (l.take 200))), .agg (relL n (ofR n (l.take 200)))] = true := by
    have hav : ∀ (m k : Nat) (f : Nat → Nat), avOk m (.agg (relL k f)) = true := by
      intro m k f
      simp [avOk, AV.cells, relL, idOk]
    simp only [gcOk, Bool.and_eq_true, List.all_cons, List.all_nil, hav, decide_eq_true_eq, List.length_append, List.all_eq_true, List.mem_range, Bool.or_eq_true]
    exact ⟨⟨by omega, by trivial⟩, fun k hk => .inl (List.getElem?_append_left hk)⟩
  simp only [hgc, if_true, List.take_left]

theorem awake8_R (hE : jacquardlaw8_awake_In E) (h : AHeap) : R E 55 [] h = some ([.c (.bool true)], h) := by
  refine R_intro hE.fn ?_
  have w0 : Words fun _ => 0 := words_zero
  have w1 : Words (addR 3 (fun _ => 0) 0 1) := words_add w0 0 1
  have w2 : Words (addR 3 (addR 3 (fun _ => 0) 0 1) 1 2) := words_add w1 1 2
  have w3 := words_add (n := 3) w2 2 0
  have w4 := words_clK w2 3 3
  have c3 : clamp 3 = 3 := rfl
  have b1 : hasR 3 (clK 3 (addR 3 (addR 3 (fun _ => 0) 0 1) 1 2) 3) 0 2 = true := by decide +kernel
  have b2 : hasR 3 (addR 3 (addR 3 (fun _ => 0) 0 1) 1 2) 0 2 = false := by decide +kernel
  have b3 : acycR 3 (addR 3 (addR 3 (fun _ => 0) 0 1) 1 2) = true := by decide +kernel
  have b4 : acycR 3 (addR 3 (addR 3 (addR 3 (fun _ => 0) 0 1) 1 2) 2 0) = false := by decide +kernel
  rw [jacquardlaw8_awake_eq, New_R hE.c9, c1_ok, asA_ok, c3, Add_R hE.c10 (by omega) w0, c1_ok, asA_ok, Add_R hE.c10 (by omega) w1, c1_ok, asA_ok, if_pos ⟨rfl, zero_len, relL_len _ _⟩, if_pos ⟨rfl, relL_len _ _⟩,
    Closure_R hE.c12 (by omega) w2, c1_ok, asA_ok, HasR_R hE.c3 (by omega) w4, c1_ok, asB_ok, b1, scK_ok, if_pos ⟨rfl, relL_len _ _⟩, HasR_R hE.c3 (by omega) w2, c1_ok, asB_ok, b2, bind_ok]
  dsimp only
  rw [show (!false) = true from rfl, scK_ok, if_pos ⟨rfl, relL_len _ _⟩, Acyclic_R hE.c26 (by omega) w2, c1_ok, asB_ok, b3, bind_ok]
  dsimp only
  rw [scK_ok, if_pos ⟨rfl, relL_len _ _⟩, Add_R hE.c10 (by omega) w2, c1_ok, asA_ok, Acyclic_R hE.c26 (by omega) w3, c1_ok, asB_ok, b4, bind_ok]
  dsimp only
  rw [show (!false) = true from rfl, scK_ok, if_pos ⟨rfl, relL_len _ _⟩, N_R hE.c14, c1_ok, asI_ok, bind_ok]
  rfl

/- What pairs make. -/
theorem addR_bit {n : Nat} (hn : n ≤ 64) (f : Nat → Nat) (x y : Int) (a b : Nat) : (addR n f x y a).testBit b = ((f a).testBit b || (inR n x && inR n y && decide (x = a) && decide (y = b))) := by
  unfold addR
  by_cases hin : (inR n x && inR n y) = true
  · rw [if_pos hin, hin, Bool.true_and]
    simp only [Bool.and_eq_true] at hin
    have hx : 0 ≤ x ∧ x < n := by simpa [inR] using hin.1
    have hy : 0 ≤ y ∧ y < n := by simpa [inR] using hin.2
    unfold updF
    by_cases ha : a = x.toNat
    · rw [if_pos ha, Nat.testBit_or, testBit_bitI, ← ha]
      have h1 : decide (x = (a : Int)) = true := by simp; omega
      rw [h1, Bool.true_and]
      by_cases hb : y = (b : Int)
      · have : b < 64 := by omega
        simp [hb, this]
      · simp [hb]
    · rw [if_neg ha]
      have h1 : decide (x = (a : Int)) = false := by simp; omega
      rw [h1, Bool.false_and, Bool.or_false]
  · rw [if_neg hin, show (inR n x && inR n y) = false by simpa using hin]; simp

theorem of_bit {n : Nat} (hn : n ≤ 64) (l : List (Int × Int)) (a b : Nat) : (ofR n l a).testBit b = true ↔ ∃ p ∈ l, inR n p.1 = true ∧ inR n p.2 = true ∧ p.1 = a ∧ p.2 = b := by
  have key : ∀ (l : List (Int × Int)) (f : Nat → Nat), ((l.foldl (fun f p => addR n f p.1 p.2) f) a).testBit b = true ↔ ((f a).testBit b = true ∨ ∃ p ∈ l, inR n p.1 = true ∧ inR n p.2 = true ∧ p.1 = a ∧ p.2 = b) := by
    intro l
    induction l with
    | nil => intro f; simp
    | cons p l ih =>
      intro f
      rw [List.foldl_cons, ih, addR_bit hn, Bool.or_eq_true]
      simp only [List.mem_cons, Bool.and_eq_true, decide_eq_true_eq]
      constructor
      · rintro ((h | ⟨⟨⟨h1, h2⟩, h3⟩, h4⟩) | ⟨q, hq, h⟩)
        · exact .inl h
        · exact .inr ⟨p, .inl rfl, h1, h2, h3, h4⟩
        · exact .inr ⟨q, .inr hq, h⟩
      · rintro (h | ⟨q, rfl | hq, h⟩)
        · exact .inl (.inl h)
        · exact .inl (.inr ⟨⟨⟨h.1, h.2.1⟩, h.2.2.1⟩, h.2.2.2⟩)
        · exact .inr ⟨q, hq, h⟩
  unfold ofR
  rw [key]; simp

theorem inR_nat {n a : Nat} : inR n (a : Int) = decide (a < n) := by
  unfold inR
  rw [Bool.eq_iff_iff]; simp

end Jq

namespace Jq
open Go

/- math/bits.TrailingZeros64: 42 -/
set_option maxRecDepth 100000 in
theorem bits_TrailingZeros64_eq (C : CallF) (L : LoopF) (G : Glo) (a0 : Int) (h0 : AHeap) :
    bits_TrailingZeros64.body C L G [(.c (.int .u64 a0))] h0 =
    if (a0 == 0) = true then some ([(.c (.int .i64 64))], h0) else let v_1 : Int := (G.wrap .u64 ((G.band .u64 a0 (G.wrap .u64 (0 - a0))) * 285870213051353865)); if 0 ≤ (G.shr .u64 v_1 58) ∧ (G.shr .u64 v_1 58) < ((64 : Nat) : Int) then atK (G.tab 1) (0 + ((Int.toNat (G.shr .u64 v_1 58)) * 1)) fun q_2 => asI .u8 (.c q_2) fun n_3 => some ([(.c (.int .i64 (G.wrap .i64 n_3)))], h0) else none := by kernel_rfl

/- math/bits.OnesCount64: 57 -/
set_option maxRecDepth 100000 in
theorem bits_OnesCount64_eq (C : CallF) (L : LoopF) (G : Glo) (a0 : Int) (h0 : AHeap) :
    bits_OnesCount64.body C L G [(.c (.int .u64 a0))] h0 =
    let v_1 : Int := (G.band .u64 (G.shr .u64 a0 1) 6148914691236517205); let v_2 : Int := (G.wrap .u64 (v_1 + (G.band .u64 a0 6148914691236517205))); let v_3 : Int := (G.band .u64 (G.shr .u64 v_2 2) 3689348814741910323); let v_4 : Int := (G.wrap .u64 (v_3 + (G.band .u64 v_2 3689348814741910323))); let v_5 : Int := (G.band .u64 (G.wrap .u64 ((G.shr .u64 v_4 4) + v_4)) 1085102592571150095); let v_6 : Int := (G.shr .u64 (G.wrap .u64 (v_5 + (G.shr .u64 v_5 8))) 16); let v_7 : Int := (G.wrap .u64 ((G.wrap .u64 (v_5 + (G.shr .u64 v_5 8))) + v_6)); let v_8 : Int := (G.wrap .u64 (v_7 + (G.shr .u64 v_7 32))); some ([(.c (.int .i64 (G.band .i64 (G.wrap .i64 v_8) 127)))], h0) := by kernel_rfl


end Jq

/- Bits counted, and the lowest one: what math/bits comes to. -/
namespace Jq
open Go

/-- How many of the first k bits are set. -/
def pcN : Nat → Nat → Nat
  | 0, _ => 0
  | k + 1, x => x % 2 + pcN k (x / 2)

/-- How many numbers a word has. -/
def pc (x : Nat) : Nat := pcN 64 x

theorem pcN_add : ∀ (m n x : Nat), pcN (m + n) x = pcN m x + pcN n (x / 2 ^ m)
  | 0, n, x => by simp [pcN]
  | m + 1, n, x => by
    rw [show m + 1 + n = (m + n) + 1 by omega, pcN, pcN_add m n, pcN, Nat.div_div_eq_div_mul, Nat.pow_succ, Nat.mul_comm 2, Nat.add_assoc]

theorem pcN_mod : ∀ (m x : Nat), pcN m (x % 2 ^ m) = pcN m x
  | 0, _ => rfl
  | m + 1, x => by
    rw [pcN, pcN, ← pcN_mod m (x / 2), ← pcN_mod m (x % 2 ^ (m + 1) / 2)]
    have h1 : x % 2 ^ (m + 1) % 2 = x % 2 := Nat.mod_mod_of_dvd _ ⟨2 ^ m, by rw [Nat.pow_succ, Nat.mul_comm]⟩
    have h2 : x % 2 ^ (m + 1) / 2 = x / 2 % 2 ^ m := by
      rw [Nat.pow_succ, Nat.mul_comm, Nat.mod_mul_right_div_self]
    rw [h1, h2, Nat.mod_mod]

/-- A function of each byte. -/
def mapB (f : Nat → Nat) : Nat → Nat → Nat
  | 0, _ => 0
  | k + 1, x => f (x % 256) + 256 * mapB f k (x / 256)

def repB (c : Nat) : Nat → Nat
  | 0 => 0
  | k + 1 => c + 256 * repB c k

theorem land_bytes {a b m n : Nat} (ha : a < 256) (hm : m < 256) : (a + 256 * b) &&& (m + 256 * n) = (a &&& m) + 256 * (b &&& n) := by
  have h1 : ((a + 256 * b) &&& (m + 256 * n)) % 256 = a &&& m := by
    have := @Nat.and_mod_two_pow (a + 256 * b) (m + 256 * n) 8
    rw [show (2 : Nat) ^ 8 = 256 from rfl] at this
    rw [this, Nat.add_mul_mod_self_left, Nat.add_mul_mod_self_left, Nat.mod_eq_of_lt ha, Nat.mod_eq_of_lt hm]
  have h2 : ((a + 256 * b) &&& (m + 256 * n)) / 256 = b &&& n := by
    have := @Nat.and_div_two_pow (a + 256 * b) (m + 256 * n) 8
    rw [show (2 : Nat) ^ 8 = 256 from rfl] at this
    rw [this, Nat.add_mul_div_left _ _ (by omega), Nat.add_mul_div_left _ _ (by omega), Nat.div_eq_of_lt ha, Nat.div_eq_of_lt hm, Nat.zero_add, Nat.zero_add]
  omega

def fb1 (b : Nat) : Nat := ((b / 2) &&& 0x55) + (b &&& 0x55)
def fb2 (b : Nat) : Nat := ((b / 4) &&& 0x33) + (b &&& 0x33)
def fb3 (b : Nat) : Nat := (b + b / 16) &&& 0x0f

theorem fb1_lt : ∀ b, b < 256 → fb1 b < 256 ∧ fb1 b % 4 < 3 ∧ ((b / 2 + 128) &&& 0x55 = (b / 2) &&& 0x55) := by decide +kernel
theorem fb2_lt : ∀ b, b < 256 → fb2 b < 256 ∧ (∀ c, c < 4 → ((b / 4 + 64 * c) &&& 0x33 = (b / 4) &&& 0x33)) := by decide +kernel
theorem fb12_lt : ∀ b, b < 256 → fb2 (fb1 b) ≤ 68 ∧ fb2 (fb1 b) % 16 ≤ 4 ∧ fb2 (fb1 b) / 16 ≤ 4 := by decide +kernel
theorem fb3_c : ∀ b, b < 69 → ∀ c, c < 5 → (b + b / 16 + 16 * c) < 256 ∧ (b % 16 ≤ 4 → b / 16 ≤ 4 → (b + b / 16 + 16 * c) &&& 0x0f = fb3 b) := by decide +kernel
theorem fb_pc : ∀ b, b < 256 → fb3 (fb2 (fb1 b)) = pcN 8 b ∧ pcN 8 b ≤ 8 := by decide +kernel

theorem mapB_lt {f : Nat → Nat} (hf : ∀ b, b < 256 → f b < 256) : ∀ k x, mapB f k x < 256 ^ k
  | 0, _ => by simp [mapB]
  | k + 1, x => by
    have h1 := hf (x % 256) (Nat.mod_lt _ (by omega))
    have h2 := mapB_lt hf k (x / 256)
    rw [mapB, Nat.pow_succ]; omega

theorem mapB_le {f : Nat → Nat} {c : Nat} (hf : ∀ b, b < 256 → f b ≤ c) : ∀ k x, mapB f k x ≤ repB c k
  | 0, _ => by simp [mapB]
  | k + 1, x => by
    have h1 := hf (x % 256) (Nat.mod_lt _ (by omega))
    have h2 := mapB_le hf k (x / 256)
    rw [mapB, repB]; omega

theorem mapB_mod {f : Nat → Nat} (hf : ∀ b, b < 256 → f b < 256) (k x : Nat) : mapB f (k + 1) x % 256 = f (x % 256) ∧ mapB f (k + 1) x / 256 = mapB f k (x / 256) := by
  have h1 := hf (x % 256) (Nat.mod_lt _ (by omega))
  rw [mapB]; omega

theorem stage1 : ∀ k x, x < 256 ^ k → ((x / 2) &&& repB 0x55 k) + (x &&& repB 0x55 k) = mapB fb1 k x
  | 0, x, h => by simp [repB, mapB]
  | k + 1, x, h => by
    have hx : x = x % 256 + 256 * (x / 256) := by omega
    have hlt : x / 256 < 256 ^ k := by rw [Nat.pow_succ] at h; omega
    have ih := stage1 k (x / 256) hlt
    have hb : x % 256 < 256 := Nat.mod_lt _ (by omega)
    generalize hlo : x % 256 = lo at hx hb
    generalize hhi : x / 256 = hi at hx ih hlt
    have e1 : x / 2 = (lo / 2 + 128 * (hi % 2)) + 256 * (hi / 2) := by omega
    rw [repB, e1, land_bytes (by omega) (by omega), hx, land_bytes hb (by omega), ← hx, mapB, hlo, hhi, ← ih]
    have hc : (lo / 2 + 128 * (hi % 2)) &&& 0x55 = (lo / 2) &&& 0x55 := by
      rcases Nat.mod_two_eq_zero_or_one hi with h0 | h0
      · rw [h0]; simp
      · rw [h0]; exact (fb1_lt lo hb).2.2
    rw [hc]; unfold fb1; omega

theorem stage2 : ∀ k x, x < 256 ^ k → ((x / 4) &&& repB 0x33 k) + (x &&& repB 0x33 k) = mapB fb2 k x
  | 0, x, h => by simp [repB, mapB]
  | k + 1, x, h => by
    have hx : x = x % 256 + 256 * (x / 256) := by omega
    have hlt : x / 256 < 256 ^ k := by rw [Nat.pow_succ] at h; omega
    have ih := stage2 k (x / 256) hlt
    have hb : x % 256 < 256 := Nat.mod_lt _ (by omega)
    generalize hlo : x % 256 = lo at hx hb
    generalize hhi : x / 256 = hi at hx ih hlt
    have e1 : x / 4 = (lo / 4 + 64 * (hi % 4)) + 256 * (hi / 4) := by omega
    rw [repB, e1, land_bytes (by omega) (by omega), hx, land_bytes hb (by omega), ← hx, mapB, hlo, hhi, ← ih, (fb2_lt lo hb).2 (hi % 4) (Nat.mod_lt _ (by omega))]
    unfold fb2; omega

theorem mapB_comp {f g : Nat → Nat} (hg : ∀ b, b < 256 → g b < 256) : ∀ k x, mapB f k (mapB g k x) = mapB (fun b => f (g b)) k x
  | 0, _ => rfl
  | k + 1, x => by
    obtain ⟨h1, h2⟩ := mapB_mod hg k x
    rw [mapB, h1, h2, mapB_comp hg k, mapB]

theorem stage3 : ∀ k x, ((mapB (fun b => fb2 (fb1 b)) k x / 16 + mapB (fun b => fb2 (fb1 b)) k x) &&& repB 0x0f k) = mapB (fun b => fb3 (fb2 (fb1 b))) k x
  | 0, x => by simp [repB, mapB]
  | k + 1, x => by
    have hb : x % 256 < 256 := Nat.mod_lt _ (by omega)
    obtain ⟨q1, q2, q3⟩ := fb12_lt _ hb
    have ih := stage3 k (x / 256)
    have hc : mapB (fun b => fb2 (fb1 b)) k (x / 256) % 16 < 5 := by
      cases k with
      | zero => simp [mapB]
      | succ k =>
        have hb2 : x / 256 % 256 < 256 := Nat.mod_lt _ (by omega)
        have := (fb12_lt _ hb2).2.1
        rw [mapB]; omega
    rw [mapB, mapB, repB]
    generalize hhi : mapB (fun b => fb2 (fb1 b)) k (x / 256) = hi at ih hc
    try dsimp only at q1 q2 q3 ⊢
    generalize hlo : fb2 (fb1 (x % 256)) = lo at q1 q2 q3
    have e1 : (lo + 256 * hi) / 16 + (lo + 256 * hi) = (lo + lo / 16 + 16 * (hi % 16)) + 256 * (hi / 16 + hi) := by omega
    obtain ⟨r1, r2⟩ := fb3_c lo (by omega) (hi % 16) hc
    rw [e1, land_bytes r1 (by omega), r2 q2 q3, ih]

theorem bytes_pc (x : Nat) : pc x = pcN 8 (x % 256) + pcN 8 (x / 256 % 256) + pcN 8 (x / 256 / 256 % 256) + pcN 8 (x / 256 / 256 / 256 % 256) + pcN 8 (x / 256 / 256 / 256 / 256 % 256) +
    pcN 8 (x / 256 / 256 / 256 / 256 / 256 % 256) + pcN 8 (x / 256 / 256 / 256 / 256 / 256 / 256 % 256) + pcN 8 (x / 256 / 256 / 256 / 256 / 256 / 256 / 256 % 256) := by
  have h8 : ∀ y, pcN 8 (y % 256) = pcN 8 y := fun y => pcN_mod 8 y
  have s : ∀ n y, pcN (8 + n) y = pcN 8 y + pcN n (y / 256) := fun n y => pcN_add 8 n y
  simp only [h8]
  unfold pc
  rw [show 64 = 8 + 56 from rfl, s, show 56 = 8 + 48 from rfl, s, show 48 = 8 + 40 from rfl, s, show 40 = 8 + 32 from rfl, s, show 32 = 8 + 24 from rfl, s, show 24 = 8 + 16 from rfl, s, show 16 = 8 + 8 from rfl, s]
  omega

theorem dm {a b k : Nat} (hk : 0 < k) (h : a < k) : (a + k * b) / k = b := by
  rw [Nat.add_mul_div_left _ _ hk, Nat.div_eq_of_lt h, Nat.zero_add]
theorem s8a (p0 p1 p2 r3 : Nat) : p0 + 256 * (p1 + 256 * (p2 + 256 * r3)) + (p1 + 256 * (p2 + 256 * r3)) = (p0 + p1 + 256 * (p1 + p2)) + 65536 * (p2 + 256 * r3 + r3) := by omega
theorem s8b (p2 p3 p4 r5 : Nat) : p2 + 256 * (p3 + 256 * (p4 + 256 * r5)) + (p3 + 256 * (p4 + 256 * r5)) = (p2 + p3 + 256 * (p3 + p4)) + 65536 * (p4 + 256 * r5 + r5) := by omega
theorem s8c (a b c d Q : Nat) : a + 65536 * (b + 65536 * Q) + (b + 65536 * Q) = (a + b + 65536 * b) + 65536 * Q + 4294967296 * Q := by omega
theorem s8d (X c Q : Nat) : X + 65536 * (c + 65536 * Q) + 4294967296 * (c + 65536 * Q) = (X + 65536 * c) + 4294967296 * (Q + (c + 65536 * Q)) := by omega
theorem v_le (p0 p1 p2 p3 p4 p5 p6 p7 : Nat) (h0 : p0 ≤ 8) (h1 : p1 ≤ 8) (h2 : p2 ≤ 8) (h3 : p3 ≤ 8) (h4 : p4 ≤ 8) (h5 : p5 ≤ 8) (h6 : p6 ≤ 8) (h7 : p7 ≤ 8) :
    p0 + 256 * (p1 + 256 * (p2 + 256 * (p3 + 256 * (p4 + 256 * (p5 + 256 * (p6 + 256 * p7)))))) ≤ 578721382704613384 := by
  have a7 : p6 + 256 * p7 ≤ 2056 := by omega
  generalize p6 + 256 * p7 = r at *
  have a6 : p5 + 256 * r ≤ 526344 := by omega
  generalize p5 + 256 * r = r at *
  have a5 : p4 + 256 * r ≤ 134744072 := by omega
  generalize p4 + 256 * r = r at *
  have a4 : p3 + 256 * r ≤ 34494482440 := by omega
  generalize p3 + 256 * r = r at *
  have a3 : p2 + 256 * r ≤ 8830587504648 := by omega
  generalize p2 + 256 * r = r at *
  have a2 : p1 + 256 * r ≤ 2260630401189896 := by omega
  generalize p1 + 256 * r = r at *
  omega

theorem lowA {a b c : Nat} (h0 : a ≤ 8) (h1 : b ≤ 8) (h2 : c ≤ 8) : a + b + 256 * (b + c) < 65536 := by omega
theorem lowB {p0 p1 p2 p3 p4 p5 p6 : Nat} (h0 : p0 ≤ 8) (h1 : p1 ≤ 8) (h2 : p2 ≤ 8) (h3 : p3 ≤ 8) (h4 : p4 ≤ 8) (h5 : p5 ≤ 8) (h6 : p6 ≤ 8) :
    (p0 + p1 + 256 * (p1 + p2)) + (p2 + p3 + 256 * (p3 + p4)) + 65536 * (p2 + p3 + 256 * (p3 + p4)) + 65536 * (p4 + p5 + 256 * (p5 + p6)) < 4294967296 := by omega
theorem s8e (p0 p1 p2 p3 p4 p5 p6 p7 W : Nat) (hW : W = (p6 + 256 * p7 + p7) + ((p4 + p5 + 256 * (p5 + p6)) + 65536 * (p6 + 256 * p7 + p7))) :
    ((p0 + p1 + 256 * (p1 + p2)) + (p2 + p3 + 256 * (p3 + p4)) + 65536 * (p2 + p3 + 256 * (p3 + p4)) + 65536 * (p4 + p5 + 256 * (p5 + p6))) + 4294967296 * W + W =
    (p0 + p1 + p2 + p3 + p4 + p5 + p6 + p7) + 128 * (2 * ((p1 + p2) + (p3 + p4) + 256 * (p2 + p3 + 256 * (p3 + p4)) + 256 * (p4 + p5 + 256 * (p5 + p6)) + 16777216 * W + (p7 + (p5 + p6) + 256 * (p6 + 256 * p7 + p7)))) := by
  omega
theorem sum_le {p0 p1 p2 p3 p4 p5 p6 p7 : Nat} (h0 : p0 ≤ 8) (h1 : p1 ≤ 8) (h2 : p2 ≤ 8) (h3 : p3 ≤ 8) (h4 : p4 ≤ 8) (h5 : p5 ≤ 8) (h6 : p6 ≤ 8) (h7 : p7 ≤ 8) : p0 + p1 + p2 + p3 + p4 + p5 + p6 + p7 < 128 := by omega

theorem sum8 (p0 p1 p2 p3 p4 p5 p6 p7 : Nat) (h0 : p0 ≤ 8) (h1 : p1 ≤ 8) (h2 : p2 ≤ 8) (h3 : p3 ≤ 8) (h4 : p4 ≤ 8) (h5 : p5 ≤ 8) (h6 : p6 ≤ 8) (h7 : p7 ≤ 8) (v u t : Nat)
    (hv : v = p0 + 256 * (p1 + 256 * (p2 + 256 * (p3 + 256 * (p4 + 256 * (p5 + 256 * (p6 + 256 * p7))))))) (hu : u = v + v / 256) (ht : t = u + u / 65536) :
    v < 2 ^ 63 ∧ u < 2 ^ 63 ∧ t < 2 ^ 63 ∧ t + t / 4294967296 < 2 ^ 63 ∧ (t + t / 4294967296) % 128 = p0 + p1 + p2 + p3 + p4 + p5 + p6 + p7 := by
  have bv := v_le p0 p1 p2 p3 p4 p5 p6 p7 h0 h1 h2 h3 h4 h5 h6 h7
  rw [← hv] at bv
  have d1 : v / 256 ≤ v := Nat.div_le_self _ _
  have d2 : u / 65536 ≤ u := Nat.div_le_self _ _
  have d3 : t / 4294967296 ≤ t := Nat.div_le_self _ _
  have fin : (t + t / 4294967296) % 128 = p0 + p1 + p2 + p3 + p4 + p5 + p6 + p7 := by
    clear bv d1 d2 d3
    have e1 : v / 256 = p1 + 256 * (p2 + 256 * (p3 + 256 * (p4 + 256 * (p5 + 256 * (p6 + 256 * p7))))) := by rw [hv]; exact dm (by decide) (Nat.lt_of_le_of_lt h0 (by decide))
    have e2 : u = (p0 + p1 + 256 * (p1 + p2)) + 65536 * (p2 + 256 * (p3 + 256 * (p4 + 256 * (p5 + 256 * (p6 + 256 * p7)))) + (p3 + 256 * (p4 + 256 * (p5 + 256 * (p6 + 256 * p7))))) := by
      rw [hu, e1, hv]; exact s8a _ _ _ _
    have e3 : u / 65536 = p2 + 256 * (p3 + 256 * (p4 + 256 * (p5 + 256 * (p6 + 256 * p7)))) + (p3 + 256 * (p4 + 256 * (p5 + 256 * (p6 + 256 * p7)))) := by rw [e2]; exact dm (by decide) (lowA h0 h1 h2)
    have e4 : t = ((p0 + p1 + 256 * (p1 + p2)) + (p2 + p3 + 256 * (p3 + p4)) + 65536 * (p2 + p3 + 256 * (p3 + p4)) + 65536 * (p4 + p5 + 256 * (p5 + p6))) + 4294967296 * ((p6 + 256 * p7 + p7) + ((p4 + p5 + 256 * (p5 + p6)) + 65536 * (p6 + 256 * p7 + p7))) := by
      rw [ht, e3, e2, s8b p2 p3 p4, s8b p4 p5 p6, s8c _ _ 0 0, s8d]
    have e5 : t / 4294967296 = (p6 + 256 * p7 + p7) + ((p4 + p5 + 256 * (p5 + p6)) + 65536 * (p6 + 256 * p7 + p7)) := by
      rw [e4]
      exact dm (by decide) (lowB h0 h1 h2 h3 h4 h5 h6)
    rw [e5, e4, s8e _ _ _ _ _ _ _ _ _ rfl, Nat.add_mul_mod_self_left, Nat.mod_eq_of_lt (sum_le h0 h1 h2 h3 h4 h5 h6 h7)]
  clear hv h0 h1 h2 h3 h4 h5 h6 h7
  refine ⟨?_, ?_, ?_, ?_, fin⟩ <;> clear fin <;> omega

variable {E : Env}

theorem sh_by {k m : Nat} (hk : k ≤ 64) (hm : 2 ^ k = m) (y : Nat) : E.glob.shr .u64 (y : Int) (k : Int) = ((y / m : Nat) : Int) := by
  rw [g_shr hk, Nat.shiftRight_eq_div_pow, hm]

theorem OnesCount_R (hE : bits_OnesCount64_In E) {x : Nat} (hx : x < 2 ^ 64) (h : AHeap) : R E 57 [.c (.int .u64 x)] h = some ([.c (.int .i64 (pc x))], h) := by
  refine R_intro hE.fn ?_
  rw [bits_OnesCount64_eq]
  have m0 : (6148914691236517205 : Int) = ((repB 0x55 8 : Nat) : Int) := by decide
  have m1 : (3689348814741910323 : Int) = ((repB 0x33 8 : Nat) : Int) := by decide
  have m2 : (1085102592571150095 : Int) = ((repB 0x0f 8 : Nat) : Int) := by decide
  have l0 : repB 0x55 8 < 2 ^ 64 := by decide
  have l1 : repB 0x33 8 < 2 ^ 64 := by decide
  have l2 : repB 0x0f 8 < 2 ^ 64 := by decide
  have s1 := stage1 8 x hx
  have f1 := mapB_lt (fun b hb => (fb1_lt b hb).1) 8 x
  have s2 := stage2 8 (mapB fb1 8 x) f1
  have s3 := stage3 8 x
  have cm := mapB_comp (f := fb2) (fun b hb => (fb1_lt b hb).1) 8 x
  rw [cm] at s2
  have f2 : mapB (fun b => fb2 (fb1 b)) 8 x < 256 ^ 8 := mapB_lt (fun b hb => (fb2_lt _ (fb1_lt b hb).1).1) 8 x
  have sh1 : E.glob.shr .u64 (x : Int) 1 = ((x / 2 : Nat) : Int) := sh_by (k := 1) (by omega) (by decide) _
  simp only [m0, m1, m2]
  rw [sh1, g_band (x := x / 2) (by omega) l0, g_band hx l0, ← Int.natCast_add, s1, g_wrap_u64n f1]
  have sh2 : E.glob.shr .u64 ((mapB fb1 8 x : Nat) : Int) 2 = ((mapB fb1 8 x / 4 : Nat) : Int) := sh_by (k := 2) (by omega) (by decide) _
  rw [sh2, g_band (x := mapB fb1 8 x / 4) (by omega) l1, g_band f1 l1, ← Int.natCast_add, s2, g_wrap_u64n f2]
  have sh3 : E.glob.shr .u64 ((mapB (fun b => fb2 (fb1 b)) 8 x : Nat) : Int) 4 = ((mapB (fun b => fb2 (fb1 b)) 8 x / 16 : Nat) : Int) := sh_by (k := 4) (by omega) (by decide) _
  have top : mapB (fun b => fb2 (fb1 b)) 8 x / 16 + mapB (fun b => fb2 (fb1 b)) 8 x < 2 ^ 64 := by
    have h1 := mapB_le (f := fun b => fb2 (fb1 b)) (c := 68) (fun b hb => (fb12_lt b hb).1) 8 x
    rw [show repB 68 8 = 4919131752989213764 by decide] at h1
    omega
  rw [sh3, ← Int.natCast_add, g_wrap_u64n top, g_band top l2, s3]
  -- the eight counts
  have hp : ∀ y, fb3 (fb2 (fb1 (y % 256))) = pcN 8 (y % 256) ∧ pcN 8 (y % 256) ≤ 8 := fun y => fb_pc _ (Nat.mod_lt _ (by omega))
  have v5 : mapB (fun b => fb3 (fb2 (fb1 b))) 8 x = pcN 8 (x % 256) + 256 * (pcN 8 (x / 256 % 256) + 256 * (pcN 8 (x / 256 / 256 % 256) + 256 * (pcN 8 (x / 256 / 256 / 256 % 256) + 256 * (pcN 8 (x / 256 / 256 / 256 / 256 % 256) +
      256 * (pcN 8 (x / 256 / 256 / 256 / 256 / 256 % 256) + 256 * (pcN 8 (x / 256 / 256 / 256 / 256 / 256 / 256 % 256) + 256 * pcN 8 (x / 256 / 256 / 256 / 256 / 256 / 256 / 256 % 256))))))) := by
    simp only [mapB, (hp _).1, Nat.mul_zero, Nat.add_zero]
  rw [v5, bytes_pc]
  have h0 := (hp x).2
  have h1 := (hp (x / 256)).2
  have h2 := (hp (x / 256 / 256)).2
  have h3 := (hp (x / 256 / 256 / 256)).2
  have h4 := (hp (x / 256 / 256 / 256 / 256)).2
  have h5 := (hp (x / 256 / 256 / 256 / 256 / 256)).2
  have h6 := (hp (x / 256 / 256 / 256 / 256 / 256 / 256)).2
  have h7 := (hp (x / 256 / 256 / 256 / 256 / 256 / 256 / 256)).2
  generalize pcN 8 (x % 256) = p0 at *
  generalize pcN 8 (x / 256 % 256) = p1 at *
  generalize pcN 8 (x / 256 / 256 % 256) = p2 at *
  generalize pcN 8 (x / 256 / 256 / 256 % 256) = p3 at *
  generalize pcN 8 (x / 256 / 256 / 256 / 256 % 256) = p4 at *
  generalize pcN 8 (x / 256 / 256 / 256 / 256 / 256 % 256) = p5 at *
  generalize pcN 8 (x / 256 / 256 / 256 / 256 / 256 / 256 % 256) = p6 at *
  generalize pcN 8 (x / 256 / 256 / 256 / 256 / 256 / 256 / 256 % 256) = p7 at *
  clear s1 s2 s3 f1 f2 cm sh1 sh2 sh3 top v5 hp m0 m1 m2 l0 l1 l2 hx
  generalize hv : p0 + 256 * (p1 + 256 * (p2 + 256 * (p3 + 256 * (p4 + 256 * (p5 + 256 * (p6 + 256 * p7)))))) = v
  obtain ⟨c1, c2, c3, c4, c5⟩ := sum8 p0 p1 p2 p3 p4 p5 p6 p7 h0 h1 h2 h3 h4 h5 h6 h7 v _ _ hv.symm rfl rfl
  have sh8 : E.glob.shr .u64 (v : Int) 8 = ((v / 256 : Nat) : Int) := sh_by (k := 8) (by omega) (by decide) _
  have w1 : v + v / 256 < 2 ^ 64 := Nat.lt_trans c2 (by decide)
  rw [sh8, ← Int.natCast_add, g_wrap_u64n w1]
  generalize hu : v + v / 256 = u at *
  have sh16 : E.glob.shr .u64 (u : Int) 16 = ((u / 65536 : Nat) : Int) := sh_by (k := 16) (by omega) (by decide) _
  have w2 : u + u / 65536 < 2 ^ 64 := Nat.lt_trans c3 (by decide)
  rw [sh16, ← Int.natCast_add, g_wrap_u64n w2]
  generalize ht : u + u / 65536 = t at *
  have sh32 : E.glob.shr .u64 (t : Int) 32 = ((t / 4294967296 : Nat) : Int) := sh_by (k := 32) (by omega) (by decide) _
  have w3 : t + t / 4294967296 < 2 ^ 64 := Nat.lt_trans c4 (by decide)
  rw [sh32, ← Int.natCast_add, g_wrap_u64n w3]
  generalize hq : t + t / 4294967296 = q at *
  have w4 : E.glob.wrap .i64 (q : Int) = q := g_wrap_i64 (by omega) (by omega)
  rw [w4, g_band127, ← c5]
  rfl

end Jq

/- The lowest bit: what math/bits comes to. -/
namespace Jq
open Go

variable {E : Env}

theorem mul_wrap (y : Nat) : E.glob.wrap .u64 ((y : Int) * 285870213051353865) = ((y * 285870213051353865 % 18446744073709551616 : Nat) : Int) := by
  show IntKind.wrap .u64 _ = _
  simp only [IntKind.wrap, IntKind.signed, IntKind.bits, Bool.false_and, Bool.false_eq_true, if_false]; omega

theorem neg_wrap {x : Nat} (hx : x < 2 ^ 64) (h0 : x ≠ 0) : E.glob.wrap .u64 (0 - (x : Int)) = ((2 ^ 64 - x : Nat) : Int) := by
  show IntKind.wrap .u64 _ = _
  simp only [IntKind.wrap, IntKind.signed, IntKind.bits, Bool.false_and, Bool.false_eq_true, if_false]; omega

theorem shr58 (y : Nat) : E.glob.shr .u64 (y : Int) 58 = ((y / 288230376151711744 : Nat) : Int) := sh_by (k := 58) (by omega) (by decide) y

theorem getD_some {L : List Nat} {n i k : Nat} (hn : L.length = n) (hi : i < n) (hd : L.getD i 0 = k) : L[i]? = some k := by
  rw [List.getD_eq_getElem?_getD] at hd
  cases h : L[i]? with
  | none => rw [List.getElem?_eq_none_iff] at h; omega
  | some x => rw [h] at hd; exact congrArg some hd

theorem deB_len : Go.Lib.deBruijn64tab.length = 64 := by decide

/-- The lowest of them. -/
theorem TrailingZeros_R (hE : bits_TrailingZeros64_In E) (htab : ∀ k, k < 64 → (E.tab 1)[k]? = (Go.Lib.deBruijn64tab[k]?).map fun (n : Nat) => Cell.int .u8 (n : Int)) {x : Nat} (hx : x < 2 ^ 64) (h0 : x ≠ 0) (h : AHeap) :
    R E 42 [.c (.int .u64 x)] h = some ([.c (.int .i64 (Go.Lib.ctz 64 x))], h) := by
  refine R_intro hE.fn ?_
  have hne : ((x : Int) == 0) = false := by rw [beq_eq_false_iff_ne]; omega
  obtain ⟨q1, q2⟩ := Go.Lib.lowest_bit 64 x h0 hx
  rw [bits_TrailingZeros64_eq, hne, neg_wrap hx h0, g_band hx (by omega), q1, mul_wrap]
  dsimp only
  rw [shr58]
  simp only [Bool.false_eq_true, if_false]
  obtain ⟨d1, d2⟩ := Go.Lib.deBruijn64_at (Go.Lib.ctz 64 x) q2
  generalize Go.Lib.ctz 64 x = k at *
  generalize 2 ^ k * 285870213051353865 % 18446744073709551616 / 288230376151711744 = i at *
  have hc : (E.glob.tab 1)[0 + (i : Int).toNat * 1]? = some (.int .u8 (k : Int)) := by
    rw [Int.toNat_natCast, Nat.mul_one, Nat.zero_add]
    show (E.tab 1)[i]? = _
    rw [htab i d1, getD_some deB_len d1 d2]
    rfl
  have hi : 0 ≤ (i : Int) ∧ (i : Int) < ((64 : Nat) : Int) := ⟨Int.natCast_nonneg _, by exact_mod_cast d1⟩
  rw [if_pos hi, atK_ok hc, asI_ok, g_wrap_i64 (by omega) (by omega)]

end Jq

/- The numbers of a word, in order. -/
namespace Jq
open Go

/-- A word's numbers, rising. -/
def bitsL (s : Nat) : List Nat := (List.range 64).filter fun i => s.testBit i

theorem mem_bitsL {s i : Nat} : i ∈ bitsL s ↔ i < 64 ∧ s.testBit i = true := by simp [bitsL]

theorem pcN_filter (x : Nat) : ∀ k, pcN k x = ((List.range k).filter fun i => x.testBit i).length
  | 0 => rfl
  | k + 1 => by
    rw [pcN_add k 1, pcN_filter x k, List.range_succ, List.filter_append, List.length_append]
    congr 1
    rw [List.filter_cons, Nat.testBit_eq_decide_div_mod_eq]
    have := Nat.mod_two_eq_zero_or_one (x / 2 ^ k)
    by_cases hb : x / 2 ^ k % 2 = 1
    · simp [hb, pcN]
    · have h0 : x / 2 ^ k % 2 = 0 := by omega
      simp [h0, pcN]

theorem pc_bitsL (s : Nat) : pc s = (bitsL s).length := pcN_filter s 64

theorem low_form {s : Nat} (hs : s < 2 ^ 64) (h0 : s ≠ 0) : ∃ m, s = 2 ^ (Lib.ctz 64 s + 1) * m + 2 ^ Lib.ctz 64 s ∧ Lib.ctz 64 s < 64 := by
  have : Lib.ctz 64 s = Lib.ctzFrom 64 s := by unfold Lib.ctz; rw [if_neg h0]
  rw [this]
  obtain ⟨m, h1, h2⟩ := Lib.ctzFrom_spec 64 s (by omega) hs
  refine ⟨m, ?_, h2⟩
  conv => lhs; rw [h1]
  rw [Nat.mul_add, Nat.mul_one, ← Nat.mul_assoc, Nat.pow_succ]

theorem low_bit {s : Nat} (hs : s < 2 ^ 64) (h0 : s ≠ 0) : s.testBit (Lib.ctz 64 s) = true ∧ (∀ j, j < Lib.ctz 64 s → s.testBit j = false) ∧ ∀ j, (s &&& (s - 1)).testBit j = (s.testBit j && decide (j ≠ Lib.ctz 64 s)) := by
  obtain ⟨m, h1, h2⟩ := low_form hs h0
  generalize Lib.ctz 64 s = k at h1 h2
  have hp : 0 < 2 ^ k := Nat.two_pow_pos k
  have hlt : 2 ^ k < 2 ^ (k + 1) := by rw [Nat.pow_succ]; omega
  have t1 : ∀ j, s.testBit j = if j < k + 1 then decide (j = k) else m.testBit (j - (k + 1)) := by
    intro j
    rw [h1, Nat.testBit_two_pow_mul_add _ hlt]
    split
    · rw [Nat.testBit_two_pow, Bool.eq_iff_iff]; simp; exact eq_comm
    · rfl
  have t2 : ∀ j, (s - 1).testBit j = if j < k + 1 then decide (j < k) else m.testBit (j - (k + 1)) := by
    intro j
    have : s - 1 = 2 ^ (k + 1) * m + (2 ^ k - 1) := by omega
    rw [this, Nat.testBit_two_pow_mul_add _ (by omega)]
    split
    · rw [Nat.testBit_two_pow_sub_one]
    · rfl
  refine ⟨by rw [t1, if_pos (by omega)]; simp, fun j hj => by rw [t1, if_pos (by omega)]; simp; omega, fun j => ?_⟩
  rw [Nat.testBit_and, t1, t2]
  split
  · rw [Bool.eq_iff_iff]; simp; omega
  · rename_i hj
    have : decide (j ≠ k) = true := by simp; omega
    rw [this, Bool.and_self, Bool.and_true]

theorem bitsL_cons {s : Nat} (hs : s < 2 ^ 64) (h0 : s ≠ 0) : bitsL s = Lib.ctz 64 s :: bitsL (s &&& (s - 1)) := by
  obtain ⟨b1, b2, b3⟩ := low_bit hs h0
  obtain ⟨_, _, hk⟩ := low_form hs h0
  generalize Lib.ctz 64 s = k at b1 b2 b3 hk
  unfold bitsL
  have hr : List.range 64 = List.range k ++ k :: List.range' (k + 1) (64 - (k + 1)) := by
    rw [List.range_eq_range', List.range_eq_range']
    have : (64 : Nat) = k + (1 + (64 - (k + 1))) := by omega
    conv => lhs; rw [this]
    rw [List.range'_append_1.symm, Nat.zero_add, Nat.add_comm 1, List.range'_succ]
  rw [hr, List.filter_append, List.filter_append, List.filter_cons, List.filter_cons, if_pos b1, b3 k]
  have e1 : (List.range k).filter (fun i => s.testBit i) = [] := List.filter_eq_nil_iff.2 fun x hx => by rw [b2 x (by simpa using hx)]; simp
  have e2 : (List.range k).filter (fun i => (s &&& (s - 1)).testBit i) = [] := List.filter_eq_nil_iff.2 fun x hx => by rw [b3, b2 x (by simpa using hx)]; simp
  rw [e1, e2, List.nil_append, List.nil_append, if_neg (by simp)]
  congr 1
  refine List.filter_congr fun x hx => ?_
  rw [List.mem_range'_1] at hx
  rw [b3]
  have : decide (x ≠ k) = true := by simp; omega
  rw [this, Bool.and_true]

theorem and_pred_lt {s : Nat} (h0 : s ≠ 0) : s &&& (s - 1) < s := Nat.lt_of_le_of_lt Nat.and_le_right (by omega)

theorem bitsL_zero : bitsL 0 = [] := by decide

theorem bitsL_nil {s : Nat} (hs : s < 2 ^ 64) : bitsL s = [] ↔ s = 0 := by
  constructor
  · intro h
    by_cases h0 : s = 0
    · exact h0
    · rw [bitsL_cons hs h0] at h; cases h
  · rintro rfl; exact bitsL_zero

/-- The first number; none: less than nought. -/
def firstI (s : Nat) : Int := if s = 0 then -1 else Lib.ctz 64 s

/-- What math/bits reads. -/
def TabOk (E : Env) : Prop := ∀ k, k < 64 → (E.tab 1)[k]? = (Lib.deBruijn64tab[k]?).map fun (n : Nat) => Cell.int .u8 (n : Int)

variable {E : Env}

theorem Len_R (hE : set_Set_Len_In E) {s : Nat} (hs : s < 2 ^ 64) (h : AHeap) : R E 56 [.c (.int .u64 s)] h = some ([.c (.int .i64 (pc s))], h) := by
  refine R_intro hE.fn ?_
  rw [set_Set_Len_eq, OnesCount_R hE.c57 hs, c1_ok, asI_ok]

theorem First_R (hE : set_Set_First_In E) (ht : TabOk E) {s : Nat} (hs : s < 2 ^ 64) (h : AHeap) : R E 38 [.c (.int .u64 s)] h = some ([.c (.int .i64 (firstI s))], h) := by
  refine R_intro hE.fn ?_
  rw [set_Set_First_eq]
  unfold firstI
  by_cases h0 : s = 0
  · subst h0; simp
  · have hne : ((s : Int) == 0) = false := by rw [beq_eq_false_iff_ne]; omega
    rw [hne, if_neg h0]
    simp only [Bool.false_eq_true, if_false]
    rw [TrailingZeros_R hE.c42 ht hs h0, c1_ok, asI_ok]

/-- A row of natural numbers, as cells. -/
def natC (l : List Nat) : List Cell := intC .i64 (l.map fun (n : Nat) => (n : Int))

theorem natC_len (l : List Nat) : (natC l).length = l.length := by simp [natC, intC]
theorem natC_snoc (l : List Nat) (n : Nat) : natC (l ++ [n]) = natC l ++ [.int .i64 n] := by simp [natC, intC]
theorem natC_get {l : List Nat} {i n : Nat} (h : l[i]? = some n) : (natC l)[i]? = some (.int .i64 n) := by simp [natC, intC, h]

theorem List_R (hE : set_Set_List_In E) (ht : TabOk E) {s : Nat} (hs : s < 2 ^ 64) (h : AHeap) :
    ∃ x h', R E 32 [.c (.int .u64 s)] h = some ([.c x], h') ∧ Own h.length h' x 1 (natC (bitsL s)) (bitsL s).length ∧ Kp h.length h h' := by
  suffices hs' : ∃ x h', set_Set_List.body (R E) Lim E.glob [.c (.int .u64 s)] h = some ([.c x], h') ∧ Own h.length h' x 1 (natC (bitsL s)) (bitsL s).length ∧ Kp h.length h h' by
    obtain ⟨x, h', hh, hr⟩ := hs'; exact ⟨x, h', R_intro hE.fn hh, hr⟩
  obtain ⟨p, hp, x, h', rfl, ho, hk⟩ := Lim_fall (F := set_Set_List_F1 (R E) Lim E.glob) (fun st => match st.t with | .v (.c (.int _ n)) :: _ => n.toNat | _ => 0)
    (fun st => ∃ (a : Nat) (x : Cell) (h' : AHeap) (done : List Nat), st = set_Set_List_s1 a x h' ∧ a < 2 ^ 64 ∧ done ++ bitsL a = bitsL s ∧ Own h.length h' x 1 (natC done) done.length ∧ Kp h.length h h')
    (fun p => ∃ x h', p = (.exit 0, set_Set_List_x1_1 x h') ∧ Own h.length h' x 1 (natC (bitsL s)) (bitsL s).length ∧ Kp h.length h h')
    (fun st hI => by
      obtain ⟨a, x, h', done, rfl, ha, hd, ho, hk⟩ := hI
      by_cases h0 : a = 0
      · right
        subst h0
        refine ⟨_, by rw [set_Set_List_r1]; rfl, by simp, x, h', rfl, ?_, hk⟩
        rw [bitsL_zero, List.append_nil] at hd
        rw [← hd]; exact ho
      · left
        have hne : ((a : Int) != 0) = true := by rw [bne_iff_ne]; omega
        have hlen : done.length < 64 := by
          have h1 : (bitsL s).length ≤ 64 := by unfold bitsL; exact Nat.le_trans (List.length_filter_le _ _) (by simp)
          rw [← hd, bitsL_cons ha h0] at h1
          simp at h1; omega
        obtain ⟨x', h2, hap, ho', hk', _⟩ := ho.app (xs := [.int .i64 (Lib.ctz 64 a : Nat)]) (bytes := 8) hk.1 rfl (by omega) (by unfold maxBytes; omega) (by unfold maxBytes; omega)
        refine ⟨set_Set_List_s1 ((a &&& (a - 1) : Nat) : Int) x' h2, ?_, ⟨a &&& (a - 1), x', h2, done ++ [Lib.ctz 64 a], rfl, and_lt ha, ?_, ?_, hk.trans hk'⟩, ?_⟩
        · rw [set_Set_List_r1, if_pos hne, First_R hE.c38 ht ha, c1_ok, asI_ok]
          unfold firstI
          rw [if_neg h0, show splice [Cell.int .i64 0] 0 [Cell.int .i64 ((Lib.ctz 64 a : Nat) : Int)] = [.int .i64 ((Lib.ctz 64 a : Nat) : Int)] from rfl, if_pos (show (List.length [_] : Nat) = 1 * 1 from rfl), hap]
          rw [show E.glob.wrap .u64 ((a : Int) - 1) = ((a - 1 : Nat) : Int) by rw [g_wrap_u64 (by omega) (by omega)]; omega, g_band ha (by omega)]
        · rw [List.append_assoc, List.singleton_append, ← bitsL_cons ha h0, hd]
        · rw [natC_snoc, List.length_append]; exact ho'
        · have := and_pred_lt h0
          show ((a &&& (a - 1) : Nat) : Int).toNat < ((a : Nat) : Int).toNat
          omega)
    (st := set_Set_List_s1 s .nils h) ⟨s, .nils, h, [], rfl, hs, rfl, by exact Own.nil _ _ _, Kp.refl _ _⟩
  refine ⟨x, h', ?_, ho, hk⟩
  rw [set_Set_List_eq, hp, bind_ok, set_Set_List_e1_1]

/-- A word of numbers. -/
def ofL (l : List Int) : Nat := l.foldl (fun s i => s ||| bitI i) 0

theorem ofL_snoc (l : List Int) (i : Int) : ofL (l ++ [i]) = ofL l ||| bitI i := by unfold ofL; rw [List.foldl_append]; rfl

theorem ofL_lt (l : List Int) : ofL l < 2 ^ 64 := by
  have : ∀ (l : List Int) (s : Nat), s < 2 ^ 64 → l.foldl (fun s i => s ||| bitI i) s < 2 ^ 64 := by
    intro l
    induction l with
    | nil => exact fun s h => h
    | cons i l ih => exact fun s h => ih _ (or_lt h (bitI_lt i))
  exact this l 0 (by omega)

theorem ofL_bit (l : List Int) (j : Nat) : (ofL l).testBit j = true ↔ j < 64 ∧ (j : Int) ∈ l := by
  have : ∀ (l : List Int) (s : Nat), (l.foldl (fun s i => s ||| bitI i) s).testBit j = true ↔ s.testBit j = true ∨ (j < 64 ∧ (j : Int) ∈ l) := by
    intro l
    induction l with
    | nil => intro s; simp
    | cons i l ih =>
      intro s
      rw [List.foldl_cons, ih, Nat.testBit_or, Bool.or_eq_true, testBit_bitI]
      simp only [Bool.and_eq_true, decide_eq_true_eq, List.mem_cons]
      constructor
      · rintro ((h | ⟨h1, h2⟩) | ⟨h1, h2⟩)
        · exact .inl h
        · exact .inr ⟨h2, .inl h1.symm⟩
        · exact .inr ⟨h1, .inr h2⟩
      · rintro (h | ⟨h1, h2 | h2⟩)
        · exact .inl (.inl h)
        · exact .inl (.inr ⟨h2.symm, h1⟩)
        · exact .inr ⟨h1, h2⟩
  have h := this l 0
  simpa [ofL] using h

theorem OfS_R (hE : set_Of_In E) {x : Cell} {l : List Int} {h : AHeap} (hx : SlAt h x 1 (intC .i64 l) l.length) (hl : l.length < 9223372036854775807) : R E 65 [.c x] h = some ([.c (.int .u64 (ofL l))], h) := by
  refine R_intro hE.fn ?_
  rw [set_Of_eq, hx.len]
  have loop : Lim (set_Of_F1 (R E) Lim E.glob) (set_Of_s1 ((ofL (l.take 0) : Nat) : Int) x l.length ((0 : Nat) : Int) h) = some (.exit 0, set_Of_x1_1 ((ofL (l.take l.length) : Nat) : Int) h) := by
    refine Lim_count (fun i => set_Of_s1 ((ofL (l.take i) : Nat) : Int) x l.length (i : Int) h) 0 l.length (by omega) (fun i _ hi => ?_) (Lim_exit ?_)
    · obtain ⟨n, hn⟩ : ∃ n, l[i]? = some n := ⟨l[i], by simp⟩
      rw [set_Of_r1, if_pos (by simp; omega), hx.get1 hi (intC_get hn), asI_ok, With_R hE.c18 (ofL_lt _), c1_ok, asI_ok, g_succ (by omega), List.take_add_one, hn]
      rw [show (some n).toList = [n] from rfl, ofL_snoc]
    · rw [set_Of_r1, if_neg (by simp)]
  rw [List.take_length] at loop
  rw [show set_Of_s1 0 x l.length 0 h = set_Of_s1 ((ofL (l.take 0) : Nat) : Int) x l.length ((0 : Nat) : Int) h from rfl, loop, bind_ok, set_Of_e1_1]

theorem Upto_R (hE : set_Upto_In E) (a : Int) (h : AHeap) : R E 61 [.c (.int .i64 a)] h = some ([.c (.int .u64 ((2 ^ (min a.toNat 64) - 1 : Nat) : Int))], h) := by
  refine R_intro hE.fn ?_
  have hv : (if 64 < (if 0 > a then 0 else a) then 64 else (if 0 > a then 0 else a)) = ((min a.toNat 64 : Nat) : Int) := by
    split <;> split <;> omega
  rw [set_Upto_eq]
  simp only [hv]
  generalize hk : min a.toNat 64 = k
  have hk64 : k ≤ 64 := by omega
  by_cases h64 : k = 64
  · subst h64; simp
  · have hne : ((k : Int) == 64) = false := by rw [beq_eq_false_iff_ne]; omega
    have h2 : 2 ^ k < 2 ^ 64 := Nat.pow_lt_pow_right (by omega) (by omega)
    have h3 : 0 < 2 ^ k := Nat.two_pow_pos k
    rw [hne]
    simp only [Bool.false_eq_true, if_false]
    rw [g_wrap_u64n (by omega), if_neg (by omega), g_shl_one (by omega), show (((2 ^ k : Nat) : Int) - 1) = ((2 ^ k - 1 : Nat) : Int) by omega, g_wrap_u64n (by omega)]

/-- The next greater word of as many numbers. -/
def nextN (s : Nat) : Nat :=
  if s = 0 then 0 else
    let up := (s + 2 ^ Lib.ctz 64 s) % 2 ^ 64
    if up = 0 then 0 else up ||| (((s ^^^ up) >>> 2) >>> Lib.ctz 64 s)

theorem Next_R (hE : set_Set_Next_In E) (ht : TabOk E) {s : Nat} (hs : s < 2 ^ 64) (h : AHeap) : R E 60 [.c (.int .u64 s)] h = some ([.c (.int .u64 (nextN s))], h) := by
  refine R_intro hE.fn ?_
  rw [set_Set_Next_eq]
  unfold nextN
  by_cases h0 : s = 0
  · subst h0; simp
  · have hne : ((s : Int) == 0) = false := by rw [beq_eq_false_iff_ne]; omega
    rw [hne, if_neg h0]
    simp only [Bool.false_eq_true, if_false]
    obtain ⟨q1, q2⟩ := Lib.lowest_bit 64 s h0 hs
    have hneg : E.glob.wrap .u64 (0 - (s : Int)) = ((2 ^ 64 - s : Nat) : Int) := neg_wrap hs h0
    have hk2 : 2 ^ Lib.ctz 64 s < 2 ^ 64 := Nat.pow_lt_pow_right (by omega) q2
    have hkp : 0 < 2 ^ Lib.ctz 64 s := Nat.two_pow_pos _
    have hup : E.glob.wrap .u64 ((s : Int) + ((2 ^ Lib.ctz 64 s : Nat) : Int)) = (((s + 2 ^ Lib.ctz 64 s) % 2 ^ 64 : Nat) : Int) := by
      show IntKind.wrap .u64 _ = _
      simp only [IntKind.wrap, IntKind.signed, IntKind.bits, Bool.false_and, Bool.false_eq_true, if_false]; omega
    rw [hneg, g_band hs (by omega), q1, hup]
    generalize hu : (s + 2 ^ Lib.ctz 64 s) % 2 ^ 64 = up
    have hulT : up < 2 ^ 64 := by omega
    by_cases hz : up = 0
    · subst hz; simp
    · have hne2 : ((up : Int) == 0) = false := by rw [beq_eq_false_iff_ne]; omega
      rw [hne2, if_neg hz]
      simp only [Bool.false_eq_true, if_false]
      have hct : Lib.ctz 64 (2 ^ Lib.ctz 64 s) = Lib.ctz 64 s := by
        generalize Lib.ctz 64 s = k at q2
        have : ∀ k, k < 64 → Lib.ctz 64 (2 ^ k) = k := by decide +kernel
        exact this k q2
      have hfi : firstI (2 ^ Lib.ctz 64 s) = ((Lib.ctz 64 s : Nat) : Int) := by
        unfold firstI; rw [if_neg (Nat.ne_of_gt hkp), hct]
      rw [First_R hE.c38 ht hk2, c1_ok, asI_ok, hfi, g_wrap_u64n (Nat.lt_trans q2 (by decide)), if_neg (by omega), g_bxor hs hulT, show (2 : Int) = ((2 : Nat) : Int) from rfl, g_shr (by omega), g_shr (by omega)]
      have hx := xor_lt hs hulT
      have hx2 : ((s ^^^ up) >>> 2) >>> Lib.ctz 64 s < 2 ^ 64 := by
        rw [Nat.shiftRight_eq_div_pow, Nat.shiftRight_eq_div_pow]
        exact Nat.lt_of_le_of_lt (Nat.div_le_self _ _) (Nat.lt_of_le_of_lt (Nat.div_le_self _ _) hx)
      rw [g_bor hulT hx2]

end Jq

