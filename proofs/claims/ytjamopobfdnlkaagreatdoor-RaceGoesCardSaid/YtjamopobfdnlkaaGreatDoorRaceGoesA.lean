/- YtjamopobfdnlkaaGreatDoorRaceGoesA: a part of the proof; no conditions of its own. -/
import Derived.KernelRfl
import Derived.Lib.TrailingZeros
import Derived.Test.YtjamopobfdnlkaaGreatDoorRows
import Derived.Test.YtjamopobfdnlkaaGreatDoorCoreC
set_option linter.unusedVariables false
set_option linter.unusedSectionVars false
set_option linter.unusedSimpArgs false
set_option maxRecDepth 100000
open List renaming replicate→Ya,range→Yh,filter_eq_nil_iff→Yp,singleton_append→Yr,range_eq_range'→Yu,getElem?_range→Yw,filter_append→Yy,getElem?_map→Yaa,filter_cons→Yad,nil_append→Yae,append_nil→Yaf
open Int renaming toNat→Yb,toNat_natCast→Ym
open Bool renaming eq_iff_iff→Yc,false_eq_true→Yd,and_eq_true→Yf,false_and→Yi,true_and→Yl,or_eq_true→Yo,and_true→Yv
open Nat renaming mul_one→Ye,testBit_two_pow→Yg,testBit_or→Yj,testBit_two_pow_mul_add→Yk,testBit_and→Yn,testBit_lt_two_pow→Yq,pow_lt_pow_right→Ys,eq_of_testBit_eq→Yt,add_comm→Yx,lt_of_lt_of_le→Yz,le_refl→Yab,zero_testBit→Yac
namespace Jq
open Go
def q42:Fn:={ np:=1,nt:=14,ns:=0,res:=[.t 2 (.i .i64)],gc:=false,code:=(.seq (.reg 0 false (xmk 2 0 .nil)) (.seq (.seq (.reg 1 false (Zb 3 0 (.op (some 4) (.bin .eql) [(.t 3),(.k (.c (.int .u64 0)))] .nil))) (.cond (.t 4) (.seq (.reg 2 false (xmk 2 64 .nil)) .ret) .skip)) (.seq (.reg 3 false (Zb 5 0 (Zb 6 0 (Zc 7 (.un .neg) 6 (Zg 8 (.bin .and) 5 7 (.op (some 9) (.bin .mul) [(.t 8),(.k (.c (.int .u64 285870213051353865)))] (.op (some 10) (.bin .shr) [(.t 9),(.k (.c (.int .u64 58)))] (.op (some 11) (.idxA 64 1) [(.k (.c (.gptr 1 0))),(.t 10)] (Zc 12 (.ld .heap (.i .u8)) 11 (Zc 13 (.conv .i64) 12 (Zb 2 13 .nil))))))))))) .ret))) }
def q369:Fn:={ np:=2,nt:=30,ns:=0,res:=[.t 4 (.i .u64),.t 5 (.i .u64)],gc:=false,code:=(.seq (.reg 0 false (.op (some 4) .mov [(.k (.c (.int .u64 0)))] (.op (some 5) .mov [(.k (.c (.int .u64 0)))] .nil))) (.seq (.cond (.k (.c (.bool false))) (.seq (.reg 1 false (Zb 11 0 (Zc 12 (.conv .u32) 11 (Zb 13 1 (Zc 14 (.conv .u32) 13 (Zg 15 (.call 391 [(.i .u32),(.i .u32)]) 12 14 (Zb 10 15 (Zc 16 (.ext 0) 10 (Zc 17 (.ext 1) 10 (Zb 6 16 (Zb 7 17 .nil))))))))))) (.seq (.reg 2 false (Zb 18 6 (Zc 19 (.conv .u64) 18 (Zb 20 7 (Zc 21 (.conv .u64) 20 (Zb 4 19 (Zb 5 21 .nil))))))) .ret)) .skip) (.seq (.reg 3 false (Zb 23 0 (Zb 24 1 (Zg 25 (.call 392 [(.i .u64),(.i .u64)]) 23 24 (Zb 22 25 (Zc 26 (.ext 0) 22 (Zc 27 (.ext 1) 22 (Zb 8 26 (Zb 9 27 .nil))))))))) (.seq (.reg 4 false (Zb 28 8 (Zb 29 9 (Zb 4 28 (Zb 5 29 .nil))))) .ret)))) }
def q391:Fn:={ np:=2,nt:=17,ns:=0,res:=[.t 4 (.i .u32),.t 5 (.i .u32)],gc:=false,code:=(.seq (.reg 0 false (.op (some 4) .mov [(.k (.c (.int .u32 0)))] (.op (some 5) .mov [(.k (.c (.int .u32 0)))] .nil))) (.seq (.reg 1 false (Zb 7 0 (Zc 8 (.conv .u64) 7 (Zb 9 1 (Zc 10 (.conv .u64) 9 (Zg 11 (.bin .mul) 8 10 (Zb 6 11 .nil))))))) (.seq (.reg 2 false (Zb 12 6 (.op (some 13) (.bin .shr) [(.t 12),(.k (.c (.int .u64 32)))] (Zc 14 (.conv .u32) 13 (Zb 15 6 (Zc 16 (.conv .u32) 15 (Zb 4 14 (Zb 5 16 .nil)))))))) .ret))) }
def q392:Fn:={ np:=2,nt:=51,ns:=0,res:=[.t 4 (.i .u64),.t 5 (.i .u64)],gc:=false,code:=(.seq (.reg 0 false (.op (some 4) .mov [(.k (.c (.int .u64 0)))] (.op (some 5) .mov [(.k (.c (.int .u64 0)))] .nil))) (.seq (.reg 1 false (Zb 14 0 (.op (some 15) (.bin .and) [(.t 14),(.k (.c (.int .u64 4294967295)))] (Zb 6 15 .nil)))) (.seq (.reg 2 false (Zb 16 0 (.op (some 17) (.bin .shr) [(.t 16),(.k (.c (.int .u64 32)))] (Zb 7 17 .nil)))) (.seq (.reg 3 false (Zb 18 1 (.op (some 19) (.bin .and) [(.t 18),(.k (.c (.int .u64 4294967295)))] (Zb 8 19 .nil)))) (.seq (.reg 4 false (Zb 20 1 (.op (some 21) (.bin .shr) [(.t 20),(.k (.c (.int .u64 32)))] (Zb 9 21 .nil)))) (.seq (.reg 5 false (Zb 22 6 (Zb 23 8 (Zg 24 (.bin .mul) 22 23 (Zb 10 24 .nil))))) (.seq (.reg 6 false (Zb 25 7 (Zb 26 8 (Zg 27 (.bin .mul) 25 26 (Zb 28 10 (.op (some 29) (.bin .shr) [(.t 28),(.k (.c (.int .u64 32)))] (Zg 30 (.bin .add) 27 29 (Zb 11 30 .nil)))))))) (.seq (.reg 7 false (Zb 31 11 (.op (some 32) (.bin .and) [(.t 31),(.k (.c (.int .u64 4294967295)))] (Zb 12 32 .nil)))) (.seq (.reg 8 false (Zb 33 11 (.op (some 34) (.bin .shr) [(.t 33),(.k (.c (.int .u64 32)))] (Zb 13 34 .nil)))) (.seq (.reg 9 false (Zb 35 12 (Zb 36 6 (Zb 37 9 (Zg 38 (.bin .mul) 36 37 (Zg 39 (.bin .add) 35 38 (Zb 12 39 .nil))))))) (.seq (.reg 10 false (Zb 40 7 (Zb 41 9 (Zg 42 (.bin .mul) 40 41 (Zb 43 13 (Zg 44 (.bin .add) 42 43 (Zb 45 12 (.op (some 46) (.bin .shr) [(.t 45),(.k (.c (.int .u64 32)))] (Zg 47 (.bin .add) 44 46 (Zb 4 47 .nil)))))))))) (.seq (.reg 11 false (Zb 48 0 (Zb 49 1 (Zg 50 (.bin .mul) 48 49 (Zb 5 50 .nil))))) .ret)))))))))))) }
structure q42_In (E:Env):Prop where
 fn:E.fn 42=some q42
structure q391_In (E:Env):Prop where
 fn:E.fn 391=some q391
structure q392_In (E:Env):Prop where
 fn:E.fn 392=some q392
structure q369_In (E:Env):Prop where
 fn:E.fn 369=some q369
 c391:q391_In E
 c392:q392_In E
def q190:Fn:={ np:=1,nt:=11,ns:=1,res:=[.all (.slot 0) 2 74],gc:=false,code:=(.seq (.reg 0 false (.al 2 0 (Ya 74 ci0) .nil)) (.seq (.seq (.reg 1 false (Zb 3 0 (Zn 4 (.bin .neq) 3 2 (Zb 5 4 (.sc 5 true (Zb 6 0 (Zn 7 (.bin .neq) 6 3 .nil)) 7 8 false .nil))))) (.cond (.t 8) (.reg 2 false (xmk 0 0 .nil)) .skip)) (.seq (.reg 3 false (Zb 9 0 (Zc 10 (.build (Ya 74 ci0) [(0,1)]) 9 (.op none (.stAll (.slot 0) 74) [(.t 2),(.t 10)] .nil)))) .ret))) }
def q191:Fn:={ np:=1,nt:=6,ns:=1,res:=[.t 2 .b],gc:=false,code:=(.seq (.reg 0 false (.box 1 0 (.t 0) (.op (some 2) .mov [(.k (.c (.bool false)))] .nil))) (.seq (.reg 1 false (Zh 3 1 1 (Zc 4 (.ld (.slot 0) (.i .i64)) 3 (Zn 5 (.bin .eql) 4 0 (Zb 2 5 .nil))))) .ret)) }
def q192:Fn:={ np:=2,nt:=29,ns:=1,res:=[.t 4 (.i .i64),.t 5 (.i .i64),.t 6 (.i .i64),.t 7 .b],gc:=false,code:=(.seq (.reg 0 false (.box 2 0 (.t 0) (xmk 4 0 (xmk 5 0 (xmk 6 0 (.op (some 7) .mov [(.k (.c (.bool false)))] .nil)))))) (.seq (.reg 1 false (Zc 9 (.ldAll (.slot 0) 74) 2 (Zb 10 1 (Zg 11 (.call 204 [(.i .i64)]) 9 10 (Zb 8 11 .nil))))) (.seq (.seq (.reg 2 false (Zb 12 8 (Zn 13 (.bin .lss) 12 0 .nil))) (.cond (.t 13) (.seq (.reg 3 false (xmk 4 0 (xmk 5 0 (xmk 6 0 (.op (some 7) .mov [(.k (.c (.bool false)))] .nil))))) .ret) .skip)) (.seq (.reg 4 true (Zb 14 8 (Zh 15 2 2 (Zg 16 (.idxA 24 3) 15 14 (Zh 17 0 16 (Zc 18 (.ld (.slot 0) (.i .i64)) 17 (Zb 19 8 (Zh 20 2 2 (Zg 21 (.idxA 24 3) 20 19 (Zh 22 1 21 (Zc 23 (.ld (.slot 0) (.i .i64)) 22 (Zb 24 8 (Zh 25 2 2 (Zg 26 (.idxA 24 3) 25 24 (Zh 27 2 26 (Zc 28 (.ld (.slot 0) (.i .i64)) 27 (Zb 4 18 (Zb 5 23 (Zb 6 28 (.op (some 7) .mov [(.k (.c (.bool true)))] .nil)))))))))))))))))))) .ret)))) }
def q204_b1:IC:=(.seq (.reg 2 false (Zg 9 (.bin .lss) 8 7 .nil)) (.seq (.cond (.t 9) .skip (.exit 0)) (.seq (.blk 1 (.seq (.reg 3 false (Zb 10 8 (Zb 5 10 .nil))) (.seq (.reg 4 false (Zh 11 0 2 (Zc 12 (.ld (.slot 0) (.i .i64)) 11 (Zn 13 (.bin .eql) 12 2 (Zb 14 13 (.sc 14 false (Zb 15 5 (Zh 16 2 2 (Zg 17 (.idxA 24 3) 16 15 (Zh 18 0 17 (Zc 19 (.ld (.slot 0) (.i .i64)) 18 (Zb 20 1 (Zg 21 (.bin .eql) 19 20 .nil))))))) 21 22 true .nil)))))) (.cond (.t 22) (.seq (.reg 5 false (Zb 23 5 (Zb 4 23 .nil))) .ret) .skip)))) (.reg 6 false (Zn 24 (.bin .add) 8 1 (Zb 8 24 .nil))))))
def q204_p1:IC:=(.seq (.reg 7 false (xmk 4 (-1) .nil)) .ret)
def q204:Fn:={ np:=2,nt:=25,ns:=1,res:=[.t 4 (.i .i64)],gc:=false,code:=(.seq (.reg 0 false (.box 2 0 (.t 0) (xmk 4 0 .nil))) (.seq (.seq (.reg 1 false (Zh 6 1 2 (Zc 7 (.ld (.slot 0) (.i .i64)) 6 (xmk 8 0 .nil)))) (.blk 0 (.loop [1,2,7,8] [0] [(0,[4],[]),(1,[],[])] q204_b1))) q204_p1)) }
def q205_b1:IC:=(.seq (.seq (.reg 2 false (Zb 11 7 (Zn 12 (.bin .geq) 11 0 .nil))) (.cond (.t 12) .skip (.exit 0))) (.seq (.blk 1 (.seq (.reg 4 false (Zb 15 7 (Zh 16 2 2 (Zg 17 (.idxA 24 3) 16 15 (Zh 18 0 17 (Zc 19 (.ld (.slot 0) (.i .i64)) 18 (Zb 20 1 (Zg 21 (.bin .eql) 19 20 .nil)))))))) (.cond (.t 21) (.seq (.reg 5 true (Zb 22 7 (Zh 23 2 2 (Zg 24 (.idxA 24 3) 23 22 (Zh 25 1 24 (Zc 26 (.ld (.slot 0) (.i .i64)) 25 (Zb 27 7 (Zh 28 2 2 (Zg 29 (.idxA 24 3) 28 27 (Zh 30 2 29 (Zc 31 (.ld (.slot 0) (.i .i64)) 30 (Zb 4 26 (Zb 5 31 (.op (some 6) .mov [(.k (.c (.bool true)))] .nil)))))))))))))) .ret) .skip))) (.reg 3 false (Zb 13 7 (Zn 14 (.bin .sub) 13 1 (Zb 7 14 .nil))))))
def q205_p1:IC:=(.seq (.reg 6 false (xmk 4 0 (xmk 5 0 (.op (some 6) .mov [(.k (.c (.bool false)))] .nil)))) .ret)
def q205:Fn:={ np:=2,nt:=32,ns:=1,res:=[.t 4 (.i .i64),.t 5 (.i .i64),.t 6 .b],gc:=false,code:=(.seq (.reg 0 false (.box 2 0 (.t 0) (xmk 4 0 (xmk 5 0 (.op (some 6) .mov [(.k (.c (.bool false)))] .nil))))) (.seq (.seq (.reg 1 false (Zh 8 1 2 (Zc 9 (.ld (.slot 0) (.i .i64)) 8 (Zn 10 (.bin .sub) 9 1 (Zb 7 10 .nil))))) (.blk 0 (.loop [1,2,7] [0] [(0,[4,5,6],[]),(1,[],[])] q205_b1))) q205_p1)) }
def q206:Fn:={ np:=4,nt:=39,ns:=2,res:=[.all (.slot 1) 8 74],gc:=false,code:=(.seq (.reg 0 false (.box 4 0 (.t 0) (.al 8 1 (Ya 74 ci0) .nil))) (.seq (.seq (.reg 1 false (Zh 9 0 4 (Zc 10 (.ld (.slot 0) (.i .i64)) 9 (Zn 11 (.bin .eql) 10 0 (Zb 12 11 (.sc 12 false (Zb 13 1 (Zn 14 (.bin .lss) 13 0 .nil)) 14 15 true (Zb 16 15 (.sc 16 false (Zb 17 1 (Zn 18 (.bin .geq) 17 4 .nil)) 18 19 true (Zb 20 19 (.sc 20 false (Zh 21 1 4 (Zc 22 (.ld (.slot 0) (.i .i64)) 21 (Zn 23 (.bin .geq) 22 24 .nil))) 23 24 true .nil)))))))))) (.cond (.t 24) (.seq (.reg 2 false (Zc 25 (.ldAll (.slot 0) 74) 4 (.op none (.stAll (.slot 1) 74) [(.t 8),(.t 25)] .nil))) .ret) .skip)) (.seq (.reg 3 false (Zh 26 1 4 (Zc 27 (.ld (.slot 0) (.i .i64)) 26 (Zb 28 1 (Zb 29 2 (Zb 30 3 (.op (some 31) (.build ([ci0,ci0,ci0]) [(0,1),(1,1),(2,1)]) [(.t 28),(.t 29),(.t 30)] (Zh 32 2 4 (Zg 33 (.idxA 24 3) 32 27 (.op none (.stN (.slot 0) 3) [(.t 33),(.t 31)] .nil)))))))))) (.seq (.reg 4 false (Zh 34 1 4 (Zc 35 (.ld (.slot 0) (.i .i64)) 34 (Zn 36 (.bin .add) 35 1 (Zh 37 1 4 (.op none (.st (.slot 0)) [(.t 37),(.t 36)] .nil)))))) (.seq (.reg 5 false (Zc 38 (.ldAll (.slot 0) 74) 4 (.op none (.stAll (.slot 1) 74) [(.t 8),(.t 38)] .nil))) .ret))))) }
def q207:Fn:={ np:=2,nt:=30,ns:=1,res:=[.all (.slot 0) 4 74],gc:=true,code:=(.seq (.reg 0 false (Zc 2 .boxH 0 (.al 4 0 (Ya 74 ci0) .nil))) (.seq (.reg 1 false (Zc 6 (.ldAll .heap 74) 2 (Zb 7 1 (Zg 8 (.call 204 [(.i .i64)]) 6 7 (Zb 5 8 .nil))))) (.seq (.seq (.reg 2 false (Zb 9 5 (Zn 10 (.bin .lss) 9 0 .nil))) (.cond (.t 10) (.seq (.reg 3 false (Zc 11 (.ldAll .heap 74) 2 (.op none (.stAll (.slot 0) 74) [(.t 4),(.t 11)] .nil))) .ret) .skip)) (.seq (.reg 4 true (Zh 12 2 2 (Zb 13 5 (Zg 14 (.slcA 24 3 true false) 12 13 (Zh 15 2 2 (Zb 16 5 (Zn 17 (.bin .add) 16 1 (Zg 18 (.slcA 24 3 true false) 15 17 (Zg 19 (.copy 3) 14 18 .nil))))))))) (.seq (.reg 5 false (Zh 20 1 2 (Zc 21 (.ld .heap (.i .i64)) 20 (Zn 22 (.bin .sub) 21 1 (Zh 23 1 2 (.op none (.st .heap) [(.t 23),(.t 22)] .nil)))))) (.seq (.reg 6 false (Zh 24 1 2 (Zc 25 (.ld .heap (.i .i64)) 24 (.op (some 26) (.build ([ci0,ci0,ci0]) []) [] (Zh 27 2 2 (Zg 28 (.idxA 24 3) 27 25 (.op none (.stN .heap 3) [(.t 28),(.t 26)] .nil))))))) (.seq (.reg 7 false (Zc 29 (.ldAll .heap 74) 2 (.op none (.stAll (.slot 0) 74) [(.t 4),(.t 29)] .nil))) .ret))))))) }
structure q190_In (E:Env):Prop where
 fn:E.fn 190=some q190
structure q191_In (E:Env):Prop where
 fn:E.fn 191=some q191
structure q204_In (E:Env):Prop where
 fn:E.fn 204=some q204
structure q192_In (E:Env):Prop where
 fn:E.fn 192=some q192
 c204:q204_In E
structure q205_In (E:Env):Prop where
 fn:E.fn 205=some q205
structure q206_In (E:Env):Prop where
 fn:E.fn 206=some q206
structure q207_In (E:Env):Prop where
 fn:E.fn 207=some q207
 c204:q204_In E
def q345_b1:IC:=(.seq (.reg 3 false (Zg 9 (.bin .lss) 8 7 .nil)) (.seq (.cond (.t 9) .skip (.exit 0)) (.seq (.blk 1 (.seq (.reg 4 false (Zg 10 (.idxS 1) 6 8 (Zc 11 (.ld .heap (.i .i64)) 10 (Zb 5 11 .nil)))) (.seq (.reg 5 false (Zb 12 5 (Zb 13 3 (Zg 14 (.bin .neq) 12 13 .nil)))) (.cond (.t 14) (.seq (.reg 6 false (Zb 15 5 (Zb 2 15 .nil))) .ret) .skip)))) (.reg 7 false (Zn 16 (.bin .add) 8 1 (Zb 8 16 .nil))))))
def q345_p1:IC:=(.seq (.reg 8 false (Zb 17 3 (Zb 2 17 .nil))) .ret)
def q345:Fn:={ np:=1,nt:=18,ns:=0,res:=[.t 2 (.i .i64)],gc:=false,code:=(.seq (.reg 0 false (xmk 2 0 .nil)) (.seq (.reg 1 false (xmk 3 0 .nil)) (.seq (.seq (.reg 2 false (Zb 6 0 (Zc 7 .len 6 (xmk 8 0 .nil)))) (.blk 0 (.loop [3,6,7,8] [] [(0,[2],[]),(1,[3],[])] q345_b1))) q345_p1))) }
def q370:Fn:={ np:=2,nt:=20,ns:=0,res:=[.t 4 (.i .i64)],gc:=false,code:=(.seq (.reg 0 false (xmk 4 0 .nil)) (.seq (.reg 1 false (Zb 7 0 (Zc 8 (.call 393 [.b]) 7 (Zb 5 8 .nil)))) (.seq (.reg 2 false (Zb 9 1 (Zc 10 (.call 393 [.b]) 9 (Zb 6 10 .nil)))) (.seq (.seq (.reg 3 false (Zb 11 5 .nil)) (.cond (.t 11) (.seq (.seq (.reg 4 false (Zb 12 6 .nil)) (.cond (.t 12) (.seq (.reg 5 false (xmk 4 0 .nil)) .ret) .skip)) (.seq (.reg 6 false (xmk 4 (-1) .nil)) .ret)) .skip)) (.seq (.seq (.reg 7 false (Zb 13 6 .nil)) (.cond (.t 13) (.seq (.reg 8 false (xmk 4 1 .nil)) .ret) .skip)) (.seq (.seq (.reg 9 false (Zb 14 0 (Zb 15 1 (Zg 16 (.bin .lss) 14 15 .nil)))) (.cond (.t 16) (.seq (.reg 10 false (xmk 4 (-1) .nil)) .ret) .skip)) (.seq (.seq (.reg 11 false (Zb 17 0 (Zb 18 1 (Zg 19 (.bin .gtr) 17 18 .nil)))) (.cond (.t 19) (.seq (.reg 12 false (xmk 4 1 .nil)) .ret) .skip)) (.seq (.reg 13 false (xmk 4 0 .nil)) .ret)))))))) }
def q371:Fn:={ np:=2,nt:=20,ns:=0,res:=[.t 4 (.i .i64)],gc:=false,code:=(.seq (.reg 0 false (xmk 4 0 .nil)) (.seq (.reg 1 false (Zb 7 0 (Zc 8 (.call 394 [.b]) 7 (Zb 5 8 .nil)))) (.seq (.reg 2 false (Zb 9 1 (Zc 10 (.call 394 [.b]) 9 (Zb 6 10 .nil)))) (.seq (.seq (.reg 3 false (Zb 11 5 .nil)) (.cond (.t 11) (.seq (.seq (.reg 4 false (Zb 12 6 .nil)) (.cond (.t 12) (.seq (.reg 5 false (xmk 4 0 .nil)) .ret) .skip)) (.seq (.reg 6 false (xmk 4 (-1) .nil)) .ret)) .skip)) (.seq (.seq (.reg 7 false (Zb 13 6 .nil)) (.cond (.t 13) (.seq (.reg 8 false (xmk 4 1 .nil)) .ret) .skip)) (.seq (.seq (.reg 9 false (Zb 14 0 (Zb 15 1 (Zg 16 (.bin .lss) 14 15 .nil)))) (.cond (.t 16) (.seq (.reg 10 false (xmk 4 (-1) .nil)) .ret) .skip)) (.seq (.seq (.reg 11 false (Zb 17 0 (Zb 18 1 (Zg 19 (.bin .gtr) 17 18 .nil)))) (.cond (.t 19) (.seq (.reg 12 false (xmk 4 1 .nil)) .ret) .skip)) (.seq (.reg 13 false (xmk 4 0 .nil)) .ret)))))))) }
def q393:Fn:={ np:=1,nt:=6,ns:=0,res:=[.t 2 .b],gc:=false,code:=(.seq (.reg 0 false (.op (some 2) .mov [(.k (.c (.bool false)))] .nil)) (.seq (.reg 1 false (Zb 3 0 (Zb 4 0 (Zg 5 (.bin .neq) 3 4 (Zb 2 5 .nil))))) .ret)) }
def q394:Fn:={ np:=1,nt:=6,ns:=0,res:=[.t 2 .b],gc:=false,code:=(.seq (.reg 0 false (.op (some 2) .mov [(.k (.c (.bool false)))] .nil)) (.seq (.reg 1 false (Zb 3 0 (Zb 4 0 (Zg 5 (.bin .neq) 3 4 (Zb 2 5 .nil))))) .ret)) }
structure q345_In (E:Env):Prop where
 fn:E.fn 345=some q345
structure q393_In (E:Env):Prop where
 fn:E.fn 393=some q393
structure q370_In (E:Env):Prop where
 fn:E.fn 370=some q370
 c393:q393_In E
structure q394_In (E:Env):Prop where
 fn:E.fn 394=some q394
structure q371_In (E:Env):Prop where
 fn:E.fn 371=some q371
 c394:q394_In E
def q80:Fn:={ np:=1,nt:=11,ns:=1,res:=[.t 2 .b],gc:=false,code:=(.seq (.reg 0 false (.box 1 0 (.t 0) (.op (some 2) .mov [(.k (.c (.bool false)))] .nil))) (.seq (.reg 1 false (Zh 3 2 1 (Zc 4 (.ld (.slot 0) (.i .i64)) 3 (Zn 5 (.bin .eql) 4 2 (Zb 6 5 (.sc 6 false (Zh 7 2 1 (Zc 8 (.ld (.slot 0) (.i .i64)) 7 (Zn 9 (.bin .eql) 8 4 .nil))) 9 10 true (Zb 2 10 .nil))))))) .ret)) }
def q88_b1:IC:=(.seq (.reg 3 false (Zg 10 (.bin .lss) 9 8 .nil)) (.seq (.cond (.t 10) .skip (.exit 0)) (.seq (.blk 1 (.seq (.reg 4 false (Zb 11 9 (Zg 12 (.idxS 1) 7 9 (Zc 13 (.ld .heap (.i .i64)) 12 (Zb 4 11 (Zb 5 13 .nil)))))) (.reg 5 false (Zb 14 3 (Zb 15 4 (Zb 16 4 (Zb 17 5 (.op (some 18) (.build ([ci0,ci0,ci0,ci0,ci0,ci0]) [(0,1),(1,1),(2,1),(3,1),(5,1)]) [(.k (.c (.int .i64 (-1)))),(.t 15),(.k (.c (.int .i64 2))),(.t 16),(.t 17)] (Zc 19 (.lit 6 1 ([ci0,ci0,ci0,ci0,ci0,ci0]) [(0,6)]) 18 (Zg 20 (.app 6 48) 14 19 (Zb 3 20 .nil))))))))))) (.reg 6 false (Zn 21 (.bin .add) 9 1 (Zb 9 21 .nil))))))
def q88_p1:IC:=(.seq (.reg 7 false (Zb 22 3 (Zb 2 22 .nil))) .ret)
def q88:Fn:={ np:=1,nt:=23,ns:=1,res:=[.t 2 .any],gc:=false,code:=(.seq (.reg 0 false (.box 1 0 (.t 0) (.op (some 2) .mov [(.k (.c .nils))] .nil))) (.seq (.reg 1 false (.op (some 3) .mov [(.k (.c .nils))] .nil)) (.seq (.seq (.reg 2 false (Zh 6 1 1 (Zc 7 (.ld (.slot 0) .any) 6 (Zc 8 .len 7 (xmk 9 0 .nil))))) (.blk 0 (.loop [3,7,8,9] [] [(1,[3],[])] q88_b1))) q88_p1))) }
def q109:Fn:={ np:=3,nt:=46,ns:=3,res:=[.all (.slot 2) 6 6,.t 7 .b],gc:=false,code:=(.seq (.reg 0 false (.box 3 0 (.t 0) (.box 4 1 (.t 1) (.al 6 2 ([ci0,ci0,ci0,ci0,ci0,ci0]) (.op (some 7) .mov [(.k (.c (.bool false)))] .nil))))) (.seq (.seq (.reg 1 false (Zh 8 0 3 (Zc 9 (.ld (.slot 0) (.i .i64)) 8 .nil))) (.blk 0 (.seq (.reg 2 false (Zn 11 (.bin .eql) 9 1 (Zb 10 11 .nil))) (.cond (.t 10) (.seq (.reg 3 true (Zh 12 2 3 (Zc 13 (.ld (.slot 0) (.i .i64)) 12 (Zh 14 3 3 (Zc 15 (.ldN (.slot 0) 2) 14 (Zc 16 (.ldAll (.slot 1) 5) 4 (Zg 17 (.qcall 108 [(.i .i64)]) 15 16 (.op (some 18) (.build ([ci0,ci0,ci0,ci0,ci0,ci0]) [(2,1),(3,1),(5,1)]) [(.k (.c (.int .i64 2))),(.t 13),(.t 17)] (.op none (.stAll (.slot 2) 6) [(.t 6),(.t 18)] (.op (some 7) .mov [(.k (.c (.bool false)))] .nil)))))))))) .ret) (.seq (.reg 4 false (Zn 20 (.bin .eql) 9 2 (Zb 19 20 .nil))) (.cond (.t 19) (.seq (.reg 5 false (Zh 21 2 3 (Zc 22 (.ld (.slot 0) (.i .i64)) 21 (Zb 23 2 (.op (some 24) (.build ([ci0,ci0,ci0,ci0,ci0,ci0]) [(2,1),(3,1),(4,1)]) [(.k (.c (.int .i64 1))),(.t 22),(.t 23)] (.op none (.stAll (.slot 2) 6) [(.t 6),(.t 24)] (.op (some 7) .mov [(.k (.c (.bool true)))] .nil))))))) .ret) (.seq (.reg 6 false (Zn 26 (.bin .eql) 9 4 (Zb 25 26 .nil))) (.cond (.t 25) (.seq (.seq (.reg 7 false (Zh 27 3 3 (Zc 28 (.ldN (.slot 0) 2) 27 (Zc 29 (.ldAll (.slot 1) 5) 4 (Zg 30 (.call 108 [(.i .i64)]) 28 29 (Zb 31 2 (Zg 32 (.bin .eql) 30 31 .nil))))))) (.cond (.t 32) (.seq (.reg 8 true (Zh 33 2 3 (Zc 34 (.ld (.slot 0) (.i .i64)) 33 (Zb 35 2 (Zh 36 6 3 (Zc 37 (.ldN (.slot 0) 2) 36 (Zc 38 (.ldAll (.slot 1) 5) 4 (Zg 39 (.qcall 108 [(.i .i64)]) 37 38 (.op (some 40) (.build ([ci0,ci0,ci0,ci0,ci0,ci0]) [(2,1),(3,1),(4,1),(5,1)]) [(.k (.c (.int .i64 4))),(.t 34),(.t 35),(.t 39)] (.op none (.stAll (.slot 2) 6) [(.t 6),(.t 40)] (.op (some 7) .mov [(.k (.c (.bool true)))] .nil))))))))))) .ret) .skip)) (.seq (.reg 9 false (Zh 41 2 3 (Zc 42 (.ld (.slot 0) (.i .i64)) 41 (Zb 43 2 (.op (some 44) (.build ([ci0,ci0,ci0,ci0,ci0,ci0]) [(2,1),(3,1),(4,1)]) [(.k (.c (.int .i64 5))),(.t 42),(.t 43)] (.op none (.stAll (.slot 2) 6) [(.t 6),(.t 44)] (.op (some 7) .mov [(.k (.c (.bool true)))] .nil))))))) .ret)) .skip)))))))) (.seq (.reg 10 false (.op (some 45) (.build ([ci0,ci0,ci0,ci0,ci0,ci0]) [(2,1)]) [(.k (.c (.int .i64 3)))] (.op none (.stAll (.slot 2) 6) [(.t 6),(.t 45)] (.op (some 7) .mov [(.k (.c (.bool false)))] .nil)))) .ret))) }
def q94:Fn:={ np:=2,nt:=10,ns:=2,res:=[.all (.slot 1) 4 5],gc:=false,code:=(.seq (.reg 0 false (.box 2 0 (.t 0) (.al 4 1 ([ci0,ci0,ci0,ci0,ci0]) .nil))) (.seq (.reg 1 false (Zc 5 (.ldAll (.slot 0) 3) 2 (Zb 6 1 (Zg 7 (.call 113 [.any]) 5 6 (.op (some 8) (.build ([ci0,ci0,ci0,ci0,ci0]) []) [] (Zg 9 (.call 114 [.agg]) 7 8 (.op none (.stAll (.slot 1) 5) [(.t 4),(.t 9)] .nil))))))) .ret)) }
def q102_b1:IC:=(.seq (.reg 3 false (Zg 10 (.bin .lss) 9 8 .nil)) (.seq (.cond (.t 10) .skip (.exit 0)) (.seq (.blk 1 (.seq (.reg 4 false (Zg 11 (.idxS 1) 7 9 (Zc 12 (.ld .heap .any) 11 (Zb 5 12 .nil)))) (.reg 5 false (Zb 13 3 (Zb 14 5 (Zc 15 .len 14 (Zg 16 (.bin .add) 13 15 (Zb 3 16 .nil)))))))) (.reg 6 false (Zn 17 (.bin .add) 9 1 (Zb 9 17 .nil))))))
def q102_p1:IC:=(.seq (.reg 7 false (Zb 18 3 (Zb 2 18 .nil))) .ret)
def q102:Fn:={ np:=1,nt:=19,ns:=1,res:=[.t 2 (.i .i64)],gc:=false,code:=(.seq (.reg 0 false (.box 1 0 (.t 0) (xmk 2 0 .nil))) (.seq (.reg 1 false (xmk 3 0 .nil)) (.seq (.seq (.reg 2 false (Zh 6 2 1 (Zc 7 (.ld (.slot 0) .any) 6 (Zc 8 .len 7 (xmk 9 0 .nil))))) (.blk 0 (.loop [3,7,8,9] [] [(1,[3],[])] q102_b1))) q102_p1))) }
def q105:Fn:={ np:=3,nt:=39,ns:=4,res:=[.all (.slot 2) 6 9,.t 7 .b],gc:=false,code:=(.seq (.reg 0 false (.box 3 0 (.t 0) (.box 5 1 (.t 2) (.al 6 2 (Ya 9 ci0) (.op (some 7) .mov [(.k (.c (.bool false)))] .nil))))) (.seq (.reg 1 false (Zc 10 (.ldAll (.slot 0) 3) 3 (Zb 11 1 (Zg 12 (.call 113 [.any]) 10 11 (Zb 8 12 .nil))))) (.seq (.seq (.reg 2 false (Zh 13 0 5 (Zc 14 (.ld (.slot 1) (.i .i64)) 13 (Zn 15 (.bin .lss) 14 0 (Zb 16 15 (.sc 16 false (Zh 17 0 5 (Zc 18 (.ld (.slot 1) (.i .i64)) 17 (Zb 19 8 (Zc 20 .len 19 (Zg 21 (.bin .geq) 18 20 .nil))))) 21 22 true .nil)))))) (.cond (.t 22) (.seq (.reg 3 false (.op (some 23) (.build (Ya 9 ci0) []) [] (.op none (.stAll (.slot 2) 9) [(.t 6),(.t 23)] (.op (some 7) .mov [(.k (.c (.bool false)))] .nil)))) .ret) .skip)) (.seq (.reg 4 false (Zb 24 8 (Zh 25 0 5 (Zc 26 (.ld (.slot 1) (.i .i64)) 25 (Zg 27 (.idxS 9) 24 26 (Zc 28 (.ldN .heap 9) 27 (.al 9 3 (Ya 9 ci0) (.op none (.stAll (.slot 3) 9) [(.t 9),(.t 28)] .nil)))))))) (.seq (.seq (.reg 5 false (Zh 29 0 9 (Zc 30 (.ld (.slot 3) (.i .i64)) 29 (Zn 31 (.bin .lss) 30 1 (Zb 32 31 (.sc 32 false (Zh 33 0 9 (Zc 34 (.ld (.slot 3) (.i .i64)) 33 (Zn 35 (.bin .gtr) 34 4 .nil))) 35 36 true .nil)))))) (.cond (.t 36) (.seq (.reg 6 false (.op (some 37) (.build (Ya 9 ci0) []) [] (.op none (.stAll (.slot 2) 9) [(.t 6),(.t 37)] (.op (some 7) .mov [(.k (.c (.bool false)))] .nil)))) .ret) .skip)) (.seq (.reg 7 false (Zc 38 (.ldAll (.slot 3) 9) 9 (.op none (.stAll (.slot 2) 9) [(.t 6),(.t 38)] (.op (some 7) .mov [(.k (.c (.bool true)))] .nil)))) .ret)))))) }
def q106:Fn:={ np:=4,nt:=42,ns:=3,res:=[.all (.slot 1) 8 5],gc:=true,code:=(.seq (.reg 0 false (.box 4 0 (.t 0) (Zc 6 .boxH 2 (.al 8 1 ([ci0,ci0,ci0,ci0,ci0]) .nil)))) (.seq (.reg 1 false (Zc 12 (.ldAll (.slot 0) 3) 4 (Zb 13 1 (Zc 14 (.ldAll .heap 5) 6 (.op (some 15) (.call 105 [.agg,.b]) [(.t 12),(.t 13),(.t 14)] (Zb 11 15 (Zc 16 (.ext 0) 11 (Zc 17 (.ext 1) 11 (.al 9 2 (Ya 9 ci0) (.op none (.stAll (.slot 2) 9) [(.t 9),(.t 16)] (Zb 10 17 .nil))))))))))) (.seq (.seq (.reg 2 false (Zb 18 10 (Zc 19 (.un .not) 18 .nil))) (.cond (.t 19) (.seq (.reg 3 false (Zc 20 (.ldAll .heap 5) 6 (.op none (.stAll (.slot 1) 5) [(.t 8),(.t 20)] .nil))) .ret) .skip)) (.seq (.seq (.reg 4 false (Zh 21 0 9 (Zc 22 (.ld (.slot 2) (.i .i64)) 21 (Zn 23 (.bin .eql) 22 2 (Zb 24 23 (.sc 24 false (Zh 25 0 9 (Zc 26 (.ld (.slot 2) (.i .i64)) 25 (Zn 27 (.bin .eql) 26 4 .nil))) 27 28 true .nil)))))) (.cond (.t 28) (.reg 5 false (Zh 29 1 9 (Zc 30 (.ld (.slot 2) (.i .i64)) 29 (Zb 31 3 (.op (some 32) (.call 124 []) [(.t 6),(.t 30),(.t 31)] .nil))))) .skip)) (.seq (.reg 6 false (Zh 33 0 6 (Zc 34 (.ld .heap (.i .i64)) 33 (Zn 35 (.bin .add) 34 1 (Zh 36 0 6 (.op none (.st .heap) [(.t 36),(.t 35)] .nil)))))) (.seq (.reg 7 true (Zc 37 (.ldAll (.slot 0) 3) 4 (Zb 38 1 (Zg 39 (.qcall 113 [.any]) 37 38 (Zc 40 (.ldAll .heap 5) 6 (Zg 41 (.qcall 114 [.agg]) 39 40 (.op none (.stAll (.slot 1) 5) [(.t 8),(.t 41)] .nil))))))) .ret)))))) }
def q108:Fn:={ np:=2,nt:=20,ns:=2,res:=[.t 4 (.i .i64)],gc:=false,code:=(.seq (.reg 0 false (.box 2 0 (.t 0) (.box 3 1 (.t 1) (xmk 4 0 .nil)))) (.seq (.seq (.reg 1 false (Zh 5 0 2 (Zc 6 (.ld (.slot 0) (.i .i64)) 5 (Zn 7 (.bin .geq) 6 0 (Zb 8 7 (.sc 8 true (Zh 9 0 2 (Zc 10 (.ld (.slot 0) (.i .i64)) 9 (Zn 11 (.bin .lss) 10 4 .nil))) 11 12 false .nil)))))) (.cond (.t 12) (.seq (.reg 2 false (Zh 13 0 2 (Zc 14 (.ld (.slot 0) (.i .i64)) 13 (Zh 15 1 3 (Zg 16 (.idxA 4 1) 15 14 (Zc 17 (.ld (.slot 1) (.i .i64)) 16 (Zb 4 17 .nil))))))) .ret) .skip)) (.seq (.reg 3 false (Zh 18 1 2 (Zc 19 (.ld (.slot 0) (.i .i64)) 18 (Zb 4 19 .nil)))) .ret))) }
def q113:Fn:={ np:=2,nt:=19,ns:=1,res:=[.t 4 .any],gc:=false,code:=(.seq (.reg 0 false (.box 2 0 (.t 0) (.op (some 4) .mov [(.k (.c .nils))] .nil))) (.seq (.seq (.reg 1 false (Zb 5 1 (Zn 6 (.bin .lss) 5 0 (Zb 7 6 (.sc 7 false (Zb 8 1 (Zh 9 2 2 (Zc 10 (.ld (.slot 0) .any) 9 (Zc 11 .len 10 (Zg 12 (.bin .geq) 8 11 .nil))))) 12 13 true .nil))))) (.cond (.t 13) (.seq (.reg 2 false (.op (some 4) .mov [(.k (.c .nils))] .nil)) .ret) .skip)) (.seq (.reg 3 false (Zh 14 2 2 (Zc 15 (.ld (.slot 0) .any) 14 (Zb 16 1 (Zg 17 (.idxS 1) 15 16 (Zc 18 (.ld .heap .any) 17 (Zb 4 18 .nil))))))) .ret))) }
def q114_b1:IC:=(.seq (.seq (.reg 1 false (Zh 10 0 3 (Zc 11 (.ld .heap (.i .i64)) 10 (Zn 12 (.bin .geq) 11 0 (Zb 13 12 (.sc 13 true (Zh 14 0 3 (Zc 15 (.ld .heap (.i .i64)) 14 (Zb 16 0 (Zc 17 .len 16 (Zg 18 (.bin .lss) 15 17 .nil))))) 18 19 false .nil)))))) (.cond (.t 19) .skip (.exit 0))) (.blk 1 (.seq (.reg 2 false (Zb 20 0 (Zh 21 0 3 (Zc 22 (.ld .heap (.i .i64)) 21 (Zg 23 (.idxS 9) 20 22 (Zc 24 (.ldN .heap 9) 23 (.al 5 1 (Ya 9 ci0) (.op none (.stAll (.slot 1) 9) [(.t 5),(.t 24)] .nil)))))))) (.seq (.reg 3 true (Zh 25 3 5 (Zc 26 (.ldN (.slot 1) 2) 25 (Zc 27 (.ldAll .heap 5) 3 (Zg 28 (.qcall 108 [(.i .i64)]) 26 27 (Zh 29 6 5 (Zc 30 (.ldN (.slot 1) 2) 29 (Zc 31 (.ldAll .heap 5) 3 (Zg 32 (.qcall 108 [(.i .i64)]) 30 31 (Zb 6 28 (Zb 7 32 .nil))))))))))) (.seq (.seq (.reg 4 false (Zh 33 0 5 (Zc 34 (.ld (.slot 1) (.i .i64)) 33 .nil))) (.blk 2 (.seq (.reg 6 false (Zn 37 (.bin .eql) 34 5 (Zb 36 37 .nil))) (.cond (.t 36) (.seq (.seq (.reg 7 false (Zh 39 5 5 (Zc 40 (.ld (.slot 1) (.i .i64)) 39 (Zb 41 6 (Zb 42 7 (.op (some 43) (.call 125 [(.i .i64),.b]) [(.t 40),(.t 41),(.t 42)] (Zb 38 43 (Zc 44 (.ext 0) 38 (Zc 45 (.ext 1) 38 (Zb 8 44 (Zb 9 45 .nil))))))))))) (.seq (.reg 8 false (Zb 46 9 .nil)) (.cond (.t 46) (.reg 9 false (Zb 47 8 (Zb 6 47 .nil))) .skip))) (.reg 10 false (Zh 48 1 5 (Zc 49 (.ld (.slot 1) (.i .i64)) 48 (Zb 50 6 (.op (some 51) (.call 124 []) [(.t 3),(.t 49),(.t 50)] .nil)))))) (.seq (.reg 11 false (Zn 53 (.bin .eql) 34 6 (Zb 52 53 .nil))) (.cond (.t 52) (.seq (.reg 12 false (Zb 54 6 (Zb 55 7 (Zg 56 (.bin .eql) 54 55 .nil)))) (.cond (.t 56) (.reg 13 false (Zh 57 0 3 (Zc 58 (.ld .heap (.i .i64)) 57 (Zh 59 8 5 (Zc 60 (.ld (.slot 1) (.i .i64)) 59 (Zn 61 .mx 60 0 (Zb 62 0 (Zc 63 .len 62 (Zg 64 .mn 61 63 (Zg 65 (.bin .add) 58 64 (Zh 66 0 3 (.op none (.st .heap) [(.t 66),(.t 65)] .nil)))))))))))) .skip)) (.seq (.reg 5 false (Zc 35 (.ldAll .heap 5) 3 (.op none (.stAll (.slot 0) 5) [(.t 4),(.t 35)] .nil))) .ret))))))) (.reg 14 false (Zh 67 0 3 (Zc 68 (.ld .heap (.i .i64)) 67 (Zn 69 (.bin .add) 68 1 (Zh 70 0 3 (.op none (.st .heap) [(.t 70),(.t 69)] .nil)))))))))))
def q114_p1:IC:=(.seq (.reg 15 false (Zc 71 (.ldAll .heap 5) 3 (.op none (.stAll (.slot 0) 5) [(.t 4),(.t 71)] .nil))) .ret)
def q114:Fn:={ np:=2,nt:=72,ns:=2,res:=[.all (.slot 0) 4 5],gc:=true,code:=(.seq (.reg 0 false (Zc 3 .boxH 1 (.al 4 0 ([ci0,ci0,ci0,ci0,ci0]) .nil))) (.seq (.blk 0 (.loop [0,3,4] [0] [(0,[4],[0]),(1,[3,4],[0])] q114_b1)) q114_p1)) }
def q124:Fn:={ np:=3,nt:=18,ns:=0,res:=[],gc:=false,code:=(.seq (.reg 0 false (Zb 6 1 (Zn 7 (.bin .geq) 6 0 (Zb 8 7 (.sc 8 true (Zb 9 1 (Zn 10 (.bin .lss) 9 4 .nil)) 10 11 false .nil))))) (.cond (.t 11) (.reg 1 false (Zb 12 0 (Zb 13 1 (Zb 14 2 (Zc 15 .nilchk 12 (Zh 16 1 15 (Zg 17 (.idxA 4 1) 16 13 (.op none (.st .heap) [(.t 17),(.t 14)] .nil)))))))) .skip)) }
def q188_b1:IC:=(.seq (.reg 4 false (Zg 42 (.bin .lss) 41 40 .nil)) (.seq (.cond (.t 42) .skip (.exit 0)) (.seq (.blk 1 (.seq (.reg 5 false (Zb 43 41 (Zg 44 (.idxS 1) 39 41 (Zc 45 (.ld .heap (.i .u8)) 44 (Zb 3 43 (Zb 4 45 .nil)))))) (.seq (.reg 6 false (Zb 46 4 (Zc 47 (.conv .i64) 46 (Zc 48 (.call 158 [.b]) 47 (Zc 49 (.un .not) 48 (Zb 50 49 (.sc 50 false (Zb 51 3 (Zn 52 (.bin .gtr) 51 0 (Zb 53 52 (.sc 53 true (Zb 54 4 (Zh 55 0 1 (Zc 56 (.ld .heap .any) 55 (Zb 57 3 (Zn 58 (.bin .sub) 57 1 (Zg 59 (.idxS 1) 56 58 (Zc 60 (.ld .heap (.i .u8)) 59 (Zg 61 (.bin .leq) 54 60 .nil)))))))) 61 62 false .nil)))) 62 63 true .nil))))))) (.cond (.t 63) (.seq (.reg 7 false (.op (some 2) .mov [(.k (.c (.bool false)))] .nil)) .ret) .skip)))) (.reg 8 false (Zn 64 (.bin .add) 41 1 (Zb 41 64 .nil))))))
def q188_b2:IC:=(.seq (.reg 11 false (Zg 70 (.bin .lss) 69 68 .nil)) (.seq (.cond (.t 70) .skip (.exit 2)) (.seq (.blk 3 (.seq (.reg 12 false (Zg 71 (.idxS 1) 67 69 (Zc 72 (.ld .heap .any) 71 (Zb 7 72 .nil)))) (.seq (.reg 13 false (Zb 73 7 (Zc 74 .len 73 (Zn 75 (.bin .gtr) 74 10 (Zb 76 75 (.sc 76 false (Zb 77 7 (Zc 78 (.call 148 [.b]) 77 (Zc 79 (.un .not) 78 .nil))) 79 80 true (Zb 81 80 (.sc 81 false (Zb 82 7 (Zc 83 (.mkfn 201) 5 (Zg 84 (.call 155 [.b]) 82 83 .nil))) 84 85 true .nil)))))))) (.cond (.t 85) (.seq (.reg 14 false (.op (some 2) .mov [(.k (.c (.bool false)))] .nil)) .ret) .skip)))) (.reg 15 false (Zn 86 (.bin .add) 69 1 (Zb 69 86 .nil))))))
def q188_p2:IC:=(.seq (.reg 16 false (.op (some 2) .mov [(.k (.c (.bool true)))] .nil)) .ret)
def q188_p1:IC:=(.seq (.reg 9 false (Zc 65 (.mkfn 200) 1 (.op (some 5) (.allocH ([Cell.nilf])) [] (.op none (.st .heap) [(.t 5),(.t 65)] .nil)))) (.seq (.seq (.reg 10 false (Zh 66 2 1 (Zc 67 (.ld .heap .any) 66 (Zc 68 .len 67 (xmk 69 0 .nil))))) (.blk 2 (.loop [5,67,68,69] [] [(0,[2],[]),(3,[],[])] q188_b2))) q188_p2))
def q188:Fn:={ np:=1,nt:=87,ns:=0,res:=[.t 2 .b],gc:=true,code:=(.seq (.reg 0 false (Zc 1 .boxH 0 (.op (some 2) .mov [(.k (.c (.bool false)))] .nil))) (.seq (.seq (.reg 1 false (Zh 8 2 1 (Zc 9 (.ld .heap .any) 8 (Zc 10 .len 9 (Zn 11 (.bin .eql) 10 0 (Zb 12 11 (.sc 12 false (Zh 13 2 1 (Zc 14 (.ld .heap .any) 13 (Zc 15 .len 14 (Zn 16 (.bin .gtr) 15 4 .nil)))) 16 17 true (Zb 18 17 (.sc 18 false (Zh 19 0 1 (Zc 20 (.ld .heap .any) 19 (Zc 21 .len 20 (Zn 22 (.bin .gtr) 21 4 .nil)))) 22 23 true (Zb 24 23 (.sc 24 false (Zh 25 1 1 (Zc 26 (.ld .heap .any) 25 (Zc 27 .len 26 (Zh 28 0 1 (Zc 29 (.ld .heap .any) 28 (Zc 30 .len 29 (Zg 31 (.bin .neq) 27 30 .nil))))))) 31 32 true (Zb 33 32 (.sc 33 false (Zc 34 (.ldAll .heap 3) 1 (Zc 35 (.call 102 [(.i .i64)]) 34 (Zn 36 (.bin .gtr) 35 24 .nil))) 36 37 true .nil))))))))))))) (.cond (.t 37) (.seq (.reg 2 false (.op (some 2) .mov [(.k (.c (.bool false)))] .nil)) .ret) .skip)) (.seq (.seq (.reg 3 false (Zh 38 0 1 (Zc 39 (.ld .heap .any) 38 (Zc 40 .len 39 (xmk 41 0 .nil))))) (.blk 0 (.loop [1,39,40,41] [] [(0,[2],[]),(1,[1],[])] q188_b1))) q188_p1))) }
def q200:Fn:={ np:=2,nt:=13,ns:=0,res:=[.t 3 .b],gc:=false,code:=(.seq (.reg 0 false (.op (some 3) .mov [(.k (.c (.bool false)))] .nil)) (.seq (.reg 1 false (Zb 4 0 (Zn 5 (.bin .geq) 4 0 (Zb 6 5 (.sc 6 true (Zb 7 0 (Zh 8 0 1 (Zc 9 (.ld .heap .any) 8 (Zc 10 .len 9 (Zg 11 (.bin .lss) 7 10 .nil))))) 11 12 false (Zb 3 12 .nil)))))) .ret)) }
def q201:Fn:={ np:=2,nt:=8,ns:=1,res:=[.t 3 .b],gc:=false,code:=(.seq (.reg 0 false (.box 2 0 (.t 0) (.op (some 3) .mov [(.k (.c (.bool false)))] .nil))) (.seq (.reg 1 false (Zc 4 (.ldAll (.slot 0) 9) 2 (Zc 5 (.ld .heap .any) 1 (Zg 6 (.call 159 [.b]) 4 5 (Zc 7 (.un .not) 6 (Zb 3 7 .nil)))))) .ret)) }
def q125:Fn:={ np:=3,nt:=71,ns:=0,res:=[.t 6 (.i .i64),.t 7 .b],gc:=false,code:=(.seq (.reg 0 false (xmk 6 0 (.op (some 7) .mov [(.k (.c (.bool false)))] .nil))) (.seq (.reg 1 false (Zb 9 2 (Zc 10 (.conv .u64) 9 (.op (some 11) (.bin .rem) [(.t 10),(.k (.c (.int .u64 64)))] (Zb 8 11 .nil))))) (.seq (.seq (.reg 2 false (Zb 12 0 .nil)) (.blk 0 (.seq (.reg 3 false (Zn 14 (.bin .eql) 12 1 (Zb 13 14 .nil))) (.cond (.t 13) (.seq (.reg 4 false (Zb 15 1 (Zb 16 2 (Zg 17 (.bin .add) 15 16 (Zb 6 17 (.op (some 7) .mov [(.k (.c (.bool true)))] .nil)))))) .ret) (.seq (.reg 5 false (Zn 19 (.bin .eql) 12 2 (Zb 18 19 .nil))) (.cond (.t 18) (.seq (.reg 6 false (Zb 20 1 (Zb 21 2 (Zg 22 (.bin .sub) 20 21 (Zb 6 22 (.op (some 7) .mov [(.k (.c (.bool true)))] .nil)))))) .ret) (.seq (.reg 7 false (Zn 24 (.bin .eql) 12 3 (Zb 23 24 .nil))) (.cond (.t 23) (.seq (.reg 8 false (Zb 25 1 (Zb 26 2 (Zg 27 (.bin .mul) 25 26 (Zb 6 27 (.op (some 7) .mov [(.k (.c (.bool true)))] .nil)))))) .ret) (.seq (.reg 9 false (Zn 29 (.bin .eql) 12 4 (Zb 28 29 .nil))) (.cond (.t 28) (.seq (.reg 10 false (Zb 30 1 (Zb 31 2 (Zg 32 (.bin .and) 30 31 (Zb 6 32 (.op (some 7) .mov [(.k (.c (.bool true)))] .nil)))))) .ret) (.seq (.reg 11 false (Zn 34 (.bin .eql) 12 5 (Zb 33 34 .nil))) (.cond (.t 33) (.seq (.reg 12 false (Zb 35 1 (Zb 36 2 (Zg 37 (.bin .or) 35 36 (Zb 6 37 (.op (some 7) .mov [(.k (.c (.bool true)))] .nil)))))) .ret) (.seq (.reg 13 false (Zn 39 (.bin .eql) 12 6 (Zb 38 39 .nil))) (.cond (.t 38) (.seq (.reg 14 false (Zb 40 1 (Zb 41 2 (Zg 42 (.bin .xor) 40 41 (Zb 6 42 (.op (some 7) .mov [(.k (.c (.bool true)))] .nil)))))) .ret) (.seq (.reg 15 false (Zn 44 (.bin .eql) 12 7 (Zb 43 44 .nil))) (.cond (.t 43) (.seq (.reg 16 false (Zb 45 1 (Zb 46 8 (Zg 47 (.bin .shl) 45 46 (Zb 6 47 (.op (some 7) .mov [(.k (.c (.bool true)))] .nil)))))) .ret) (.seq (.reg 17 false (Zn 49 (.bin .eql) 12 8 (Zb 48 49 .nil))) (.cond (.t 48) (.seq (.reg 18 false (Zb 50 1 (Zb 51 8 (Zg 52 (.bin .shr) 50 51 (Zb 6 52 (.op (some 7) .mov [(.k (.c (.bool true)))] .nil)))))) .ret) (.seq (.reg 19 false (Zn 54 (.bin .eql) 12 9 (Zb 53 54 .nil))) (.cond (.t 53) (.seq (.reg 20 false (Zb 55 1 (Zb 56 2 (Zg 57 (.bin .eql) 55 56 (Zc 58 (.call 139 [(.i .i64)]) 57 (Zb 6 58 (.op (some 7) .mov [(.k (.c (.bool true)))] .nil))))))) .ret) (.seq (.reg 21 false (Zn 60 (.bin .eql) 12 10 (Zb 59 60 .nil))) (.cond (.t 59) (.seq (.reg 22 false (Zb 61 1 (Zb 62 2 (Zg 63 (.bin .neq) 61 62 (Zc 64 (.call 139 [(.i .i64)]) 63 (Zb 6 64 (.op (some 7) .mov [(.k (.c (.bool true)))] .nil))))))) .ret) (.seq (.reg 23 false (Zn 66 (.bin .eql) 12 11 (Zb 65 66 .nil))) (.cond (.t 65) (.seq (.reg 24 false (Zb 67 1 (Zb 68 2 (Zg 69 (.bin .lss) 67 68 (Zc 70 (.call 139 [(.i .i64)]) 69 (Zb 6 70 (.op (some 7) .mov [(.k (.c (.bool true)))] .nil))))))) .ret) .skip)))))))))))))))))))))))) (.seq (.reg 25 false (xmk 6 0 (.op (some 7) .mov [(.k (.c (.bool false)))] .nil))) .ret)))) }
def q139:Fn:={ np:=1,nt:=4,ns:=0,res:=[.t 2 (.i .i64)],gc:=false,code:=(.seq (.reg 0 false (xmk 2 0 .nil)) (.seq (.seq (.reg 1 false (Zb 3 0 .nil)) (.cond (.t 3) (.seq (.reg 2 false (xmk 2 1 .nil)) .ret) .skip)) (.seq (.reg 3 false (xmk 2 0 .nil)) .ret))) }
structure q139_In (E:Env):Prop where
 fn:E.fn 139=some q139
structure q125_In (E:Env):Prop where
 fn:E.fn 125=some q125
 c139:q139_In E
def q158:Fn:={ np:=1,nt:=9,ns:=0,res:=[.t 2 .b],gc:=false,code:=(.seq (.reg 0 false (.op (some 2) .mov [(.k (.c (.bool false)))] .nil)) (.seq (.reg 1 false (Zb 3 0 (Zn 4 (.bin .geq) 3 97 (Zb 5 4 (.sc 5 true (Zb 6 0 (Zn 7 (.bin .leq) 6 122 .nil)) 7 8 false (Zb 2 8 .nil)))))) .ret)) }
def q159:Fn:={ np:=2,nt:=159,ns:=2,res:=[.t 4 .b],gc:=false,code:=(.seq (.reg 0 false (.box 2 0 (.t 0) (.op (some 4) .mov [(.k (.c (.bool false)))] .nil))) (.seq (.reg 1 false (Zh 7 0 2 (Zc 8 (.ld (.slot 0) (.i .i64)) 7 (Zc 9 (.build (Ya 9 ci0) [(0,1)]) 8 (.al 5 1 (Ya 9 ci0) (.op none (.stAll (.slot 1) 9) [(.t 5),(.t 9)] .nil)))))) (.seq (.reg 2 false (.op (some 6) .mov [(.k (.c (.bool true)))] .nil)) (.seq (.seq (.reg 3 false (Zh 10 0 2 (Zc 11 (.ld (.slot 0) (.i .i64)) 10 .nil))) (.blk 0 (.seq (.reg 5 false (Zn 13 (.bin .eql) 11 1 (Zb 12 13 .nil))) (.cond (.t 12) (.seq (.reg 6 true (Zh 14 2 2 (Zc 15 (.ld (.slot 0) (.i .i64)) 14 (Zh 16 3 2 (Zc 17 (.ldN (.slot 0) 2) 16 (Zh 18 2 5 (.op none (.st (.slot 1)) [(.t 18),(.t 15)] (Zh 19 3 5 (.op none (.stN (.slot 1) 2) [(.t 19),(.t 17)] .nil))))))))) (.reg 7 false (Zb 20 1 (Zh 21 2 2 (Zc 22 (.ld (.slot 0) (.i .i64)) 21 (Zg 23 (.callv [.b]) 20 22 (Zb 24 23 (.sc 24 true (Zh 25 3 2 (Zc 26 (.ldN (.slot 0) 2) 25 (Zc 27 (.call 163 [.b]) 26 .nil))) 27 28 false (Zb 6 28 .nil))))))))) (.seq (.reg 8 false (Zn 30 (.bin .eql) 11 2 (Zb 29 30 .nil))) (.cond (.t 29) (.seq (.reg 9 true (Zh 31 1 2 (Zc 32 (.ld (.slot 0) (.i .i64)) 31 (Zh 33 2 2 (Zc 34 (.ld (.slot 0) (.i .i64)) 33 (Zh 35 1 5 (.op none (.st (.slot 1)) [(.t 35),(.t 32)] (Zh 36 2 5 (.op none (.st (.slot 1)) [(.t 36),(.t 34)] .nil))))))))) (.reg 10 false (Zb 37 1 (Zh 38 2 2 (Zc 39 (.ld (.slot 0) (.i .i64)) 38 (Zg 40 (.callv [.b]) 37 39 (Zb 41 40 (.sc 41 true (Zh 42 1 2 (Zc 43 (.ld (.slot 0) (.i .i64)) 42 (Zc 44 (.call 164 [.b]) 43 .nil))) 44 45 false (Zb 6 45 .nil))))))))) (.seq (.reg 11 false (Zn 47 (.bin .eql) 11 3 (Zb 46 47 .nil))) (.cond (.t 46) .skip (.seq (.reg 12 false (Zn 49 (.bin .eql) 11 4 (Zb 48 49 .nil))) (.cond (.t 48) (.seq (.reg 13 true (Zh 50 1 2 (Zc 51 (.ld (.slot 0) (.i .i64)) 50 (Zh 52 2 2 (Zc 53 (.ld (.slot 0) (.i .i64)) 52 (Zh 54 3 2 (Zc 55 (.ldN (.slot 0) 2) 54 (Zh 56 6 2 (Zc 57 (.ldN (.slot 0) 2) 56 (Zh 58 1 5 (.op none (.st (.slot 1)) [(.t 58),(.t 51)] (Zh 59 2 5 (.op none (.st (.slot 1)) [(.t 59),(.t 53)] (Zh 60 3 5 (.op none (.stN (.slot 1) 2) [(.t 60),(.t 55)] (Zh 61 6 5 (.op none (.stN (.slot 1) 2) [(.t 61),(.t 57)] .nil))))))))))))))))) (.reg 14 false (Zb 62 1 (Zh 63 2 2 (Zc 64 (.ld (.slot 0) (.i .i64)) 63 (Zg 65 (.callv [.b]) 62 64 (Zb 66 65 (.sc 66 true (Zh 67 1 2 (Zc 68 (.ld (.slot 0) (.i .i64)) 67 (Zc 69 (.call 164 [.b]) 68 .nil))) 69 70 false (Zb 71 70 (.sc 71 true (Zh 72 3 2 (Zc 73 (.ldN (.slot 0) 2) 72 (Zc 74 (.call 163 [.b]) 73 .nil))) 74 75 false (Zb 76 75 (.sc 76 true (Zh 77 6 2 (Zc 78 (.ldN (.slot 0) 2) 77 (Zc 79 (.call 163 [.b]) 78 .nil))) 79 80 false (Zb 6 80 .nil))))))))))))) (.seq (.reg 15 false (Zn 82 (.bin .eql) 11 5 (Zb 81 82 .nil))) (.cond (.t 81) (.seq (.reg 16 true (Zh 83 1 2 (Zc 84 (.ld (.slot 0) (.i .i64)) 83 (Zh 85 3 2 (Zc 86 (.ldN (.slot 0) 2) 85 (Zh 87 5 2 (Zc 88 (.ld (.slot 0) (.i .i64)) 87 (Zh 89 6 2 (Zc 90 (.ldN (.slot 0) 2) 89 (Zh 91 1 5 (.op none (.st (.slot 1)) [(.t 91),(.t 84)] (Zh 92 3 5 (.op none (.stN (.slot 1) 2) [(.t 92),(.t 86)] (Zh 93 5 5 (.op none (.st (.slot 1)) [(.t 93),(.t 88)] (Zh 94 6 5 (.op none (.stN (.slot 1) 2) [(.t 94),(.t 90)] .nil))))))))))))))))) (.reg 17 false (Zh 95 1 2 (Zc 96 (.ld (.slot 0) (.i .i64)) 95 (Zc 97 (.call 164 [.b]) 96 (Zb 98 97 (.sc 98 true (Zh 99 3 2 (Zc 100 (.ldN (.slot 0) 2) 99 (Zc 101 (.call 163 [.b]) 100 .nil))) 101 102 false (Zb 103 102 (.sc 103 true (Zh 104 6 2 (Zc 105 (.ldN (.slot 0) 2) 104 (Zc 106 (.call 163 [.b]) 105 .nil))) 106 107 false (Zb 108 107 (.sc 108 true (Zh 109 5 2 (Zc 110 (.ld (.slot 0) (.i .i64)) 109 (Zn 111 (.bin .geq) 110 0 .nil))) 111 112 false (Zb 113 112 (.sc 113 true (Zh 114 5 2 (Zc 115 (.ld (.slot 0) (.i .i64)) 114 (Zn 116 (.bin .leq) 115 11 .nil))) 116 117 false (Zb 118 117 (.sc 118 true (Zh 119 5 2 (Zc 120 (.ld (.slot 0) (.i .i64)) 119 (Zn 121 (.bin .gtr) 120 0 (Zb 122 121 (.sc 122 false (Zh 123 6 2 (Zc 124 (.ldN (.slot 0) 2) 123 (.op (some 125) (.build ([ci0,ci0]) [(0,1)]) [(.k (.c (.int .i64 (-1))))] (Zg 126 (.eqA false ([ci0,ci0])) 124 125 .nil)))) 126 127 true .nil))))) 127 128 false (Zb 6 128 .nil)))))))))))))))) (.seq (.reg 18 false (Zn 130 (.bin .eql) 11 6 (Zb 129 130 .nil))) (.cond (.t 129) (.seq (.reg 19 true (Zh 131 8 2 (Zc 132 (.ld (.slot 0) (.i .i64)) 131 (Zh 133 3 2 (Zc 134 (.ldN (.slot 0) 2) 133 (Zh 135 6 2 (Zc 136 (.ldN (.slot 0) 2) 135 (Zh 137 8 5 (.op none (.st (.slot 1)) [(.t 137),(.t 132)] (Zh 138 3 5 (.op none (.stN (.slot 1) 2) [(.t 138),(.t 134)] (Zh 139 6 5 (.op none (.stN (.slot 1) 2) [(.t 139),(.t 136)] .nil))))))))))))) (.reg 20 false (Zh 140 8 2 (Zc 141 (.ld (.slot 0) (.i .i64)) 140 (Zn 142 (.bin .geq) 141 0 (Zb 143 142 (.sc 143 true (Zh 144 3 2 (Zc 145 (.ldN (.slot 0) 2) 144 (Zc 146 (.call 163 [.b]) 145 .nil))) 146 147 false (Zb 148 147 (.sc 148 true (Zh 149 6 2 (Zc 150 (.ldN (.slot 0) 2) 149 (Zc 151 (.call 163 [.b]) 150 .nil))) 151 152 false (Zb 6 152 .nil)))))))))) (.seq (.reg 4 false (.op (some 4) .mov [(.k (.c (.bool false)))] .nil)) .ret))))))))))))))) (.seq (.reg 21 false (Zb 153 6 (Zb 154 153 (.sc 154 true (Zc 155 (.ldAll (.slot 0) 9) 2 (Zc 156 (.ldAll (.slot 1) 9) 5 (Zg 157 (.eqA false (Ya 9 ci0)) 155 156 .nil))) 157 158 false (Zb 4 158 .nil))))) .ret))))) }
def q163:Fn:={ np:=1,nt:=16,ns:=1,res:=[.t 2 .b],gc:=false,code:=(.seq (.reg 0 false (.box 1 0 (.t 0) (.op (some 2) .mov [(.k (.c (.bool false)))] .nil))) (.seq (.reg 1 false (Zh 3 0 1 (Zc 4 (.ld (.slot 0) (.i .i64)) 3 (Zn 5 (.bin .eql) 4 (-1) (Zb 6 5 (.sc 6 false (Zh 7 0 1 (Zc 8 (.ld (.slot 0) (.i .i64)) 7 (Zc 9 (.call 164 [.b]) 8 (Zb 10 9 (.sc 10 true (Zh 11 1 1 (Zc 12 (.ld (.slot 0) (.i .i64)) 11 (Zn 13 (.bin .eql) 12 0 .nil))) 13 14 false .nil))))) 14 15 true (Zb 2 15 .nil))))))) .ret)) }
def q164:Fn:={ np:=1,nt:=9,ns:=0,res:=[.t 2 .b],gc:=false,code:=(.seq (.reg 0 false (.op (some 2) .mov [(.k (.c (.bool false)))] .nil)) (.seq (.reg 1 false (Zb 3 0 (Zn 4 (.bin .geq) 3 0 (Zb 5 4 (.sc 5 true (Zb 6 0 (Zn 7 (.bin .lss) 6 4 .nil)) 7 8 false (Zb 2 8 .nil)))))) .ret)) }
def q119:Fn:={ np:=1,nt:=8,ns:=0,res:=[.t 2 .any],gc:=false,code:=(.seq (.reg 0 false (.op (some 2) .mov [(.k (.c .nils))] .nil)) (.seq (.seq (.reg 1 false (Zb 3 0 (.op (some 4) (.eqNil false) [(.t 3),(.k (.c .nils))] .nil))) (.cond (.t 4) (.seq (.reg 2 false (.op (some 2) .mov [(.k (.c .nils))] .nil)) .ret) .skip)) (.seq (.reg 3 false (.op (some 5) (.bslice 9 0 (([]:List Cell)) []) [] (Zb 6 0 (Zg 7 (.app 9 72) 5 6 (Zb 2 7 .nil))))) .ret))) }
def q155:Fn:={ np:=2,nt:=9,ns:=0,res:=[.t 4 .b],gc:=false,code:=(.seq (.reg 0 false (.op (some 4) .mov [(.k (.c (.bool false)))] .nil)) (.seq (.reg 1 false (Zb 5 0 (Zb 6 1 (Zg 7 (.call 156 [(.i .i64)]) 5 6 (Zn 8 (.bin .geq) 7 0 (Zb 4 8 .nil)))))) .ret)) }
def q156_b1:IC:=(.seq (.reg 2 false (Zg 9 (.bin .lss) 8 7 .nil)) (.seq (.cond (.t 9) .skip (.exit 0)) (.seq (.blk 1 (.seq (.reg 3 false (Zb 10 8 (Zb 5 10 .nil))) (.seq (.reg 4 false (Zb 11 1 (Zb 12 0 (Zb 13 5 (Zg 14 (.idxS 9) 12 13 (Zc 15 (.ldN .heap 9) 14 (Zg 16 (.callv [.b]) 11 15 .nil))))))) (.cond (.t 16) (.seq (.reg 5 false (Zb 17 5 (Zb 4 17 .nil))) .ret) .skip)))) (.reg 6 false (Zn 18 (.bin .add) 8 1 (Zb 8 18 .nil))))))
def q156_p1:IC:=(.seq (.reg 7 false (xmk 4 (-1) .nil)) .ret)
def q156:Fn:={ np:=2,nt:=19,ns:=0,res:=[.t 4 (.i .i64)],gc:=false,code:=(.seq (.reg 0 false (xmk 4 0 .nil)) (.seq (.seq (.reg 1 false (Zb 6 0 (Zc 7 .len 6 (xmk 8 0 .nil)))) (.blk 0 (.loop [0,1,7,8] [] [(0,[4],[]),(1,[],[])] q156_b1))) q156_p1)) }
def q195:Fn:={ np:=1,nt:=8,ns:=0,res:=[.t 2 .any],gc:=false,code:=(.seq (.reg 0 false (.op (some 2) .mov [(.k (.c .nils))] .nil)) (.seq (.seq (.reg 1 false (Zb 3 0 (.op (some 4) (.eqNil false) [(.t 3),(.k (.c .nils))] .nil))) (.cond (.t 4) (.seq (.reg 2 false (.op (some 2) .mov [(.k (.c .nils))] .nil)) .ret) .skip)) (.seq (.reg 3 false (.op (some 5) (.bslice 7 0 (([]:List Cell)) []) [] (Zb 6 0 (Zg 7 (.app 7 56) 5 6 (Zb 2 7 .nil))))) .ret))) }
def q202:Fn:={ np:=1,nt:=8,ns:=0,res:=[.t 2 .any],gc:=false,code:=(.seq (.reg 0 false (.op (some 2) .mov [(.k (.c .nils))] .nil)) (.seq (.seq (.reg 1 false (Zb 3 0 (.op (some 4) (.eqNil false) [(.t 3),(.k (.c .nils))] .nil))) (.cond (.t 4) (.seq (.reg 2 false (.op (some 2) .mov [(.k (.c .nils))] .nil)) .ret) .skip)) (.seq (.reg 3 false (.op (some 5) (.bslice 1 0 (([]:List Cell)) []) [] (Zb 6 0 (Zg 7 (.app 1 1) 5 6 (Zb 2 7 .nil))))) .ret))) }
def q203:Fn:={ np:=1,nt:=8,ns:=0,res:=[.t 2 .any],gc:=false,code:=(.seq (.reg 0 false (.op (some 2) .mov [(.k (.c .nils))] .nil)) (.seq (.seq (.reg 1 false (Zb 3 0 (.op (some 4) (.eqNil false) [(.t 3),(.k (.c .nils))] .nil))) (.cond (.t 4) (.seq (.reg 2 false (.op (some 2) .mov [(.k (.c .nils))] .nil)) .ret) .skip)) (.seq (.reg 3 false (.op (some 5) (.bslice 1 0 (([]:List Cell)) []) [] (Zb 6 0 (Zg 7 (.app 1 8) 5 6 (Zb 2 7 .nil))))) .ret))) }
def q275:Fn:={ np:=2,nt:=9,ns:=1,res:=[.t 4 .b],gc:=false,code:=(.seq (.reg 0 false (.box 3 0 (.t 1) (.op (some 4) .mov [(.k (.c (.bool false)))] .nil))) (.seq (.reg 1 false (Zb 5 0 (Zc 6 (.ldAll (.slot 0) 2) 3 (Zg 7 (.call 284 [(.i .i64)]) 5 6 (Zn 8 (.bin .geq) 7 0 (Zb 4 8 .nil)))))) .ret)) }
def q276_b1:IC:=(.seq (.reg 4 false (Zg 14 (.bin .lss) 13 12 .nil)) (.seq (.cond (.t 14) .skip (.exit 0)) (.seq (.blk 1 (.seq (.reg 5 false (Zb 15 13 (Zb 5 15 .nil))) (.seq (.reg 6 true (Zb 16 0 (Zb 17 5 (Zg 18 (.idxS 7) 16 17 (Zc 19 (.ldN .heap 7) 18 (Zb 20 1 (Zb 21 5 (Zg 22 (.idxS 7) 20 21 (Zc 23 (.ldN .heap 7) 22 (Zg 24 (.eqA true (Ya 7 ci0)) 19 23 .nil)))))))))) (.cond (.t 24) (.seq (.reg 7 false (.op (some 4) .mov [(.k (.c (.bool false)))] .nil)) .ret) .skip)))) (.reg 8 false (Zn 25 (.bin .add) 13 1 (Zb 13 25 .nil))))))
def q276_p1:IC:=(.seq (.reg 9 false (.op (some 4) .mov [(.k (.c (.bool true)))] .nil)) .ret)
def q276:Fn:={ np:=2,nt:=26,ns:=0,res:=[.t 4 .b],gc:=false,code:=(.seq (.reg 0 false (.op (some 4) .mov [(.k (.c (.bool false)))] .nil)) (.seq (.seq (.reg 1 false (Zb 6 0 (Zc 7 .len 6 (Zb 8 1 (Zc 9 .len 8 (Zg 10 (.bin .neq) 7 9 .nil)))))) (.cond (.t 10) (.seq (.reg 2 false (.op (some 4) .mov [(.k (.c (.bool false)))] .nil)) .ret) .skip)) (.seq (.seq (.reg 3 false (Zb 11 0 (Zc 12 .len 11 (xmk 13 0 .nil)))) (.blk 0 (.loop [0,1,12,13] [] [(0,[4],[]),(1,[],[])] q276_b1))) q276_p1))) }
def q283_b1:IC:=(.seq (.reg 2 false (Zg 9 (.bin .lss) 8 7 .nil)) (.seq (.cond (.t 9) .skip (.exit 0)) (.seq (.blk 1 (.seq (.reg 3 false (Zb 10 8 (Zb 5 10 .nil))) (.seq (.reg 4 false (Zb 11 1 (Zb 12 0 (Zb 13 5 (Zg 14 (.idxS 7) 12 13 (Zc 15 (.ldN .heap 7) 14 (Zg 16 (.callv [.b]) 11 15 .nil))))))) (.cond (.t 16) (.seq (.reg 5 false (Zb 17 5 (Zb 4 17 .nil))) .ret) .skip)))) (.reg 6 false (Zn 18 (.bin .add) 8 1 (Zb 8 18 .nil))))))
def q283_p1:IC:=(.seq (.reg 7 false (xmk 4 (-1) .nil)) .ret)
def q283:Fn:={ np:=2,nt:=19,ns:=0,res:=[.t 4 (.i .i64)],gc:=false,code:=(.seq (.reg 0 false (xmk 4 0 .nil)) (.seq (.seq (.reg 1 false (Zb 6 0 (Zc 7 .len 6 (xmk 8 0 .nil)))) (.blk 0 (.loop [0,1,7,8] [] [(0,[4],[]),(1,[],[])] q283_b1))) q283_p1)) }
def q284_b1:IC:=(.seq (.reg 2 false (Zg 9 (.bin .lss) 8 7 .nil)) (.seq (.cond (.t 9) .skip (.exit 0)) (.seq (.blk 1 (.seq (.reg 3 false (Zb 10 8 (Zb 5 10 .nil))) (.seq (.reg 4 true (Zc 11 (.ldAll (.slot 0) 2) 3 (Zb 12 0 (Zb 13 5 (Zg 14 (.idxS 2) 12 13 (Zc 15 (.ldN .heap 2) 14 (Zg 16 (.eqA false ([ci0,ci0])) 11 15 .nil))))))) (.cond (.t 16) (.seq (.reg 5 false (Zb 17 5 (Zb 4 17 .nil))) .ret) .skip)))) (.reg 6 false (Zn 18 (.bin .add) 8 1 (Zb 8 18 .nil))))))
def q284_p1:IC:=(.seq (.reg 7 false (xmk 4 (-1) .nil)) .ret)
def q284:Fn:={ np:=2,nt:=19,ns:=1,res:=[.t 4 (.i .i64)],gc:=false,code:=(.seq (.reg 0 false (.box 3 0 (.t 1) (xmk 4 0 .nil))) (.seq (.seq (.reg 1 false (Zb 6 0 (Zc 7 .len 6 (xmk 8 0 .nil)))) (.blk 0 (.loop [0,3,7,8] [0] [(0,[4],[]),(1,[],[])] q284_b1))) q284_p1)) }
def q340_b1:IC:=(.seq (.seq (.reg 8 false (Zb 34 8 (Zb 35 7 (Zc 36 .len 35 (Zg 37 (.bin .lss) 34 36 .nil))))) (.cond (.t 37) .skip (.exit 0))) (.blk 1 (.reg 9 true (Zb 38 8 (Zb 39 7 (Zb 40 8 (Zg 41 (.slc 1 true false) 39 40 (Zb 42 7 (Zb 43 8 (Zg 44 (.slc 1 false true) 42 43 (Zg 45 (.copy 1) 41 44 (Zg 46 (.bin .add) 38 45 (Zb 8 46 .nil)))))))))))))
def q340_p2:IC:=(.seq (.reg 10 false (Zb 47 7 (Zb 4 47 .nil))) .ret)
def q340_p1:IC:=(.seq (.reg 3 false (Zb 13 0 (Zc 14 .len 13 (Zc 15 (.conv .u64) 14 (Zb 16 1 (Zc 17 (.conv .u64) 16 (Zg 18 (.call 369 [(.i .u64),(.i .u64)]) 15 17 (Zb 12 18 (Zc 19 (.ext 0) 12 (Zc 20 (.ext 1) 12 (Zb 5 19 (Zb 6 20 .nil)))))))))))) (.seq (.seq (.reg 4 false (Zb 21 5 (.op (some 22) (.bin .gtr) [(.t 21),(.k (.c (.int .u64 0)))] (Zb 23 22 (.sc 23 false (Zb 24 6 (.op (some 25) (.bin .gtr) [(.t 24),(.k (.c (.int .u64 9223372036854775807)))] .nil)) 25 26 true .nil))))) (.cond (.t 26) (.reg 5 false (.op (some 27) .trap [] (.op none .trap [] .nil))) .skip)) (.seq (.reg 6 false (Zb 28 6 (Zc 29 (.conv .i64) 28 (Zg 30 (.mks 1 ([ci0]) 8) 29 29 (Zb 7 30 .nil))))) (.seq (.reg 7 false (Zb 31 7 (Zb 32 0 (Zg 33 (.copy 1) 31 32 (Zb 8 33 .nil))))) (.seq (.blk 0 (.loop [7,8] [] [(1,[7],[])] q340_b1)) q340_p2)))))
def q340:Fn:={ np:=2,nt:=48,ns:=0,res:=[.t 4 .any],gc:=false,code:=(.seq (.reg 0 false (.op (some 4) .mov [(.k (.c .nils))] .nil)) (.cut [0,1] [] [] (.seq (.reg 1 false (Zb 9 1 (Zn 10 (.bin .lss) 9 0 .nil))) (.cond (.t 10) (.reg 2 false (.op (some 11) .trap [] (.op none .trap [] .nil))) .skip)) q340_p1)) }
def q342_b1:IC:=(.seq (.reg 2 false (Zg 14 (.bin .lss) 13 12 .nil)) (.seq (.cond (.t 14) .skip (.exit 0)) (.seq (.blk 1 (.seq (.reg 3 false (Zb 15 13 (Zg 16 (.idxS 6) 11 13 (Zc 17 (.ldN .heap 6) 16 (.al 8 0 ([ci0,ci0,ci0,ci0,ci0,ci0]) (Zb 7 15 (.op none (.stAll (.slot 0) 6) [(.t 8),(.t 17)] .nil))))))) (.seq (.seq (.reg 4 false (Zb 18 7 (Zb 19 1 (Zc 20 .len 19 (Zg 21 (.bin .geq) 18 20 .nil))))) (.cond (.t 21) (.seq (.reg 5 false (xmk 6 1 .nil)) .ret) .skip)) (.seq (.reg 6 false (Zb 22 1 (Zb 23 7 (Zg 24 (.idxS 6) 22 23 (Zc 25 (.ldN .heap 6) 24 (.al 9 1 ([ci0,ci0,ci0,ci0,ci0,ci0]) (.op none (.stAll (.slot 1) 6) [(.t 9),(.t 25)] .nil))))))) (.seq (.reg 7 false (Zb 26 2 (Zc 27 (.ldAll (.slot 0) 6) 8 (Zc 28 (.ldAll (.slot 1) 6) 9 (.op (some 29) (.callv [(.i .i64)]) [(.t 26),(.t 27),(.t 28)] (Zb 10 29 .nil)))))) (.seq (.reg 8 false (Zb 30 10 (Zn 31 (.bin .neq) 30 0 .nil))) (.cond (.t 31) (.seq (.reg 9 false (Zb 32 10 (Zb 6 32 .nil))) .ret) .skip))))))) (.reg 10 false (Zn 33 (.bin .add) 13 1 (Zb 13 33 .nil))))))
def q342_p1:IC:=(.seq (.seq (.reg 11 false (Zb 34 0 (Zc 35 .len 34 (Zb 36 1 (Zc 37 .len 36 (Zg 38 (.bin .lss) 35 37 .nil)))))) (.cond (.t 38) (.seq (.reg 12 false (xmk 6 (-1) .nil)) .ret) .skip)) (.seq (.reg 13 false (xmk 6 0 .nil)) .ret))
def q342:Fn:={ np:=3,nt:=39,ns:=2,res:=[.t 6 (.i .i64)],gc:=false,code:=(.seq (.reg 0 false (xmk 6 0 .nil)) (.seq (.seq (.reg 1 false (Zb 11 0 (Zc 12 .len 11 (xmk 13 0 .nil)))) (.blk 0 (.loop [0,1,2,11,12,13] [] [(0,[6],[]),(1,[0,1],[])] q342_b1))) q342_p1)) }
def q343_b1:IC:=(.seq (.reg 2 false (Zg 12 (.bin .lss) 11 10 .nil)) (.seq (.cond (.t 12) .skip (.exit 0)) (.seq (.blk 1 (.seq (.reg 3 false (Zb 13 11 (Zg 14 (.idxS 1) 9 11 (Zc 15 (.ld .heap (.i .i64)) 14 (Zb 5 13 (Zb 6 15 .nil)))))) (.seq (.seq (.reg 4 false (Zb 16 5 (Zb 17 1 (Zc 18 .len 17 (Zg 19 (.bin .geq) 16 18 .nil))))) (.cond (.t 19) (.seq (.reg 5 false (xmk 4 1 .nil)) .ret) .skip)) (.seq (.reg 6 false (Zb 20 1 (Zb 21 5 (Zg 22 (.idxS 1) 20 21 (Zc 23 (.ld .heap (.i .i64)) 22 (Zb 7 23 .nil)))))) (.seq (.reg 7 false (Zb 24 6 (Zb 25 7 (Zg 26 (.call 370 [(.i .i64)]) 24 25 (Zb 8 26 .nil))))) (.seq (.reg 8 false (Zb 27 8 (Zn 28 (.bin .neq) 27 0 .nil))) (.cond (.t 28) (.seq (.reg 9 false (Zb 29 8 (Zb 4 29 .nil))) .ret) .skip))))))) (.reg 10 false (Zn 30 (.bin .add) 11 1 (Zb 11 30 .nil))))))
def q343_p1:IC:=(.seq (.seq (.reg 11 false (Zb 31 0 (Zc 32 .len 31 (Zb 33 1 (Zc 34 .len 33 (Zg 35 (.bin .lss) 32 34 .nil)))))) (.cond (.t 35) (.seq (.reg 12 false (xmk 4 (-1) .nil)) .ret) .skip)) (.seq (.reg 13 false (xmk 4 0 .nil)) .ret))
def q343:Fn:={ np:=2,nt:=36,ns:=0,res:=[.t 4 (.i .i64)],gc:=false,code:=(.seq (.reg 0 false (xmk 4 0 .nil)) (.seq (.seq (.reg 1 false (Zb 9 0 (Zc 10 .len 9 (xmk 11 0 .nil)))) (.blk 0 (.loop [0,1,9,10,11] [] [(0,[4],[]),(1,[0,1],[])] q343_b1))) q343_p1)) }
def q344_b1:IC:=(.seq (.reg 2 false (Zg 14 (.bin .lss) 13 12 .nil)) (.seq (.cond (.t 14) .skip (.exit 0)) (.seq (.blk 1 (.seq (.reg 3 false (Zb 15 13 (Zg 16 (.idxS 1) 11 13 (Zc 17 (.ld .heap .any) 16 (Zb 7 15 (Zb 8 17 .nil)))))) (.seq (.seq (.reg 4 false (Zb 18 7 (Zb 19 1 (Zc 20 .len 19 (Zg 21 (.bin .geq) 18 20 .nil))))) (.cond (.t 21) (.seq (.reg 5 false (xmk 6 1 .nil)) .ret) .skip)) (.seq (.reg 6 false (Zb 22 1 (Zb 23 7 (Zg 24 (.idxS 1) 22 23 (Zc 25 (.ld .heap .any) 24 (Zb 9 25 .nil)))))) (.seq (.reg 7 false (Zb 26 2 (Zb 27 8 (Zb 28 9 (.op (some 29) (.callv [(.i .i64)]) [(.t 26),(.t 27),(.t 28)] (Zb 10 29 .nil)))))) (.seq (.reg 8 false (Zb 30 10 (Zn 31 (.bin .neq) 30 0 .nil))) (.cond (.t 31) (.seq (.reg 9 false (Zb 32 10 (Zb 6 32 .nil))) .ret) .skip))))))) (.reg 10 false (Zn 33 (.bin .add) 13 1 (Zb 13 33 .nil))))))
def q344_p1:IC:=(.seq (.seq (.reg 11 false (Zb 34 0 (Zc 35 .len 34 (Zb 36 1 (Zc 37 .len 36 (Zg 38 (.bin .lss) 35 37 .nil)))))) (.cond (.t 38) (.seq (.reg 12 false (xmk 6 (-1) .nil)) .ret) .skip)) (.seq (.reg 13 false (xmk 6 0 .nil)) .ret))
def q344:Fn:={ np:=3,nt:=39,ns:=0,res:=[.t 6 (.i .i64)],gc:=false,code:=(.seq (.reg 0 false (xmk 6 0 .nil)) (.seq (.seq (.reg 1 false (Zb 11 0 (Zc 12 .len 11 (xmk 13 0 .nil)))) (.blk 0 (.loop [0,1,2,11,12,13] [] [(0,[6],[]),(1,[0,1],[])] q344_b1))) q344_p1)) }
structure q156_In (E:Env):Prop where
 fn:E.fn 156=some q156
structure q155_In (E:Env):Prop where
 fn:E.fn 155=some q155
 c156:q156_In E
structure q119_In (E:Env):Prop where
 fn:E.fn 119=some q119
structure q202_In (E:Env):Prop where
 fn:E.fn 202=some q202
structure q203_In (E:Env):Prop where
 fn:E.fn 203=some q203
structure q195_In (E:Env):Prop where
 fn:E.fn 195=some q195
structure q283_In (E:Env):Prop where
 fn:E.fn 283=some q283
structure q284_In (E:Env):Prop where
 fn:E.fn 284=some q284
structure q275_In (E:Env):Prop where
 fn:E.fn 275=some q275
 c284:q284_In E
structure q276_In (E:Env):Prop where
 fn:E.fn 276=some q276
structure q340_In (E:Env):Prop where
 fn:E.fn 340=some q340
 c369:q369_In E
structure q342_In (E:Env):Prop where
 fn:E.fn 342=some q342
structure q343_In (E:Env):Prop where
 fn:E.fn 343=some q343
 c370:q370_In E
structure q344_In (E:Env):Prop where
 fn:E.fn 344=some q344
structure q158_In (E:Env):Prop where
 fn:E.fn 158=some q158
structure q164_In (E:Env):Prop where
 fn:E.fn 164=some q164
structure q163_In (E:Env):Prop where
 fn:E.fn 163=some q163
 c164:q164_In E
structure q159_In (E:Env):Prop where
 fn:E.fn 159=some q159
 c163:q163_In E
 c164:q164_In E
def q148_b1:IC:=(.seq (.reg 2 false (Zg 8 (.bin .lss) 7 6 .nil)) (.seq (.cond (.t 8) .skip (.exit 0)) (.seq (.blk 1 (.seq (.reg 3 false (Zb 9 7 (Zg 10 (.idxS 9) 5 7 (Zc 11 (.ldN .heap 9) 10 (.al 4 0 (Ya 9 ci0) (Zb 3 9 (.op none (.stAll (.slot 0) 9) [(.t 4),(.t 11)] .nil))))))) (.seq (.reg 4 false (Zh 12 0 4 (Zc 13 (.ld (.slot 0) (.i .i64)) 12 (Zn 14 (.bin .eql) 13 6 (Zb 15 14 (.sc 15 true (Zh 16 8 4 (Zc 17 (.ld (.slot 0) (.i .i64)) 16 (Zn 18 (.bin .lss) 17 1 (Zb 19 18 (.sc 19 false (Zh 20 8 4 (Zc 21 (.ld (.slot 0) (.i .i64)) 20 (Zb 22 0 (Zc 23 .len 22 (Zb 24 3 (Zg 25 (.bin .sub) 23 24 (Zn 26 (.bin .sub) 25 1 (Zg 27 (.bin .gtr) 21 26 .nil)))))))) 27 28 true .nil))))) 28 29 false .nil)))))) (.cond (.t 29) (.seq (.reg 5 false (.op (some 2) .mov [(.k (.c (.bool false)))] .nil)) .ret) .skip)))) (.reg 6 false (Zn 30 (.bin .add) 7 1 (Zb 7 30 .nil))))))
def q148_p1:IC:=(.seq (.reg 7 false (.op (some 2) .mov [(.k (.c (.bool true)))] .nil)) .ret)
def q148:Fn:={ np:=1,nt:=31,ns:=1,res:=[.t 2 .b],gc:=false,code:=(.seq (.reg 0 false (.op (some 2) .mov [(.k (.c (.bool false)))] .nil)) (.seq (.seq (.reg 1 false (Zb 5 0 (Zc 6 .len 5 (xmk 7 0 .nil)))) (.blk 0 (.loop [0,5,6,7] [] [(0,[2],[]),(1,[],[])] q148_b1))) q148_p1)) }
structure q148_In (E:Env):Prop where
 fn:E.fn 148=some q148
structure q113_In (E:Env):Prop where
 fn:E.fn 113=some q113
structure q108_In (E:Env):Prop where
 fn:E.fn 108=some q108
structure q124_In (E:Env):Prop where
 fn:E.fn 124=some q124
structure q114_In (E:Env):Prop where
 fn:E.fn 114=some q114
 c108:q108_In E
 c124:q124_In E
 c125:q125_In E
structure q94_In (E:Env):Prop where
 fn:E.fn 94=some q94
 c113:q113_In E
 c114:q114_In E
structure q105_In (E:Env):Prop where
 fn:E.fn 105=some q105
 c113:q113_In E
structure q106_In (E:Env):Prop where
 fn:E.fn 106=some q106
 c105:q105_In E
 c113:q113_In E
 c114:q114_In E
 c124:q124_In E
structure q102_In (E:Env):Prop where
 fn:E.fn 102=some q102
structure q200_In (E:Env):Prop where
 fn:E.fn 200=some q200
structure q201_In (E:Env):Prop where
 fn:E.fn 201=some q201
 c159:q159_In E
structure q188_In (E:Env):Prop where
 fn:E.fn 188=some q188
 c102:q102_In E
 c148:q148_In E
 c155:q155_In E
 c158:q158_In E
 c200:q200_In E
 c201:q201_In E
def q3:Fn:={ np:=3,nt:=18,ns:=1,res:=[.t 6 .b],gc:=false,code:=(.seq (.reg 0 false (.box 3 0 (.t 0) (.op (some 6) .mov [(.k (.c (.bool false)))] .nil))) (.seq (.reg 1 false (Zc 7 (.ldAll (.slot 0) 65) 3 (Zb 8 1 (Zg 9 (.call 16 [.b]) 7 8 (Zb 10 9 (.sc 10 true (Zb 11 1 (Zh 12 1 3 (Zg 13 (.idxA 64 1) 12 11 (Zc 14 (.ld (.slot 0) (.i .u64)) 13 (Zb 15 2 (Zg 16 (.call 17 [.b]) 14 15 .nil)))))) 16 17 false (Zb 6 17 .nil))))))) .ret)) }
def q9:Fn:={ np:=1,nt:=7,ns:=1,res:=[.all (.slot 0) 2 65],gc:=false,code:=(.seq (.reg 0 false (.al 2 0 ([ci0]++Ya 64 (Cell.int .u64 0)) .nil)) (.seq (.reg 1 false (Zb 3 0 (Zn 4 .mx 3 0 (Zn 5 .mn 4 64 (.op (some 6) (.build ([ci0]++Ya 64 (Cell.int .u64 0)) [(0,1)]) [(.t 5)] (.op none (.stAll (.slot 0) 65) [(.t 2),(.t 6)] .nil)))))) .ret)) }
def q10:Fn:={ np:=3,nt:=25,ns:=2,res:=[.all (.slot 1) 6 65],gc:=false,code:=(.seq (.reg 0 false (.box 3 0 (.t 0) (.al 6 1 ([ci0]++Ya 64 (Cell.int .u64 0)) .nil))) (.seq (.seq (.reg 1 false (Zc 7 (.ldAll (.slot 0) 65) 3 (Zb 8 1 (Zg 9 (.call 16 [.b]) 7 8 (Zb 10 9 (.sc 10 true (Zc 11 (.ldAll (.slot 0) 65) 3 (Zb 12 2 (Zg 13 (.call 16 [.b]) 11 12 .nil))) 13 14 false .nil)))))) (.cond (.t 14) (.reg 2 false (Zb 15 1 (Zb 16 1 (Zh 17 1 3 (Zg 18 (.idxA 64 1) 17 16 (Zc 19 (.ld (.slot 0) (.i .u64)) 18 (Zb 20 2 (Zg 21 (.call 18 [(.i .u64)]) 19 20 (Zh 22 1 3 (Zg 23 (.idxA 64 1) 22 15 (.op none (.st (.slot 0)) [(.t 23),(.t 21)] .nil))))))))))) .skip)) (.seq (.reg 3 false (Zc 24 (.ldAll (.slot 0) 65) 3 (.op none (.stAll (.slot 1) 65) [(.t 6),(.t 24)] .nil))) .ret))) }
def q12_b1:IC:=(.seq (.reg 5 false (Zg 13 (.bin .lss) 12 11 .nil)) (.seq (.cond (.t 13) .skip (.exit 2)) (.seq (.blk 3 (.seq (.reg 6 false (Zb 14 12 (Zb 4 14 .nil))) (.seq (.reg 7 false (Zb 15 4 (Zh 16 1 1 (Zg 17 (.idxA 64 1) 16 15 (Zc 18 (.ld (.slot 0) (.i .u64)) 17 (Zb 19 3 (Zg 20 (.call 17 [.b]) 18 19 .nil))))))) (.cond (.t 20) (.reg 8 true (Zb 21 4 (Zh 22 1 1 (Zg 23 (.idxA 64 1) 22 21 (Zc 24 (.ld (.slot 0) (.i .u64)) 23 (Zb 25 3 (Zh 26 1 1 (Zg 27 (.idxA 64 1) 26 25 (Zc 28 (.ld (.slot 0) (.i .u64)) 27 (Zg 29 (.bin .or) 24 28 (Zh 30 1 1 (Zg 31 (.idxA 64 1) 30 21 (.op none (.st (.slot 0)) [(.t 31),(.t 29)] .nil))))))))))))) .skip)))) (.reg 9 false (Zn 32 (.bin .add) 12 1 (Zb 12 32 .nil))))))
def q12_p2:IC:=(.reg 10 false (Zn 33 (.bin .add) 7 1 (Zb 7 33 .nil)))
def q12_b2:IC:=(.seq (.reg 2 false (Zg 8 (.bin .lss) 7 6 .nil)) (.seq (.cond (.t 8) .skip (.exit 0)) (.seq (.blk 1 (.seq (.reg 3 false (Zb 9 7 (Zb 3 9 .nil))) (.seq (.reg 4 false (Zh 10 0 1 (Zc 11 (.ld (.slot 0) (.i .i64)) 10 (xmk 12 0 .nil)))) (.blk 2 (.loop [1,2,3,6,7,11,12] [0,1] [(3,[1,2,6,7],[0,1])] q12_b1))))) q12_p2)))
def q12_p1:IC:=(.seq (.reg 11 false (Zc 34 (.ldAll (.slot 0) 65) 1 (.op none (.stAll (.slot 1) 65) [(.t 2),(.t 34)] .nil))) .ret)
def q12:Fn:={ np:=1,nt:=35,ns:=2,res:=[.all (.slot 1) 2 65],gc:=false,code:=(.seq (.reg 0 false (.box 1 0 (.t 0) (.al 2 1 ([ci0]++Ya 64 (Cell.int .u64 0)) .nil))) (.seq (.seq (.reg 1 false (Zh 5 0 1 (Zc 6 (.ld (.slot 0) (.i .i64)) 5 (xmk 7 0 .nil)))) (.blk 0 (.loop [1,2,6,7] [0,1] [(1,[1,2],[0,1])] q12_b2))) q12_p1)) }
def q14:Fn:={ np:=1,nt:=5,ns:=1,res:=[.t 2 (.i .i64)],gc:=false,code:=(.seq (.reg 0 false (.box 1 0 (.t 0) (xmk 2 0 .nil))) (.seq (.reg 1 false (Zh 3 0 1 (Zc 4 (.ld (.slot 0) (.i .i64)) 3 (Zb 2 4 .nil)))) .ret)) }
def q16:Fn:={ np:=2,nt:=13,ns:=1,res:=[.t 4 .b],gc:=false,code:=(.seq (.reg 0 false (.box 2 0 (.t 0) (.op (some 4) .mov [(.k (.c (.bool false)))] .nil))) (.seq (.reg 1 false (Zb 5 1 (Zn 6 (.bin .geq) 5 0 (Zb 7 6 (.sc 7 true (Zb 8 1 (Zh 9 0 2 (Zc 10 (.ld (.slot 0) (.i .i64)) 9 (Zg 11 (.bin .lss) 8 10 .nil)))) 11 12 false (Zb 4 12 .nil)))))) .ret)) }
def q40_b1:IC:=(.seq (.seq (.reg 6 false (Zb 18 5 (.op (some 19) (.bin .neq) [(.t 18),(.k (.c (.int .u64 0)))] .nil))) (.cond (.t 19) .skip (.exit 2))) (.seq (.blk 3 (.reg 8 false (Zb 24 5 (Zc 25 (.call 38 [(.i .i64)]) 24 (Zb 26 5 (Zc 27 (.call 38 [(.i .i64)]) 26 (Zh 28 1 3 (Zg 29 (.idxA 64 1) 28 27 (Zc 30 (.ld (.slot 2) (.i .u64)) 29 (Zb 31 4 (Zg 32 (.call 18 [(.i .u64)]) 30 31 (Zh 33 1 3 (Zg 34 (.idxA 64 1) 33 25 (.op none (.st (.slot 2)) [(.t 34),(.t 32)] .nil)))))))))))))) (.reg 7 false (Zb 20 5 (Zb 21 5 (.op (some 22) (.bin .sub) [(.t 21),(.k (.c (.int .u64 1)))] (Zg 23 (.bin .and) 20 22 (Zb 5 23 .nil))))))))
def q40_p2:IC:=(.reg 9 false (Zn 35 (.bin .add) 11 1 (Zb 11 35 .nil)))
def q40_b2:IC:=(.seq (.reg 3 false (Zg 12 (.bin .lss) 11 10 .nil)) (.seq (.cond (.t 12) .skip (.exit 0)) (.seq (.blk 1 (.seq (.reg 4 false (Zb 13 11 (Zb 4 13 .nil))) (.seq (.reg 5 false (Zb 14 4 (Zh 15 1 1 (Zg 16 (.idxA 64 1) 15 14 (Zc 17 (.ld (.slot 0) (.i .u64)) 16 (Zb 5 17 .nil)))))) (.blk 2 (.loop [1,2,3,4,5,10,11] [0,1,2] [(3,[1,2,3,10,11],[0,1,2])] q40_b1))))) q40_p2)))
def q40_p1:IC:=(.seq (.reg 10 false (Zc 36 (.ldAll (.slot 2) 65) 3 (.op none (.stAll (.slot 1) 65) [(.t 2),(.t 36)] .nil))) .ret)
def q40:Fn:={ np:=1,nt:=37,ns:=3,res:=[.all (.slot 1) 2 65],gc:=false,code:=(.seq (.reg 0 false (.box 1 0 (.t 0) (.al 2 1 ([ci0]++Ya 64 (Cell.int .u64 0)) .nil))) (.seq (.reg 1 false (Zh 6 0 1 (Zc 7 (.ld (.slot 0) (.i .i64)) 6 (Zc 8 (.call 9 [.agg]) 7 (.al 3 2 ([ci0]++Ya 64 (Cell.int .u64 0)) (.op none (.stAll (.slot 2) 65) [(.t 3),(.t 8)] .nil)))))) (.seq (.seq (.reg 2 false (Zh 9 0 1 (Zc 10 (.ld (.slot 0) (.i .i64)) 9 (xmk 11 0 .nil)))) (.blk 0 (.loop [1,2,3,10,11] [0,1,2] [(1,[2,3],[1,2])] q40_b2))) q40_p1))) }
def q41:Fn:={ np:=2,nt:=13,ns:=1,res:=[.t 4 (.i .u64)],gc:=false,code:=(.seq (.reg 0 false (.box 2 0 (.t 0) (.op (some 4) .mov [(.k (.c (.int .u64 0)))] .nil))) (.seq (.seq (.reg 1 false (Zc 5 (.ldAll (.slot 0) 65) 2 (Zb 6 1 (Zg 7 (.call 16 [.b]) 5 6 (Zc 8 (.un .not) 7 .nil))))) (.cond (.t 8) (.seq (.reg 2 false (.op (some 4) .mov [(.k (.c (.int .u64 0)))] .nil)) .ret) .skip)) (.seq (.reg 3 false (Zb 9 1 (Zh 10 1 2 (Zg 11 (.idxA 64 1) 10 9 (Zc 12 (.ld (.slot 0) (.i .u64)) 11 (Zb 4 12 .nil)))))) .ret))) }
def q17:Fn:={ np:=2,nt:=10,ns:=0,res:=[.t 4 .b],gc:=false,code:=(.seq (.reg 0 false (.op (some 4) .mov [(.k (.c (.bool false)))] .nil)) (.seq (.reg 1 false (Zb 5 0 (Zb 6 1 (Zc 7 (.call 19 [(.i .u64)]) 6 (Zg 8 (.bin .and) 5 7 (.op (some 9) (.bin .neq) [(.t 8),(.k (.c (.int .u64 0)))] (Zb 4 9 .nil))))))) .ret)) }
def q18:Fn:={ np:=2,nt:=9,ns:=0,res:=[.t 4 (.i .u64)],gc:=false,code:=(.seq (.reg 0 false (.op (some 4) .mov [(.k (.c (.int .u64 0)))] .nil)) (.seq (.reg 1 false (Zb 5 0 (Zb 6 1 (Zc 7 (.call 19 [(.i .u64)]) 6 (Zg 8 (.bin .or) 5 7 (Zb 4 8 .nil)))))) .ret)) }
def q19:Fn:={ np:=1,nt:=12,ns:=0,res:=[.t 2 (.i .u64)],gc:=false,code:=(.seq (.reg 0 false (.op (some 2) .mov [(.k (.c (.int .u64 0)))] .nil)) (.seq (.seq (.reg 1 false (Zb 3 0 (Zn 4 (.bin .lss) 3 0 (Zb 5 4 (.sc 5 false (Zb 6 0 (Zn 7 (.bin .geq) 6 64 .nil)) 7 8 true .nil))))) (.cond (.t 8) (.seq (.reg 2 false (.op (some 2) .mov [(.k (.c (.int .u64 0)))] .nil)) .ret) .skip)) (.seq (.reg 3 false (Zb 9 0 (Zc 10 (.conv .u64) 9 (.op (some 11) (.bin .shl) [(.k (.c (.int .u64 1))),(.t 10)] (Zb 2 11 .nil))))) .ret))) }
def q38:Fn:={ np:=1,nt:=7,ns:=0,res:=[.t 2 (.i .i64)],gc:=false,code:=(.seq (.reg 0 false (xmk 2 0 .nil)) (.seq (.seq (.reg 1 false (Zb 3 0 (.op (some 4) (.bin .eql) [(.t 3),(.k (.c (.int .u64 0)))] .nil))) (.cond (.t 4) (.seq (.reg 2 false (xmk 2 (-1) .nil)) .ret) .skip)) (.seq (.reg 3 false (Zb 5 0 (Zc 6 (.call 42 [(.i .i64)]) 5 (Zb 2 6 .nil)))) .ret))) }
structure q19_In (E:Env):Prop where
 fn:E.fn 19=some q19
structure q18_In (E:Env):Prop where
 fn:E.fn 18=some q18
 c19:q19_In E
structure q17_In (E:Env):Prop where
 fn:E.fn 17=some q17
 c19:q19_In E
structure q38_In (E:Env):Prop where
 fn:E.fn 38=some q38
 c42:q42_In E
structure q9_In (E:Env):Prop where
 fn:E.fn 9=some q9
structure q16_In (E:Env):Prop where
 fn:E.fn 16=some q16
structure q10_In (E:Env):Prop where
 fn:E.fn 10=some q10
 c16:q16_In E
 c18:q18_In E
structure q3_In (E:Env):Prop where
 fn:E.fn 3=some q3
 c16:q16_In E
 c17:q17_In E
structure q12_In (E:Env):Prop where
 fn:E.fn 12=some q12
 c17:q17_In E
structure q14_In (E:Env):Prop where
 fn:E.fn 14=some q14
structure q40_In (E:Env):Prop where
 fn:E.fn 40=some q40
 c9:q9_In E
 c18:q18_In E
 c38:q38_In E
structure q41_In (E:Env):Prop where
 fn:E.fn 41=some q41
 c16:q16_In E
structure q109_In (E:Env):Prop where
 fn:E.fn 109=some q109
 c108:q108_In E
structure q88_In (E:Env):Prop where
 fn:E.fn 88=some q88
structure q80_In (E:Env):Prop where
 fn:E.fn 80=some q80
def q303:Fn:={ np:=2,nt:=9,ns:=2,res:=[.t 4 .b],gc:=false,code:=(.seq (.reg 0 false (.box 2 0 (.t 0) (.box 3 1 (.t 1) (.op (some 4) .mov [(.k (.c (.bool false)))] .nil)))) (.seq (.reg 1 false (Zc 5 (.ldAll (.slot 0) 3) 2 (Zc 6 (.ldAll (.slot 1) 3) 3 (Zg 7 (.call 316 [(.i .i64)]) 5 6 (Zn 8 (.bin .eql) 7 0 (Zb 4 8 .nil)))))) .ret)) }
def q316:Fn:={ np:=2,nt:=22,ns:=2,res:=[.t 4 (.i .i64)],gc:=true,code:=(.seq (.reg 0 false (.box 2 0 (.t 0) (.box 3 1 (.t 1) (xmk 4 0 .nil)))) (.seq (.reg 1 true (Zh 5 0 2 (Zc 6 (.ld (.slot 0) .any) 5 (Zh 7 0 3 (Zc 8 (.ld (.slot 1) .any) 7 (.op (some 9) (.qcall 342 [(.i .i64)]) [(.t 6),(.t 8),(.k (.c (.fn 341 [])))] (Zh 10 1 2 (Zc 11 (.ld (.slot 0) .any) 10 (Zh 12 1 3 (Zc 13 (.ld (.slot 1) .any) 12 (Zg 14 (.qcall 343 [(.i .i64)]) 11 13 (Zh 15 2 2 (Zc 16 (.ld (.slot 0) .any) 15 (Zh 17 2 3 (Zc 18 (.ld (.slot 1) .any) 17 (.op (some 19) (.qcall 344 [(.i .i64)]) [(.t 16),(.t 18),(.k (.c (.fn 343 [])))] (.op (some 20) (.bslice 1 3 ([ci0,ci0,ci0]) [(0,1),(1,1),(2,1)]) [(.t 9),(.t 14),(.t 19)] (Zc 21 (.qcall 345 [(.i .i64)]) 20 (Zb 4 21 .nil))))))))))))))))))) .ret)) }
def q341:Fn:={ np:=2,nt:=37,ns:=2,res:=[.t 4 (.i .i64)],gc:=true,code:=(.seq (.reg 0 false (.box 2 0 (.t 0) (.box 3 1 (.t 1) (xmk 4 0 .nil)))) (.seq (.reg 1 true (Zh 5 0 2 (Zc 6 (.ld (.slot 0) (.i .i64)) 5 (Zh 7 0 3 (Zc 8 (.ld (.slot 1) (.i .i64)) 7 (Zg 9 (.qcall 370 [(.i .i64)]) 6 8 (Zh 10 1 2 (Zc 11 (.ld (.slot 0) (.i .i64)) 10 (Zh 12 1 3 (Zc 13 (.ld (.slot 1) (.i .i64)) 12 (Zg 14 (.qcall 370 [(.i .i64)]) 11 13 (Zh 15 2 2 (Zc 16 (.ld (.slot 0) (.i .i64)) 15 (Zh 17 2 3 (Zc 18 (.ld (.slot 1) (.i .i64)) 17 (Zg 19 (.qcall 370 [(.i .i64)]) 16 18 (Zh 20 3 2 (Zc 21 (.ld (.slot 0) (.i .i64)) 20 (Zh 22 3 3 (Zc 23 (.ld (.slot 1) (.i .i64)) 22 (Zg 24 (.qcall 370 [(.i .i64)]) 21 23 (Zh 25 4 2 (Zc 26 (.ld (.slot 0) (.i .i64)) 25 (Zh 27 4 3 (Zc 28 (.ld (.slot 1) (.i .i64)) 27 (Zg 29 (.qcall 371 [(.i .i64)]) 26 28 (Zh 30 5 2 (Zc 31 (.ld (.slot 0) (.i .i64)) 30 (Zh 32 5 3 (Zc 33 (.ld (.slot 1) (.i .i64)) 32 (Zg 34 (.qcall 371 [(.i .i64)]) 31 33 (.op (some 35) (.bslice 1 6 ([ci0,ci0,ci0,ci0,ci0,ci0]) [(0,1),(1,1),(2,1),(3,1),(4,1),(5,1)]) [(.t 9),(.t 14),(.t 19),(.t 24),(.t 29),(.t 34)] (Zc 36 (.qcall 345 [(.i .i64)]) 35 (Zb 4 36 .nil)))))))))))))))))))))))))))))))))) .ret)) }
structure q341_In (E:Env):Prop where
 fn:E.fn 341=some q341
 c345:q345_In E
 c370:q370_In E
 c371:q371_In E
structure q316_In (E:Env):Prop where
 fn:E.fn 316=some q316
 c341:q341_In E
 c342:q342_In E
 c343:q343_In E
 c344:q344_In E
 c345:q345_In E
structure q303_In (E:Env):Prop where
 fn:E.fn 303=some q303
 c316:q316_In E
def q254_b1:IC:=(.seq (.seq (.reg 4 false (Zb 15 9 (Zn 16 (.bin .lss) 15 60 .nil))) (.cond (.t 16) .skip (.exit 0))) (.seq (.blk 1 (.seq (.reg 6 false (Zb 19 7 (Zc 20 (.call 181 [.any]) 19 (Zb 10 20 .nil)))) (.seq (.seq (.reg 7 false (Zb 21 10 (Zc 22 .len 21 (Zn 23 (.bin .eql) 22 0 .nil)))) (.cond (.t 23) (.seq (.reg 8 false (Zb 24 8 (Zb 6 24 .nil))) .ret) .skip)) (.seq (.reg 9 false (Zb 25 9 (Zn 26 (.bin .mul) 25 3 (Zb 11 26 .nil)))) (.seq (.seq (.reg 10 false (Zb 27 9 (Zb 28 2 (Zc 29 .len 28 (Zg 30 (.bin .lss) 27 29 .nil))))) (.cond (.t 30) (.reg 11 false (Zb 31 2 (Zb 32 9 (Zg 33 (.idxS 1) 31 32 (Zc 34 (.ld .heap (.i .i64)) 33 (Zn 35 (.bin .and) 34 65535 (Zb 11 35 .nil))))))) .skip)) (.seq (.reg 12 false (Zb 36 7 (Zb 37 10 (Zb 38 11 (Zb 39 10 (Zc 40 .len 39 (Zg 41 (.bin .rem) 38 40 (Zg 42 (.idxS 1) 37 41 (Zc 43 (.ld .heap (.i .i64)) 42 (Zg 44 (.call 182 [.agg,.b]) 36 43 .nil)))))))))) (.reg 13 false (Zb 45 8 (Zb 46 10 (Zb 47 11 (Zb 48 10 (Zc 49 .len 48 (Zg 50 (.bin .rem) 47 49 (Zg 51 (.idxS 1) 46 50 (Zc 52 (.ld .heap (.i .i64)) 51 (Zc 53 (.lit 1 1 ([ci0]) [(0,1)]) 52 (Zg 54 (.app 1 8) 45 53 (Zb 8 54 .nil)))))))))))))))))) (.reg 5 false (Zb 17 9 (Zn 18 (.bin .add) 17 1 (Zb 9 18 .nil))))))
def q254_p1:IC:=(.seq (.reg 14 false (Zb 55 8 (Zb 6 55 .nil))) .ret)
def q254:Fn:={ np:=3,nt:=56,ns:=1,res:=[.t 6 .any],gc:=false,code:=(.seq (.reg 0 false (.box 3 0 (.t 0) (.op (some 6) .mov [(.k (.c .nils))] .nil))) (.seq (.reg 1 false (Zc 12 (.ldAll (.slot 0) 3) 3 (Zb 13 1 (Zg 14 (.call 180 [.any]) 12 13 (Zb 7 14 .nil))))) (.seq (.reg 2 false (.op (some 8) .mov [(.k (.c .nils))] .nil)) (.seq (.seq (.reg 3 false (xmk 9 0 .nil)) (.blk 0 (.loop [2,7,8,9] [] [(0,[6],[]),(1,[8],[])] q254_b1))) q254_p1)))) }


def q76:Fn:={ np:=2,nt:=9,ns:=1,res:=[.all (.slot 0) 4 3],gc:=false,code:=(.seq (.reg 0 false (.al 4 0 ([Cell.nils,Cell.nils,Cell.nils]) .nil)) (.seq (.reg 1 false (Zb 5 0 (Zb 6 1 (Zg 7 (.call 97 [.agg]) 5 6 (Zc 8 (.call 101 [.agg]) 7 (.op none (.stAll (.slot 0) 3) [(.t 4),(.t 8)] .nil)))))) .ret)) }
def q97_p8:IC:=(.cond (.t 108) (.seq (.reg 35 false (Zb 113 12 (Zb 114 17 (Zb 115 15 (.op (some 116) (.build (Ya 9 ci0) [(0,1),(1,1),(2,1)]) [(.k (.c (.int .i64 2))),(.t 114),(.t 115)] (Zc 117 (.lit 9 1 (Ya 9 ci0) [(0,9)]) 116 (Zg 118 (.app 9 72) 113 117 (Zb 12 118 .nil)))))))) (.reg 36 false (Zb 119 10 (Zn 120 (.bin .add) 119 1 (Zb 10 120 .nil))))) (.seq (.reg 37 false (Zn 122 (.bin .eql) 83 8 (Zb 121 122 .nil))) (.cond (.t 121) (.reg 38 false (Zb 123 12 (.op (some 124) (.build (Ya 9 ci0) [(0,1)]) [(.k (.c (.int .i64 3)))] (Zc 125 (.lit 9 1 (Ya 9 ci0) [(0,9)]) 124 (Zg 126 (.app 9 72) 123 125 (Zb 12 126 .nil)))))) (.seq (.reg 39 false (Zn 128 (.bin .eql) 83 9 (Zb 127 128 .nil))) (.cond (.t 127) (.seq (.reg 40 false (Zb 129 12 (Zb 130 17 (Zb 131 15 (Zc 132 (.ldAll (.slot 2) 2) 16 (.op (some 133) (.build ([ci0,ci0]) [(0,1),(1,1)]) [(.k (.c (.int .i64 (-1)))),(.k (.c (.int .i64 1)))] (.op (some 134) (.build (Ya 9 ci0) [(0,1),(1,1),(2,1),(3,2),(6,2)]) [(.k (.c (.int .i64 4))),(.t 130),(.t 131),(.t 132),(.t 133)] (Zc 135 (.lit 9 1 (Ya 9 ci0) [(0,9)]) 134 (Zg 136 (.app 9 72) 129 135 (Zb 12 136 .nil)))))))))) (.reg 41 false (Zb 137 10 (Zn 138 (.bin .add) 137 1 (Zb 10 138 .nil))))) (.seq (.reg 42 false (Zn 140 (.bin .eql) 83 10 (Zb 139 140 .nil))) (.cond (.t 139) (.reg 43 false (Zb 141 12 (Zb 142 17 (Zc 143 (.ldAll (.slot 2) 2) 16 (.op (some 144) (.build ([ci0,ci0]) [(0,1),(1,1)]) [(.k (.c (.int .i64 (-1)))),(.k (.c (.int .i64 1)))] (.op (some 145) (.build (Ya 9 ci0) [(0,1),(1,1),(3,2),(5,1),(6,2)]) [(.k (.c (.int .i64 5))),(.t 142),(.t 143),(.k (.c (.int .i64 6))),(.t 144)] (Zc 146 (.lit 9 1 (Ya 9 ci0) [(0,9)]) 145 (Zg 147 (.app 9 72) 141 146 (Zb 12 147 .nil))))))))) (.seq (.reg 23 false (Zb 84 12 (Zc 85 (.ldAll (.slot 2) 2) 16 (.op (some 86) (.build ([ci0,ci0]) [(0,1)]) [(.k (.c (.int .i64 (-1))))] (.op (some 87) (.build (Ya 9 ci0) [(0,1),(3,2),(6,2),(8,1)]) [(.k (.c (.int .i64 6))),(.t 85),(.t 86),(.k (.c (.int .i64 1)))] (Zb 88 15 (.op (some 89) (.build ([ci0,ci0]) [(0,1),(1,1)]) [(.k (.c (.int .i64 (-1)))),(.k (.c (.int .i64 2)))] (.op (some 90) (.build (Ya 9 ci0) [(0,1),(2,1),(3,2)]) [(.k (.c (.int .i64 1))),(.t 88),(.t 89)] (Zg 91 (.lit 9 2 (Ya 18 ci0) [(0,9),(9,9)]) 87 90 (Zg 92 (.app 9 72) 84 91 (Zb 12 92 .nil))))))))))) (.reg 24 false (Zb 93 10 (Zn 94 (.bin .add) 93 1 (Zb 10 94 .nil))))))))))))
def q97_p7:IC:=(.cond (.t 95) (.seq (.reg 29 false (Zb 100 12 (Zb 101 15 (Zc 102 (.ldAll (.slot 2) 2) 16 (.op (some 103) (.build (Ya 9 ci0) [(0,1),(2,1),(3,2)]) [(.k (.c (.int .i64 1))),(.t 101),(.t 102)] (Zc 104 (.lit 9 1 (Ya 9 ci0) [(0,9)]) 103 (Zg 105 (.app 9 72) 100 104 (Zb 12 105 .nil)))))))) (.reg 30 false (Zb 106 10 (Zn 107 (.bin .add) 106 1 (Zb 10 107 .nil))))) (.cut [1,4,5,7,8,9,10,11,12,13,15,16,17,83,108] [0,1,2] [] (.seq (.reg 31 false (Zn 109 (.bin .eql) 83 4 (Zb 108 109 .nil))) (.cond (.t 108) .skip (.seq (.reg 32 false (Zn 110 (.bin .eql) 83 5 (Zb 108 110 .nil))) (.cond (.t 108) .skip (.seq (.reg 33 false (Zn 111 (.bin .eql) 83 6 (Zb 108 111 .nil))) (.cond (.t 108) .skip (.reg 34 false (Zn 112 (.bin .eql) 83 7 (Zb 108 112 .nil))))))))) q97_p8))
def q97_p6:IC:=(.seq (.reg 21 false (Zb 79 14 (.op (some 80) (.bin .shr) [(.t 79),(.k (.c (.int .u64 11)))] (Zn 81 (.bin .and) 80 1 (Zb 17 81 .nil))))) (.seq (.reg 22 false (Zb 82 14 (Zn 83 (.bin .rem) 82 12 .nil))) (.blk 4 (.cut [1,4,5,7,8,9,10,11,12,13,15,16,17,83,95] [0,1,2] [] (.seq (.reg 25 false (Zn 96 (.bin .eql) 83 0 (Zb 95 96 .nil))) (.cond (.t 95) .skip (.seq (.reg 26 false (Zn 97 (.bin .eql) 83 1 (Zb 95 97 .nil))) (.cond (.t 95) .skip (.seq (.reg 27 false (Zn 98 (.bin .eql) 83 2 (Zb 95 98 .nil))) (.cond (.t 95) .skip (.reg 28 false (Zn 99 (.bin .eql) 83 3 (Zb 95 99 .nil))))))))) q97_p7))))
def q97_p5:IC:=(.reg 15 false (Zb 58 13 (Zn 59 (.bin .sub) 58 1 (Zb 13 59 .nil))))
def q97_b1:IC:=(.seq (.seq (.reg 14 false (Zb 51 13 (Zn 52 (.bin .gtr) 51 0 (Zb 53 52 (.sc 53 true (Zb 54 10 (Zb 55 1 (Zg 56 (.bin .lss) 54 55 .nil))) 56 57 false .nil))))) (.cond (.t 57) .skip (.exit 2))) (.seq (.blk 3 (.seq (.reg 16 false (Zb 60 7 (Zc 61 (.callv [(.i .i64)]) 60 (Zb 14 61 .nil)))) (.seq (.reg 17 false (Zb 62 14 (.op (some 63) (.bin .shr) [(.t 62),(.k (.c (.int .u64 4)))] (Zb 64 9 (Zg 65 (.bin .rem) 63 64 (.op (some 66) (.bin .add) [(.k (.c (.int .i64 120))),(.t 65)] (Zb 15 66 .nil))))))) (.seq (.reg 18 false (Zb 67 14 (.op (some 68) (.bin .shr) [(.t 67),(.k (.c (.int .u64 6)))] (Zn 69 (.bin .rem) 68 3 (.op (some 70) (.build ([ci0,ci0]) [(0,1),(1,1)]) [(.k (.c (.int .i64 (-1)))),(.t 69)] (.al 16 2 ([ci0,ci0]) (.op none (.stAll (.slot 2) 2) [(.t 16),(.t 70)] .nil))))))) (.cut [1,4,5,7,8,9,10,11,12,13,14,15,16] [0,1,2] [] (.seq (.reg 19 false (Zb 71 14 (.op (some 72) (.bin .shr) [(.t 71),(.k (.c (.int .u64 8)))] (Zn 73 (.bin .rem) 72 3 (Zn 74 (.bin .eql) 73 0 .nil))))) (.cond (.t 74) (.reg 20 false (Zb 75 14 (.op (some 76) (.bin .shr) [(.t 75),(.k (.c (.int .u64 10)))] (Zn 77 (.bin .and) 76 1 (Zc 78 (.build ([ci0,ci0]) [(0,1)]) 77 (.op none (.stAll (.slot 2) 2) [(.t 16),(.t 78)] .nil)))))) .skip)) q97_p6))))) q97_p5))
def q97_p4:IC:=(.reg 44 false (Zh 148 2 5 (Zc 149 (.ld (.slot 1) .any) 148 (Zb 150 12 (Zc 151 (.lit 1 1 ([Cell.nils]) [(0,1)]) 150 (Zg 152 (.app 1 24) 149 151 (Zh 153 2 5 (.op none (.st (.slot 1)) [(.t 153),(.t 152)] .nil))))))))
def q97_p3:IC:=(.reg 11 false (Zb 45 11 (Zn 46 (.bin .add) 45 1 (Zb 11 46 .nil))))
def q97_b2:IC:=(.seq (.seq (.reg 10 false (Zb 42 11 (Zb 43 8 (Zg 44 (.bin .lss) 42 43 .nil)))) (.cond (.t 44) .skip (.exit 0))) (.seq (.blk 1 (.seq (.reg 12 false (.op (some 12) .mov [(.k (.c .nils))] .nil)) (.seq (.seq (.reg 13 false (Zb 47 7 (Zc 48 (.callv [(.i .i64)]) 47 (Zn 49 (.bin .rem) 48 3 (Zn 50 (.bin .add) 49 1 (Zb 13 50 .nil)))))) (.blk 2 (.loop [1,4,5,7,8,9,10,11,12,13] [0,1] [(3,[1,4,5,7,8,9,10,11,12],[0,1])] q97_b1))) q97_p4))) q97_p3))
def q97_p2:IC:=(.seq (.seq (.reg 45 false (Zb 154 7 (Zc 155 (.callv [(.i .i64)]) 154 (Zb 18 155 .nil)))) (.seq (.reg 46 false (Zb 156 18 (Zn 157 (.bin .rem) 156 3 (Zn 158 (.bin .eql) 157 0 .nil)))) (.cond (.t 158) (.reg 47 false (Zb 159 18 (Zn 160 (.bin .quo) 159 3 (Zn 161 (.bin .rem) 160 2 (Zn 162 (.bin .add) 161 1 (Zb 163 18 (.op (some 164) (.bin .shr) [(.t 163),(.k (.c (.int .u64 3)))] (Zn 165 (.bin .and) 164 1 (Zb 166 18 (.op (some 167) (.bin .shr) [(.t 166),(.k (.c (.int .u64 4)))] (Zn 168 (.bin .and) 167 1 (.op (some 169) (.build ([ci0,ci0,ci0,ci0]) [(0,1),(1,1),(3,1)]) [(.k (.c (.int .i64 0))),(.t 165),(.t 168)] (Zc 170 (.bslice 4 1 ([ci0,ci0,ci0,ci0]) [(0,4)]) 169 (Zb 171 18 (.op (some 172) (.bin .shr) [(.t 171),(.k (.c (.int .u64 5)))] (Zn 173 (.bin .rem) 172 3 (.op (some 174) (.build ([ci0,ci0,ci0,ci0]) [(0,1),(2,1),(3,1)]) [(.k (.c (.int .i64 (-1)))),(.k (.c (.int .i64 120))),(.t 173)] (Zb 175 18 (.op (some 176) (.bin .shr) [(.t 175),(.k (.c (.int .u64 7)))] (Zn 177 (.bin .and) 176 1 (.op (some 178) (.build ([ci0,ci0,ci0,ci0]) [(0,1),(1,1),(3,1)]) [(.k (.c (.int .i64 1))),(.k (.c (.int .i64 0))),(.t 177)] (Zg 179 (.bslice 4 2 (Ya 8 ci0) [(0,4),(4,4)]) 174 178 (Zg 180 (.bslice 1 2 ([Cell.nils,Cell.nils]) [(0,1),(1,1)]) 170 179 (Zg 181 (.build ([ci0,Cell.nils]) [(0,1),(1,1)]) 162 180 (Zh 182 3 5 (.op none (.stN (.slot 1) 2) [(.t 182),(.t 181)] .nil)))))))))))))))))))))))))) .skip))) (.seq (.reg 48 false (Zc 183 (.ldAll (.slot 1) 5) 5 (.op none (.stAll (.slot 0) 5) [(.t 4),(.t 183)] .nil))) .ret))
def q97_p1:IC:=(.seq (.reg 8 false (xmk 10 0 .nil)) (.seq (.seq (.reg 9 false (xmk 11 0 .nil)) (.blk 0 (.loop [1,4,5,7,8,9,10,11] [0,1] [(1,[4,5,7],[0,1])] q97_b2))) q97_p2))
def q97:Fn:={ np:=2,nt:=184,ns:=3,res:=[.all (.slot 0) 4 5],gc:=false,code:=(.seq (.reg 0 false (Zc 2 .boxH 0 (.al 4 0 ([Cell.str (ByteArray.mk #[]),Cell.nils,Cell.nils,ci0,Cell.nils]) .nil))) (.seq (.reg 1 false (.op (some 19) (.build ([Cell.str (ByteArray.mk #[]),Cell.nils,Cell.nils,ci0,Cell.nils]) [(0,1)]) [(.k (.c (.str (ByteArray.mk #[116]))))] (.al 5 1 ([Cell.str (ByteArray.mk #[]),Cell.nils,Cell.nils,ci0,Cell.nils]) (.op none (.stAll (.slot 1) 5) [(.t 5),(.t 19)] .nil)))) (.seq (.reg 2 false (.op (some 6) (.allocH ([ci0])) [] (.op none (.st .heap) [(.t 6),(.k (.c (.int .i64 0)))] .nil))) (.seq (.reg 3 false (Zg 20 (.mkfn 115) 6 2 (Zb 7 20 .nil))) (.seq (.reg 4 false (Zb 21 7 (Zc 22 (.callv [(.i .i64)]) 21 (Zn 23 (.bin .rem) 22 2 (Zn 24 (.bin .add) 23 2 (Zb 8 24 .nil)))))) (.seq (.reg 5 false (Zb 25 7 (Zc 26 (.callv [(.i .i64)]) 25 (Zn 27 (.bin .rem) 26 2 (Zn 28 (.bin .add) 27 2 (Zb 9 28 .nil)))))) (.cut [1,4,5,7,8,9] [0,1] [] (.seq (.reg 6 false (Zb 29 7 (Zc 30 (.callv [(.i .i64)]) 29 (Zn 31 (.bin .rem) 30 4 (Zn 32 (.bin .eql) 31 0 .nil))))) (.cond (.t 32) (.reg 7 true (Zh 33 1 5 (Zc 34 (.ld (.slot 1) .any) 33 (Zb 35 7 (Zc 36 (.callv [(.i .i64)]) 35 (Zn 37 (.bin .rem) 36 3 (.op (some 38) (.build ([ci0,ci0]) [(0,1),(1,1)]) [(.k (.c (.int .i64 120))),(.t 37)] (Zc 39 (.lit 2 1 ([ci0,ci0]) [(0,2)]) 38 (Zg 40 (.app 2 16) 34 39 (Zh 41 1 5 (.op none (.st (.slot 1)) [(.t 41),(.t 40)] .nil))))))))))) .skip)) q97_p1))))))) }
def q115:Fn:={ np:=2,nt:=15,ns:=0,res:=[.t 2 (.i .i64)],gc:=false,code:=(.seq (.reg 0 false (xmk 2 0 .nil)) (.seq (.reg 1 false (Zc 3 (.ld .heap (.i .i64)) 0 (Zn 4 (.bin .add) 3 1 (.op none (.st .heap) [(.t 0),(.t 4)] .nil)))) (.seq (.seq (.reg 2 false (Zc 5 (.ld .heap (.i .i64)) 0 (Zc 6 (.ld .heap .any) 1 (Zc 7 .len 6 (Zg 8 (.bin .gtr) 5 7 .nil))))) (.cond (.t 8) (.seq (.reg 3 false (xmk 2 0 .nil)) .ret) .skip)) (.seq (.reg 4 false (Zc 9 (.ld .heap .any) 1 (Zc 10 (.ld .heap (.i .i64)) 0 (Zn 11 (.bin .sub) 10 1 (Zg 12 (.idxS 1) 9 11 (Zc 13 (.ld .heap (.i .i64)) 12 (Zn 14 (.bin .and) 13 65535 (Zb 2 14 .nil)))))))) .ret)))) }
structure q115_In (E:Env):Prop where
 fn:E.fn 115=some q115
structure q97_In (E:Env):Prop where
 fn:E.fn 97=some q97
 c115:q115_In E


def q93:Fn:={ np:=3,nt:=81,ns:=0,res:=[.t 6 (.i .i64),.t 7 .b],gc:=false,code:=(.seq (.reg 0 false (xmk 6 0 (.op (some 7) .mov [(.k (.c (.bool false)))] .nil))) (.seq (.reg 1 false (Zb 10 2 (Zc 11 (.conv .u64) 10 (.op (some 12) (.bin .rem) [(.t 11),(.k (.c (.int .u64 64)))] (Zb 8 12 .nil))))) (.seq (.reg 2 false (.op (some 9) .mov [(.k (.c (.bool false)))] .nil)) (.seq (.seq (.reg 3 false (Zb 13 0 .nil)) (.blk 0 (.seq (.reg 5 false (Zn 15 (.bin .eql) 13 1 (Zb 14 15 .nil))) (.cond (.t 14) (.seq (.reg 6 false (Zb 16 1 (Zc 17 (.conv .u64) 16 (Zb 18 2 (Zc 19 (.conv .u64) 18 (Zg 20 (.bin .add) 17 19 (Zc 21 (.conv .i64) 20 (Zb 6 21 (.op (some 7) .mov [(.k (.c (.bool true)))] .nil))))))))) .ret) (.seq (.reg 7 false (Zn 23 (.bin .eql) 13 2 (Zb 22 23 .nil))) (.cond (.t 22) (.seq (.reg 8 false (Zb 24 1 (Zc 25 (.conv .u64) 24 (Zb 26 2 (Zc 27 (.conv .u64) 26 (Zg 28 (.bin .sub) 25 27 (Zc 29 (.conv .i64) 28 (Zb 6 29 (.op (some 7) .mov [(.k (.c (.bool true)))] .nil))))))))) .ret) (.seq (.reg 9 false (Zn 31 (.bin .eql) 13 3 (Zb 30 31 .nil))) (.cond (.t 30) (.seq (.reg 10 false (Zb 32 1 (Zc 33 (.conv .u64) 32 (Zb 34 2 (Zc 35 (.conv .u64) 34 (Zg 36 (.bin .mul) 33 35 (Zc 37 (.conv .i64) 36 (Zb 6 37 (.op (some 7) .mov [(.k (.c (.bool true)))] .nil))))))))) .ret) (.seq (.reg 11 false (Zn 39 (.bin .eql) 13 4 (Zb 38 39 .nil))) (.cond (.t 38) (.seq (.reg 12 false (Zb 40 1 (Zb 41 2 (Zg 42 (.bin .and) 40 41 (Zb 6 42 (.op (some 7) .mov [(.k (.c (.bool true)))] .nil)))))) .ret) (.seq (.reg 13 false (Zn 44 (.bin .eql) 13 5 (Zb 43 44 .nil))) (.cond (.t 43) (.seq (.reg 14 false (Zb 45 1 (Zb 46 2 (Zg 47 (.bin .or) 45 46 (Zb 6 47 (.op (some 7) .mov [(.k (.c (.bool true)))] .nil)))))) .ret) (.seq (.reg 15 false (Zn 49 (.bin .eql) 13 6 (Zb 48 49 .nil))) (.cond (.t 48) (.seq (.reg 16 false (Zb 50 1 (Zb 51 2 (Zg 52 (.bin .xor) 50 51 (Zb 6 52 (.op (some 7) .mov [(.k (.c (.bool true)))] .nil)))))) .ret) (.seq (.reg 17 false (Zn 54 (.bin .eql) 13 7 (Zb 53 54 .nil))) (.cond (.t 53) (.seq (.reg 18 false (Zb 55 1 (Zc 56 (.conv .u64) 55 (Zb 57 8 (Zg 58 (.bin .shl) 56 57 (Zc 59 (.conv .i64) 58 (Zb 6 59 (.op (some 7) .mov [(.k (.c (.bool true)))] .nil)))))))) .ret) (.seq (.reg 19 false (Zn 61 (.bin .eql) 13 8 (Zb 60 61 .nil))) (.cond (.t 60) (.seq (.reg 20 false (Zb 62 1 (Zb 63 8 (Zg 64 (.bin .shr) 62 63 (Zb 6 64 (.op (some 7) .mov [(.k (.c (.bool true)))] .nil)))))) .ret) (.seq (.reg 21 false (Zn 66 (.bin .eql) 13 9 (Zb 65 66 .nil))) (.cond (.t 65) (.reg 22 false (Zb 67 1 (Zb 68 2 (Zg 69 (.bin .eql) 67 68 (Zb 9 69 .nil))))) (.seq (.reg 23 false (Zn 71 (.bin .eql) 13 10 (Zb 70 71 .nil))) (.cond (.t 70) (.reg 24 false (Zb 72 1 (Zb 73 2 (Zg 74 (.bin .neq) 72 73 (Zb 9 74 .nil))))) (.seq (.reg 25 false (Zn 76 (.bin .eql) 13 11 (Zb 75 76 .nil))) (.cond (.t 75) (.reg 26 false (Zb 77 1 (Zb 78 2 (Zg 79 (.bin .lss) 77 78 (Zb 9 79 .nil))))) (.seq (.reg 4 false (xmk 6 0 (.op (some 7) .mov [(.k (.c (.bool false)))] .nil))) .ret))))))))))))))))))))))))) (.seq (.seq (.reg 27 false (Zb 80 9 .nil)) (.cond (.t 80) (.seq (.reg 28 false (xmk 6 1 (.op (some 7) .mov [(.k (.c (.bool true)))] .nil))) .ret) .skip)) (.seq (.reg 29 false (xmk 6 0 (.op (some 7) .mov [(.k (.c (.bool true)))] .nil))) .ret)))))) }
def q121_b1:IC:=(.seq (.seq (.reg 3 false (Zb 11 4 (Zh 12 1 1 (Zc 13 (.ld (.slot 0) .any) 12 (Zc 14 .len 13 (Zg 15 (.bin .lss) 11 14 .nil)))))) (.cond (.t 15) .skip (.exit 0))) (.seq (.blk 1 (.reg 5 false (Zh 18 1 1 (Zc 19 (.ld (.slot 0) .any) 18 (Zb 20 4 (Zg 21 (.idxS 2) 19 20 (Zh 22 0 21 (Zc 23 (.ld .heap (.i .i64)) 22 (Zn 24 (.bin .and) 23 255 (Zg 25 (.idxA 256 1) 3 24 (.op none (.st (.slot 1)) [(.t 25),(.k (.c (.bool true)))] .nil))))))))))) (.reg 4 false (Zb 16 4 (Zn 17 (.bin .add) 16 1 (Zb 4 17 .nil))))))
def q121_b2:IC:=(.seq (.seq (.reg 10 false (Zb 33 6 (Zh 34 2 1 (Zc 35 (.ld (.slot 0) .any) 34 (Zb 36 5 (Zg 37 (.idxS 1) 35 36 (Zc 38 (.ld .heap .any) 37 (Zc 39 .len 38 (Zg 40 (.bin .lss) 33 39 .nil))))))))) (.cond (.t 40) .skip (.exit 4))) (.seq (.blk 5 (.reg 12 false (Zh 43 2 1 (Zc 44 (.ld (.slot 0) .any) 43 (Zb 45 5 (Zg 46 (.idxS 1) 44 45 (Zc 47 (.ld .heap .any) 46 (Zb 48 6 (Zg 49 (.idxS 9) 47 48 (Zh 50 2 49 (Zc 51 (.ld .heap (.i .i64)) 50 (Zn 52 (.bin .and) 51 255 (Zg 53 (.idxA 256 1) 3 52 (.op none (.st (.slot 1)) [(.t 53),(.k (.c (.bool true)))] .nil)))))))))))))) (.reg 11 false (Zb 41 6 (Zn 42 (.bin .add) 41 1 (Zb 6 42 .nil))))))
def q121_p3:IC:=(.reg 8 false (Zb 31 5 (Zn 32 (.bin .add) 31 1 (Zb 5 32 .nil))))
def q121_b3:IC:=(.seq (.seq (.reg 7 false (Zb 26 5 (Zh 27 2 1 (Zc 28 (.ld (.slot 0) .any) 27 (Zc 29 .len 28 (Zg 30 (.bin .lss) 26 29 .nil)))))) (.cond (.t 30) .skip (.exit 2))) (.seq (.blk 3 (.seq (.reg 9 false (xmk 6 0 .nil)) (.blk 4 (.loop [1,3,5,6] [0,1] [(5,[1,3,5],[0,1])] q121_b2)))) q121_p3))
def q121_b4:IC:=(.seq (.seq (.reg 17 false (Zb 62 8 (Zh 63 3 1 (Zh 64 1 63 (Zc 65 (.ld (.slot 0) .any) 64 (Zb 66 7 (Zg 67 (.idxS 1) 65 66 (Zc 68 (.ld .heap .any) 67 (Zc 69 .len 68 (Zg 70 (.bin .lss) 62 69 .nil)))))))))) (.cond (.t 70) .skip (.exit 8))) (.seq (.blk 9 (.reg 19 false (Zh 73 3 1 (Zh 74 1 73 (Zc 75 (.ld (.slot 0) .any) 74 (Zb 76 7 (Zg 77 (.idxS 1) 75 76 (Zc 78 (.ld .heap .any) 77 (Zb 79 8 (Zg 80 (.idxS 4) 78 79 (Zh 81 2 80 (Zc 82 (.ld .heap (.i .i64)) 81 (Zn 83 (.bin .and) 82 255 (Zg 84 (.idxA 256 1) 3 83 (.op none (.st (.slot 1)) [(.t 84),(.k (.c (.bool true)))] .nil))))))))))))))) (.reg 18 false (Zb 71 8 (Zn 72 (.bin .add) 71 1 (Zb 8 72 .nil))))))
def q121_p5:IC:=(.reg 15 false (Zb 60 7 (Zn 61 (.bin .add) 60 1 (Zb 7 61 .nil))))
def q121_b5:IC:=(.seq (.seq (.reg 14 false (Zb 54 7 (Zh 55 3 1 (Zh 56 1 55 (Zc 57 (.ld (.slot 0) .any) 56 (Zc 58 .len 57 (Zg 59 (.bin .lss) 54 58 .nil))))))) (.cond (.t 59) .skip (.exit 6))) (.seq (.blk 7 (.seq (.reg 16 false (xmk 8 0 .nil)) (.blk 8 (.loop [1,3,7,8] [0,1] [(9,[1,3,7],[0,1])] q121_b4)))) q121_p5))
def q121_b6:IC:=(.seq (.seq (.reg 22 false (Zb 85 10 (.op (some 86) (.bin .leq) [(.t 85),(.k (.c (.int .i32 122)))] .nil))) (.cond (.t 86) .skip (.exit 10))) (.seq (.blk 11 (.seq (.reg 24 false (Zb 89 10 (Zg 90 (.idxA 256 1) 3 89 (Zc 91 (.ld (.slot 1) .b) 90 .nil)))) (.cond (.t 91) (.reg 25 false (Zb 92 9 (Zb 93 10 (Zc 94 (.conv .u8) 93 (Zc 95 (.lit 1 1 ([Cell.int .u8 0]) [(0,1)]) 94 (Zg 96 (.app 1 1) 92 95 (Zb 9 96 .nil))))))) .skip))) (.reg 23 false (Zb 87 10 (.op (some 88) (.bin .add) [(.t 87),(.k (.c (.int .i32 1)))] (Zb 10 88 .nil))))))
def q121_p6:IC:=(.seq (.reg 26 false (Zb 97 9 (Zb 2 97 .nil))) .ret)
def q121_p4:IC:=(.seq (.reg 20 false (.op (some 9) .mov [(.k (.c .nils))] .nil)) (.seq (.seq (.reg 21 false (.op (some 10) .mov [(.k (.c (.int .i32 97)))] .nil)) (.blk 10 (.loop [3,9,10] [1] [(11,[9],[])] q121_b6))) q121_p6))
def q121_p2:IC:=(.seq (.seq (.reg 13 false (xmk 7 0 .nil)) (.blk 6 (.loop [1,3,7] [0,1] [(7,[3],[1])] q121_b5))) q121_p4)
def q121_p1:IC:=(.seq (.seq (.reg 6 false (xmk 5 0 .nil)) (.blk 2 (.loop [1,3,5] [0,1] [(3,[1,3],[0,1])] q121_b3))) q121_p2)
def q121:Fn:={ np:=1,nt:=98,ns:=2,res:=[.t 2 .any],gc:=false,code:=(.seq (.reg 0 false (.box 1 0 (.t 0) (.op (some 2) .mov [(.k (.c .nils))] .nil))) (.seq (.reg 1 false (.al 3 1 (Ya 256 (Cell.bool false)) .nil)) (.seq (.seq (.reg 2 false (xmk 4 0 .nil)) (.blk 0 (.loop [1,3,4] [0,1] [(1,[1,3],[0,1])] q121_b1))) q121_p1))) }
structure q121_In (E:Env):Prop where
 fn:E.fn 121=some q121
structure q93_In (E:Env):Prop where
 fn:E.fn 93=some q93
def q81:Fn:={ np:=3,nt:=49,ns:=4,res:=[.all (.slot 2) 6 9,.t 7 .b],gc:=false,code:=(.seq (.reg 0 false (.box 3 0 (.t 0) (.box 5 1 (.t 2) (.al 6 2 (Ya 9 ci0) (.op (some 7) .mov [(.k (.c (.bool false)))] .nil))))) (.seq (.seq (.reg 1 true (Zc 9 (.ldAll (.slot 0) 3) 3 (Zb 10 1 (Zg 11 (.qcall 110 [.b]) 9 10 (Zc 12 (.un .not) 11 (Zb 13 12 (.sc 13 false (Zh 14 0 5 (Zc 15 (.ld (.slot 1) (.i .i64)) 14 (Zn 16 (.bin .lss) 15 0 .nil))) 16 17 true (Zb 18 17 (.sc 18 false (Zh 19 0 5 (Zc 20 (.ld (.slot 1) (.i .i64)) 19 (Zh 21 2 3 (Zc 22 (.ld (.slot 0) .any) 21 (Zb 23 1 (Zg 24 (.idxS 1) 22 23 (Zc 25 (.ld .heap .any) 24 (Zc 26 .len 25 (Zg 27 (.bin .geq) 20 26 .nil))))))))) 27 28 true .nil))))))))) (.cond (.t 28) (.seq (.reg 2 false (.op (some 29) (.build (Ya 9 ci0) []) [] (.op none (.stAll (.slot 2) 9) [(.t 6),(.t 29)] (.op (some 7) .mov [(.k (.c (.bool false)))] .nil)))) .ret) .skip)) (.seq (.reg 3 true (Zh 30 2 3 (Zc 31 (.ld (.slot 0) .any) 30 (Zb 32 1 (Zg 33 (.idxS 1) 31 32 (Zc 34 (.ld .heap .any) 33 (Zh 35 0 5 (Zc 36 (.ld (.slot 1) (.i .i64)) 35 (Zg 37 (.idxS 9) 34 36 (Zc 38 (.ldN .heap 9) 37 (.al 8 3 (Ya 9 ci0) (.op none (.stAll (.slot 3) 9) [(.t 8),(.t 38)] .nil)))))))))))) (.seq (.seq (.reg 4 false (Zh 39 0 8 (Zc 40 (.ld (.slot 3) (.i .i64)) 39 (Zn 41 (.bin .eql) 40 5 (Zb 42 41 (.sc 42 false (Zh 43 0 8 (Zc 44 (.ld (.slot 3) (.i .i64)) 43 (Zn 45 (.bin .eql) 44 6 .nil))) 45 46 true .nil)))))) (.cond (.t 46) (.seq (.reg 5 false (.op (some 47) (.build (Ya 9 ci0) []) [] (.op none (.stAll (.slot 2) 9) [(.t 6),(.t 47)] (.op (some 7) .mov [(.k (.c (.bool false)))] .nil)))) .ret) .skip)) (.seq (.reg 6 false (Zc 48 (.ldAll (.slot 3) 9) 8 (.op none (.stAll (.slot 2) 9) [(.t 6),(.t 48)] (.op (some 7) .mov [(.k (.c (.bool true)))] .nil)))) .ret))))) }
def q92:Fn:={ np:=2,nt:=20,ns:=2,res:=[.t 4 (.i .i64)],gc:=false,code:=(.seq (.reg 0 false (.box 2 0 (.t 0) (.box 3 1 (.t 1) (xmk 4 0 .nil)))) (.seq (.seq (.reg 1 false (Zh 5 0 2 (Zc 6 (.ld (.slot 0) (.i .i64)) 5 (Zn 7 (.bin .geq) 6 0 (Zb 8 7 (.sc 8 true (Zh 9 0 2 (Zc 10 (.ld (.slot 0) (.i .i64)) 9 (Zn 11 (.bin .leq) 10 3 .nil))) 11 12 false .nil)))))) (.cond (.t 12) (.seq (.reg 2 false (Zh 13 0 2 (Zc 14 (.ld (.slot 0) (.i .i64)) 13 (Zh 15 1 3 (Zg 16 (.idxA 4 1) 15 14 (Zc 17 (.ld (.slot 1) (.i .i64)) 16 (Zb 4 17 .nil))))))) .ret) .skip)) (.seq (.reg 3 false (Zh 18 1 2 (Zc 19 (.ld (.slot 0) (.i .i64)) 18 (Zb 4 19 .nil)))) .ret))) }
def q101_b1:IC:=(.seq (.seq (.reg 7 false (Zb 21 6 (Zh 22 1 1 (Zc 23 (.ld (.slot 0) .any) 22 (Zc 24 .len 23 (Zg 25 (.bin .lss) 21 24 .nil)))))) (.cond (.t 25) .skip (.exit 2))) (.seq (.blk 3 (.seq (.reg 9 true (Zh 28 1 1 (Zc 29 (.ld (.slot 0) .any) 28 (Zb 30 6 (Zg 31 (.idxS 2) 29 30 (Zh 32 0 31 (Zc 33 (.ld .heap (.i .i64)) 32 (Zh 34 0 3 (Zc 35 (.ld (.slot 2) .any) 34 (Zb 36 4 (Zg 37 (.idxS 1) 35 36 (Zc 38 (.ld .heap (.i .u8)) 37 (Zc 39 (.conv .i64) 38 (Zg 40 (.bin .eql) 33 39 .nil)))))))))))))) (.cond (.t 40) (.reg 10 false (Zh 41 1 1 (Zc 42 (.ld (.slot 0) .any) 41 (Zb 43 6 (Zg 44 (.idxS 2) 42 43 (Zh 45 1 44 (Zc 46 (.ld .heap (.i .i64)) 45 (Zb 5 46 .nil)))))))) .skip))) (.reg 8 false (Zb 26 6 (Zn 27 (.bin .add) 26 1 (Zb 6 27 .nil))))))
def q101_p3:IC:=(.reg 11 false (Zh 47 1 3 (Zc 48 (.ld (.slot 2) .any) 47 (Zb 49 5 (Zc 50 (.lit 1 1 ([ci0]) [(0,1)]) 49 (Zg 51 (.app 1 8) 48 50 (Zh 52 1 3 (.op none (.st (.slot 2)) [(.t 52),(.t 51)] .nil))))))))
def q101_p2:IC:=(.reg 4 false (Zb 19 4 (Zn 20 (.bin .add) 19 1 (Zb 4 20 .nil))))
def q101_b2:IC:=(.seq (.seq (.reg 3 false (Zb 14 4 (Zh 15 0 3 (Zc 16 (.ld (.slot 2) .any) 15 (Zc 17 .len 16 (Zg 18 (.bin .lss) 14 17 .nil)))))) (.cond (.t 18) .skip (.exit 0))) (.seq (.blk 1 (.seq (.reg 5 false (xmk 5 0 .nil)) (.seq (.seq (.reg 6 false (xmk 6 0 .nil)) (.blk 2 (.loop [1,2,3,4,5,6] [0,1,2] [(3,[1,2,3,4,5],[0,1,2])] q101_b1))) q101_p3))) q101_p2))
def q101_b3:IC:=(.seq (.seq (.reg 17 false (Zb 60 9 (Zh 61 2 1 (Zc 62 (.ld (.slot 0) .any) 61 (Zb 63 7 (Zg 64 (.idxS 1) 62 63 (Zc 65 (.ld .heap .any) 64 (Zc 66 .len 65 (Zg 67 (.bin .lss) 60 66 .nil))))))))) (.cond (.t 67) .skip (.exit 6))) (.seq (.blk 7 (.seq (.reg 19 false (Zh 70 2 1 (Zc 71 (.ld (.slot 0) .any) 70 (Zb 72 7 (Zg 73 (.idxS 1) 71 72 (Zc 74 (.ld .heap .any) 73 (Zb 75 9 (Zg 76 (.idxS 9) 74 75 (Zc 77 (.ldN .heap 9) 76 (.al 10 3 (Ya 9 ci0) (.op none (.stAll (.slot 3) 9) [(.t 10),(.t 77)] .nil))))))))))) (.seq (.seq (.reg 20 false (Zh 78 2 10 (Zc 79 (.ld (.slot 3) (.i .i64)) 78 (Zn 80 (.bin .neq) 79 0 .nil)))) (.cond (.t 80) (.reg 21 false (Zc 81 (.ldAll (.slot 2) 3) 3 (Zh 82 2 10 (Zc 83 (.ld (.slot 3) (.i .i64)) 82 (Zg 84 (.call 122 [(.i .i64)]) 81 83 (Zh 85 2 10 (.op none (.st (.slot 3)) [(.t 85),(.t 84)] .nil))))))) .skip)) (.reg 22 false (Zb 86 8 (Zc 87 (.ldAll (.slot 3) 9) 10 (Zc 88 (.lit 9 1 (Ya 9 ci0) [(0,9)]) 87 (Zg 89 (.app 9 72) 86 88 (Zb 8 89 .nil))))))))) (.reg 18 false (Zb 68 9 (Zn 69 (.bin .add) 68 1 (Zb 9 69 .nil))))))
def q101_p6:IC:=(.reg 23 false (Zh 90 2 3 (Zc 91 (.ld (.slot 2) .any) 90 (Zb 92 8 (Zc 93 (.lit 1 1 ([Cell.nils]) [(0,1)]) 92 (Zg 94 (.app 1 24) 91 93 (Zh 95 2 3 (.op none (.st (.slot 2)) [(.t 95),(.t 94)] .nil))))))))
def q101_p5:IC:=(.reg 14 false (Zb 58 7 (Zn 59 (.bin .add) 58 1 (Zb 7 59 .nil))))
def q101_b4:IC:=(.seq (.seq (.reg 13 false (Zb 53 7 (Zh 54 2 1 (Zc 55 (.ld (.slot 0) .any) 54 (Zc 56 .len 55 (Zg 57 (.bin .lss) 53 56 .nil)))))) (.cond (.t 57) .skip (.exit 4))) (.seq (.blk 5 (.seq (.reg 15 false (.op (some 8) .mov [(.k (.c .nils))] .nil)) (.seq (.seq (.reg 16 false (xmk 9 0 .nil)) (.blk 6 (.loop [1,2,3,7,8,9] [0,1,2] [(7,[1,2,3,7,8],[0,1,2])] q101_b3))) q101_p6))) q101_p5))
def q101_p4:IC:=(.seq (.reg 24 false (Zc 96 (.ldAll (.slot 2) 3) 3 (.op none (.stAll (.slot 1) 3) [(.t 2),(.t 96)] .nil))) .ret)
def q101_p1:IC:=(.seq (.seq (.reg 12 false (xmk 7 0 .nil)) (.blk 4 (.loop [1,2,3,7] [0,1,2] [(5,[2,3],[1,2])] q101_b4))) q101_p4)
def q101:Fn:={ np:=1,nt:=97,ns:=4,res:=[.all (.slot 1) 2 3],gc:=false,code:=(.seq (.reg 0 false (.box 1 0 (.t 0) (.al 2 1 ([Cell.nils,Cell.nils,Cell.nils]) .nil))) (.seq (.reg 1 false (Zc 11 (.ldAll (.slot 0) 5) 1 (Zc 12 (.call 121 [.any]) 11 (Zc 13 (.build ([Cell.nils,Cell.nils,Cell.nils]) [(0,1)]) 12 (.al 3 2 ([Cell.nils,Cell.nils,Cell.nils]) (.op none (.stAll (.slot 2) 3) [(.t 3),(.t 13)] .nil)))))) (.seq (.seq (.reg 2 false (xmk 4 0 .nil)) (.blk 0 (.loop [1,2,3,4] [0,1,2] [(1,[1,2,3],[0,1,2])] q101_b2))) q101_p1))) }
def q104:Fn:={ np:=2,nt:=14,ns:=2,res:=[.all (.slot 1) 4 5],gc:=false,code:=(.seq (.reg 0 false (.box 2 0 (.t 0) (.al 4 1 ([ci0,ci0,ci0,ci0,ci0]) .nil))) (.seq (.seq (.reg 1 false (Zc 5 (.ldAll (.slot 0) 3) 2 (Zb 6 1 (Zg 7 (.call 110 [.b]) 5 6 (Zc 8 (.un .not) 7 .nil))))) (.cond (.t 8) (.seq (.reg 2 false (.op (some 9) (.build ([ci0,ci0,ci0,ci0,ci0]) []) [] (.op none (.stAll (.slot 1) 5) [(.t 4),(.t 9)] .nil))) .ret) .skip)) (.seq (.reg 3 false (Zc 10 (.ldAll (.slot 0) 3) 2 (Zb 11 1 (.op (some 12) (.build ([ci0,ci0,ci0,ci0,ci0]) []) [] (.op (some 13) (.call 123 [.agg]) [(.t 10),(.t 11),(.t 12)] (.op none (.stAll (.slot 1) 5) [(.t 4),(.t 13)] .nil)))))) .ret))) }
def q107:Fn:={ np:=4,nt:=42,ns:=4,res:=[.all (.slot 2) 8 5],gc:=false,code:=(.seq (.reg 0 false (.box 4 0 (.t 0) (.box 6 1 (.t 2) (.al 8 2 ([ci0,ci0,ci0,ci0,ci0]) .nil)))) (.seq (.reg 1 false (Zc 12 (.ldAll (.slot 0) 3) 4 (Zb 13 1 (Zc 14 (.ldAll (.slot 1) 5) 6 (.op (some 15) (.call 81 [.agg,.b]) [(.t 12),(.t 13),(.t 14)] (Zb 11 15 (Zc 16 (.ext 0) 11 (Zc 17 (.ext 1) 11 (.al 9 3 (Ya 9 ci0) (.op none (.stAll (.slot 3) 9) [(.t 9),(.t 16)] (Zb 10 17 .nil))))))))))) (.seq (.seq (.reg 2 false (Zb 18 10 (Zc 19 (.un .not) 18 .nil))) (.cond (.t 19) (.seq (.reg 3 false (Zc 20 (.ldAll (.slot 1) 5) 6 (.op none (.stAll (.slot 2) 5) [(.t 8),(.t 20)] .nil))) .ret) .skip)) (.seq (.seq (.reg 4 false (Zh 21 0 9 (Zc 22 (.ld (.slot 3) (.i .i64)) 21 (Zn 23 (.bin .eql) 22 2 (Zb 24 23 (.sc 24 false (Zh 25 0 9 (Zc 26 (.ld (.slot 3) (.i .i64)) 25 (Zn 27 (.bin .eql) 26 4 .nil))) 27 28 true .nil)))))) (.cond (.t 28) (.reg 5 false (Zh 29 1 9 (Zc 30 (.ld (.slot 3) (.i .i64)) 29 (Zb 31 3 (Zh 32 1 6 (Zg 33 (.idxA 4 1) 32 30 (.op none (.st (.slot 1)) [(.t 33),(.t 31)] .nil))))))) .skip)) (.seq (.reg 6 false (Zh 34 0 6 (Zc 35 (.ld (.slot 1) (.i .i64)) 34 (Zn 36 (.bin .add) 35 1 (Zh 37 0 6 (.op none (.st (.slot 1)) [(.t 37),(.t 36)] .nil)))))) (.seq (.reg 7 false (Zc 38 (.ldAll (.slot 0) 3) 4 (Zb 39 1 (Zc 40 (.ldAll (.slot 1) 5) 6 (.op (some 41) (.call 123 [.agg]) [(.t 38),(.t 39),(.t 40)] (.op none (.stAll (.slot 2) 5) [(.t 8),(.t 41)] .nil)))))) .ret)))))) }
def q110:Fn:={ np:=2,nt:=14,ns:=1,res:=[.t 4 .b],gc:=false,code:=(.seq (.reg 0 false (.box 2 0 (.t 0) (.op (some 4) .mov [(.k (.c (.bool false)))] .nil))) (.seq (.reg 1 false (Zb 5 1 (Zn 6 (.bin .geq) 5 0 (Zb 7 6 (.sc 7 true (Zb 8 1 (Zh 9 2 2 (Zc 10 (.ld (.slot 0) .any) 9 (Zc 11 .len 10 (Zg 12 (.bin .lss) 8 11 .nil))))) 12 13 false (Zb 4 13 .nil)))))) .ret)) }
def q111:Fn:={ np:=3,nt:=45,ns:=3,res:=[.all (.slot 2) 6 6],gc:=false,code:=(.seq (.reg 0 false (.box 3 0 (.t 0) (.box 4 1 (.t 1) (.al 6 2 ([ci0,ci0,ci0,ci0,ci0,ci0]) .nil)))) (.seq (.seq (.reg 1 false (Zh 7 0 3 (Zc 8 (.ld (.slot 0) (.i .i64)) 7 .nil))) (.blk 0 (.seq (.reg 2 false (Zn 10 (.bin .eql) 8 1 (Zb 9 10 .nil))) (.cond (.t 9) (.seq (.reg 3 true (Zh 11 2 3 (Zc 12 (.ld (.slot 0) (.i .i64)) 11 (Zh 13 3 3 (Zc 14 (.ldN (.slot 0) 2) 13 (Zc 15 (.ldAll (.slot 1) 5) 4 (Zg 16 (.qcall 92 [(.i .i64)]) 14 15 (.op (some 17) (.build ([ci0,ci0,ci0,ci0,ci0,ci0]) [(2,1),(3,1),(5,1)]) [(.k (.c (.int .i64 2))),(.t 12),(.t 16)] (.op none (.stAll (.slot 2) 6) [(.t 6),(.t 17)] .nil))))))))) .ret) (.seq (.reg 4 false (Zn 19 (.bin .eql) 8 2 (Zb 18 19 .nil))) (.cond (.t 18) (.seq (.reg 5 false (Zh 20 2 3 (Zc 21 (.ld (.slot 0) (.i .i64)) 20 (Zb 22 2 (.op (some 23) (.build ([ci0,ci0,ci0,ci0,ci0,ci0]) [(2,1),(3,1),(4,1)]) [(.k (.c (.int .i64 1))),(.t 21),(.t 22)] (.op none (.stAll (.slot 2) 6) [(.t 6),(.t 23)] .nil)))))) .ret) (.seq (.reg 6 false (Zn 25 (.bin .eql) 8 4 (Zb 24 25 .nil))) (.cond (.t 24) (.seq (.seq (.reg 7 false (Zb 26 2 (Zh 27 3 3 (Zc 28 (.ldN (.slot 0) 2) 27 (Zc 29 (.ldAll (.slot 1) 5) 4 (Zg 30 (.call 92 [(.i .i64)]) 28 29 (Zg 31 (.bin .eql) 26 30 .nil))))))) (.cond (.t 31) (.seq (.reg 8 true (Zh 32 2 3 (Zc 33 (.ld (.slot 0) (.i .i64)) 32 (Zb 34 2 (Zh 35 6 3 (Zc 36 (.ldN (.slot 0) 2) 35 (Zc 37 (.ldAll (.slot 1) 5) 4 (Zg 38 (.qcall 92 [(.i .i64)]) 36 37 (.op (some 39) (.build ([ci0,ci0,ci0,ci0,ci0,ci0]) [(2,1),(3,1),(4,1),(5,1)]) [(.k (.c (.int .i64 4))),(.t 33),(.t 34),(.t 38)] (.op none (.stAll (.slot 2) 6) [(.t 6),(.t 39)] .nil)))))))))) .ret) .skip)) (.seq (.reg 9 false (Zh 40 2 3 (Zc 41 (.ld (.slot 0) (.i .i64)) 40 (Zb 42 2 (.op (some 43) (.build ([ci0,ci0,ci0,ci0,ci0,ci0]) [(2,1),(3,1),(4,1)]) [(.k (.c (.int .i64 5))),(.t 41),(.t 42)] (.op none (.stAll (.slot 2) 6) [(.t 6),(.t 43)] .nil)))))) .ret)) .skip)))))))) (.seq (.reg 10 false (.op (some 44) (.build ([ci0,ci0,ci0,ci0,ci0,ci0]) [(2,1)]) [(.k (.c (.int .i64 3)))] (.op none (.stAll (.slot 2) 6) [(.t 6),(.t 44)] .nil))) .ret))) }
def q122_b1:IC:=(.seq (.seq (.reg 2 false (Zb 6 5 (Zh 7 0 2 (Zc 8 (.ld (.slot 0) .any) 7 (Zc 9 .len 8 (Zg 10 (.bin .lss) 6 9 .nil)))))) (.cond (.t 10) .skip (.exit 0))) (.seq (.blk 1 (.seq (.reg 4 false (Zh 13 0 2 (Zc 14 (.ld (.slot 0) .any) 13 (Zb 15 5 (Zg 16 (.idxS 1) 14 15 (Zc 17 (.ld .heap (.i .u8)) 16 (Zc 18 (.conv .i64) 17 (Zb 19 1 (Zg 20 (.bin .eql) 18 19 .nil))))))))) (.cond (.t 20) (.seq (.reg 5 false (Zb 21 5 (Zb 4 21 .nil))) .ret) .skip))) (.reg 3 false (Zb 11 5 (Zn 12 (.bin .add) 11 1 (Zb 5 12 .nil))))))
def q122_p1:IC:=(.seq (.reg 6 false (xmk 4 (-1) .nil)) .ret)
def q122:Fn:={ np:=2,nt:=22,ns:=1,res:=[.t 4 (.i .i64)],gc:=false,code:=(.seq (.reg 0 false (.box 2 0 (.t 0) (xmk 4 0 .nil))) (.seq (.seq (.reg 1 false (xmk 5 0 .nil)) (.blk 0 (.loop [1,2,5] [0] [(0,[4],[]),(1,[],[])] q122_b1))) q122_p1)) }
def q123_b1:IC:=(.seq (.seq (.reg 1 true (Zh 9 0 5 (Zc 10 (.ld (.slot 1) (.i .i64)) 9 (Zh 11 2 3 (Zc 12 (.ld (.slot 0) .any) 11 (Zb 13 1 (Zg 14 (.idxS 1) 12 13 (Zc 15 (.ld .heap .any) 14 (Zc 16 .len 15 (Zg 17 (.bin .lss) 10 16 .nil)))))))))) (.cond (.t 17) .skip (.exit 0))) (.blk 1 (.seq (.reg 2 true (Zh 18 2 3 (Zc 19 (.ld (.slot 0) .any) 18 (Zb 20 1 (Zg 21 (.idxS 1) 19 20 (Zc 22 (.ld .heap .any) 21 (Zh 23 0 5 (Zc 24 (.ld (.slot 1) (.i .i64)) 23 (Zg 25 (.idxS 9) 22 24 (Zc 26 (.ldN .heap 9) 25 (.al 7 3 (Ya 9 ci0) (.op none (.stAll (.slot 3) 9) [(.t 7),(.t 26)] .nil)))))))))))) (.seq (.reg 3 false (Zh 27 0 7 (Zc 28 (.ld (.slot 3) (.i .i64)) 27 .nil))) (.blk 2 (.seq (.reg 5 false (Zn 31 (.bin .eql) 28 5 (Zb 30 31 .nil))) (.cond (.t 30) (.seq (.reg 6 false (Zh 32 3 7 (Zc 33 (.ldN (.slot 3) 2) 32 (Zc 34 (.ldAll (.slot 1) 5) 5 (Zg 35 (.call 92 [(.i .i64)]) 33 34 (Zb 8 35 .nil)))))) (.seq (.seq (.reg 7 false (Zh 36 5 7 (Zc 37 (.ld (.slot 3) (.i .i64)) 36 (Zn 38 (.bin .neq) 37 0 .nil)))) (.cond (.t 38) (.reg 8 true (Zh 40 5 7 (Zc 41 (.ld (.slot 3) (.i .i64)) 40 (Zb 42 8 (Zh 43 6 7 (Zc 44 (.ldN (.slot 3) 2) 43 (Zc 45 (.ldAll (.slot 1) 5) 5 (Zg 46 (.qcall 92 [(.i .i64)]) 44 45 (.op (some 47) (.qcall 93 [(.i .i64),.b]) [(.t 41),(.t 42),(.t 46)] (Zb 39 47 (Zc 48 (.ext 0) 39 (Zc 49 (.ext 1) 39 (Zb 8 48 .nil))))))))))))) .skip)) (.seq (.reg 9 false (Zh 50 1 7 (Zc 51 (.ld (.slot 3) (.i .i64)) 50 (Zb 52 8 (Zh 53 1 5 (Zg 54 (.idxA 4 1) 53 51 (.op none (.st (.slot 1)) [(.t 54),(.t 52)] .nil))))))) (.reg 10 false (Zh 55 0 5 (Zc 56 (.ld (.slot 1) (.i .i64)) 55 (Zn 57 (.bin .add) 56 1 (Zh 58 0 5 (.op none (.st (.slot 1)) [(.t 58),(.t 57)] .nil))))))))) (.seq (.reg 11 false (Zn 60 (.bin .eql) 28 6 (Zb 59 60 .nil))) (.cond (.t 59) (.seq (.seq (.reg 12 true (Zh 61 3 7 (Zc 62 (.ldN (.slot 3) 2) 61 (Zc 63 (.ldAll (.slot 1) 5) 5 (Zg 64 (.qcall 92 [(.i .i64)]) 62 63 (Zh 65 6 7 (Zc 66 (.ldN (.slot 3) 2) 65 (Zc 67 (.ldAll (.slot 1) 5) 5 (Zg 68 (.qcall 92 [(.i .i64)]) 66 67 (Zg 69 (.bin .eql) 64 68 .nil)))))))))) (.cond (.t 69) (.reg 13 false (Zh 70 0 5 (Zc 71 (.ld (.slot 1) (.i .i64)) 70 (Zh 72 8 7 (Zc 73 (.ld (.slot 3) (.i .i64)) 72 (Zg 74 (.bin .add) 71 73 (Zh 75 0 5 (.op none (.st (.slot 1)) [(.t 75),(.t 74)] .nil)))))))) .skip)) (.reg 14 false (Zh 76 0 5 (Zc 77 (.ld (.slot 1) (.i .i64)) 76 (Zn 78 (.bin .add) 77 1 (Zh 79 0 5 (.op none (.st (.slot 1)) [(.t 79),(.t 78)] .nil))))))) (.seq (.reg 4 false (Zc 29 (.ldAll (.slot 1) 5) 5 (.op none (.stAll (.slot 2) 5) [(.t 6),(.t 29)] .nil))) .ret))))))))))
def q123_p1:IC:=(.seq (.reg 15 false (Zc 80 (.ldAll (.slot 1) 5) 5 (.op none (.stAll (.slot 2) 5) [(.t 6),(.t 80)] .nil))) .ret)
def q123:Fn:={ np:=3,nt:=81,ns:=4,res:=[.all (.slot 2) 6 5],gc:=false,code:=(.seq (.reg 0 false (.box 3 0 (.t 0) (.box 5 1 (.t 2) (.al 6 2 ([ci0,ci0,ci0,ci0,ci0]) .nil)))) (.seq (.blk 0 (.loop [1,3,5,6] [0,1,2] [(0,[6],[2]),(1,[5,6],[1,2])] q123_b1)) q123_p1)) }
structure q122_In (E:Env):Prop where
 fn:E.fn 122=some q122
structure q101_In (E:Env):Prop where
 fn:E.fn 101=some q101
 c121:q121_In E
 c122:q122_In E
structure q110_In (E:Env):Prop where
 fn:E.fn 110=some q110
structure q81_In (E:Env):Prop where
 fn:E.fn 81=some q81
 c110:q110_In E
structure q92_In (E:Env):Prop where
 fn:E.fn 92=some q92
structure q123_In (E:Env):Prop where
 fn:E.fn 123=some q123
 c92:q92_In E
 c93:q93_In E
structure q104_In (E:Env):Prop where
 fn:E.fn 104=some q104
 c110:q110_In E
 c123:q123_In E
structure q107_In (E:Env):Prop where
 fn:E.fn 107=some q107
 c81:q81_In E
 c123:q123_In E
structure q111_In (E:Env):Prop where
 fn:E.fn 111=some q111
 c92:q92_In E
structure q76_In (E:Env):Prop where
 fn:E.fn 76=some q76
 c97:q97_In E
 c101:q101_In E
def q180_b1:IC:=(.seq (.seq (.reg 3 false (Zb 13 6 (Zh 14 1 2 (Zc 15 (.ld (.slot 0) .any) 14 (Zc 16 .len 15 (Zg 17 (.bin .lss) 13 16 .nil)))))) (.cond (.t 17) .skip (.exit 0))) (.seq (.blk 1 (.reg 5 true (Zb 20 5 (Zb 21 6 (Zh 22 1 2 (Zc 23 (.ld (.slot 0) .any) 22 (Zb 24 6 (Zg 25 (.idxS 1) 23 24 (Zc 26 (.ld .heap (.i .i64)) 25 (Zc 27 .nilchk 20 (Zh 28 4 27 (Zg 29 (.idxA 4 1) 28 21 (.op none (.st .heap) [(.t 29),(.t 26)] .nil))))))))))))) (.reg 4 false (Zb 18 6 (Zn 19 (.bin .add) 18 1 (Zb 6 19 .nil))))))
def q180_b2:IC:=(.seq (.seq (.reg 7 false (Zb 30 7 (Zh 31 2 2 (Zc 32 (.ld (.slot 0) .any) 31 (Zc 33 .len 32 (Zg 34 (.bin .lss) 30 33 .nil)))))) (.cond (.t 34) .skip (.exit 2))) (.seq (.blk 3 (.reg 9 true (Zb 37 5 (Zb 38 7 (Zc 39 (.ldAll (.slot 0) 3) 2 (Zb 40 7 (Zg 41 (.qcall 104 [.agg]) 39 40 (Zc 42 .nilchk 37 (Zh 43 12 42 (Zg 44 (.idxA 4 5) 43 38 (.op none (.stN .heap 5) [(.t 44),(.t 41)] .nil))))))))))) (.reg 8 false (Zb 35 7 (Zn 36 (.bin .add) 35 1 (Zb 7 36 .nil))))))
def q180_p2:IC:=(.seq (.reg 10 false (Zb 45 5 (Zb 4 45 .nil))) .ret)
def q180_p1:IC:=(.seq (.seq (.reg 6 false (xmk 7 0 .nil)) (.blk 2 (.loop [2,5,7] [0] [(3,[5],[])] q180_b2))) q180_p2)
def q180:Fn:={ np:=2,nt:=46,ns:=1,res:=[.t 4 .any],gc:=false,code:=(.seq (.reg 0 false (.box 2 0 (.t 0) (.op (some 4) .mov [(.k (.c .nilp))] .nil))) (.seq (.reg 1 false (Zc 8 (.ldAll (.slot 0) 3) 2 (Zb 9 1 (.op (some 10) (.build ([ci0,ci0,ci0,ci0]) [(0,1),(1,1),(2,1),(3,1)]) [(.k (.c (.int .i64 (-1)))),(.k (.c (.int .i64 (-1)))),(.k (.c (.int .i64 (-1)))),(.k (.c (.int .i64 (-1))))] (.op (some 11) (.build ([Cell.nils,Cell.nils,Cell.nils]++Ya 29 ci0++Ya 5 (Cell.nils)) [(0,3),(3,1),(8,4)]) [(.t 8),(.t 9),(.t 10)] (Zc 12 .boxH 11 (Zb 5 12 .nil))))))) (.seq (.seq (.reg 2 false (xmk 6 0 .nil)) (.blk 0 (.loop [2,5,6] [0] [(1,[2,5],[0])] q180_b1))) q180_p1))) }
def q181_b1:IC:=(.seq (.seq (.reg 3 false (Zb 5 4 (Zn 6 (.bin .lss) 5 24 .nil))) (.cond (.t 6) .skip (.exit 0))) (.seq (.blk 1 (.seq (.reg 5 false (Zb 9 0 (Zb 10 4 (Zg 11 (.call 196 [.b]) 9 10 .nil)))) (.cond (.t 11) (.reg 6 false (Zb 12 3 (Zb 13 4 (Zc 14 (.lit 1 1 ([ci0]) [(0,1)]) 13 (Zg 15 (.app 1 8) 12 14 (Zb 3 15 .nil)))))) .skip))) (.reg 4 false (Zb 7 4 (Zn 8 (.bin .add) 7 1 (Zb 4 8 .nil))))))
def q181_p1:IC:=(.seq (.reg 7 false (Zb 16 3 (Zb 2 16 .nil))) .ret)
def q181:Fn:={ np:=1,nt:=17,ns:=0,res:=[.t 2 .any],gc:=false,code:=(.seq (.reg 0 false (.op (some 2) .mov [(.k (.c .nils))] .nil)) (.seq (.reg 1 false (.op (some 3) .mov [(.k (.c .nils))] .nil)) (.seq (.seq (.reg 2 false (xmk 4 0 .nil)) (.blk 0 (.loop [0,3,4] [] [(1,[3],[])] q181_b1))) q181_p1))) }
def q182_p10:IC:=(.seq (.reg 12 true (Zb 105 0 (Zb 106 0 (Zc 107 .nilchk 106 (Zh 108 36 107 (Zc 109 (.ld .heap .any) 108 (Zc 110 (.ldAll (.slot 1) 7) 7 (Zc 111 (.lit 7 1 (Ya 7 ci0) [(0,7)]) 110 (Zg 112 (.app 7 56) 109 111 (Zc 113 .nilchk 105 (Zh 114 36 113 (.op none (.st .heap) [(.t 114),(.t 112)] .nil)))))))))))) (.seq (.reg 13 false (Zc 115 (.ldAll (.slot 1) 7) 7 (.op none (.stAll (.slot 0) 7) [(.t 4),(.t 115)] (.op (some 5) .mov [(.k (.c (.bool true)))] .nil)))) .ret))
def q182_p9:IC:=(.cut [0,4,7] [0,1] [] (.reg 11 true (Zb 93 8 (Zh 94 0 12 (Zc 95 (.ld (.slot 2) (.i .i64)) 94 (Zh 96 1 12 (Zc 97 (.ld (.slot 2) (.i .i64)) 96 (Zh 98 2 12 (Zc 99 (.ld (.slot 2) (.i .i64)) 98 (Zh 100 1 7 (.op none (.st (.slot 1)) [(.t 100),(.t 93)] (Zh 101 2 7 (.op none (.st (.slot 1)) [(.t 101),(.k (.c (.int .i64 6)))] (Zh 102 3 7 (.op none (.st (.slot 1)) [(.t 102),(.t 95)] (Zh 103 5 7 (.op none (.st (.slot 1)) [(.t 103),(.t 97)] (Zh 104 6 7 (.op none (.st (.slot 1)) [(.t 104),(.t 99)] .nil)))))))))))))))))) q182_p10)
def q182_p8:IC:=(.cut [0,4,7,8,12] [0,1,2] [] (.reg 10 true (Zb 77 0 (Zh 78 0 12 (Zc 79 (.ld (.slot 2) (.i .i64)) 78 (Zb 80 0 (Zh 81 0 12 (Zc 82 (.ld (.slot 2) (.i .i64)) 81 (Zh 83 1 12 (Zc 84 (.ld (.slot 2) (.i .i64)) 83 (Zh 85 2 12 (Zc 86 (.ld (.slot 2) (.i .i64)) 85 (Zc 87 .nilchk 77 (Zh 88 4 87 (Zg 89 (.idxA 4 1) 88 79 (.op none (.st .heap) [(.t 89),(.t 84)] (Zc 90 .nilchk 80 (Zh 91 8 90 (Zg 92 (.idxA 4 1) 91 82 (.op none (.st .heap) [(.t 92),(.t 86)] .nil))))))))))))))))))) q182_p9)
def q182_p7:IC:=(.cut [0,4,7,8,12] [0,1,2] [] (.reg 9 true (Zb 52 0 (Zb 53 8 (.op (some 54) (.bslice 3 0 (([]:List Cell)) []) [] (Zb 55 0 (Zb 56 8 (Zc 57 .nilchk 55 (Zh 58 32 57 (Zg 59 (.idxA 4 1) 58 56 (Zc 60 (.ld0 .any) 59 (Zb 61 11 (Zg 62 (.slc 3 false true) 60 61 (Zg 63 (.app 3 24) 54 62 (Zb 64 0 (Zb 65 8 (Zc 66 .nilchk 64 (Zh 67 32 66 (Zg 68 (.idxA 4 1) 67 65 (Zc 69 (.ld0 .any) 68 (Zb 70 11 (Zn 71 (.bin .add) 70 1 (Zg 72 (.slc 3 true false) 69 71 (Zg 73 (.app 3 24) 63 72 (Zc 74 .nilchk 52 (Zh 75 32 74 (Zg 76 (.idxA 4 1) 75 53 (.op none (.st .heap) [(.t 76),(.t 73)] .nil))))))))))))))))))))))))))) q182_p8)
def q182_p6:IC:=(.cut [0,4,7,8,11,12] [0,1,2] [] (.reg 8 false (Zb 43 0 (Zb 44 8 (Zc 45 .nilchk 43 (Zh 46 32 45 (Zg 47 (.idxA 4 1) 46 44 (Zc 48 (.ld .heap .any) 47 (Zb 49 11 (Zg 50 (.idxS 3) 48 49 (Zc 51 (.ldN .heap 3) 50 (.al 12 2 ([ci0,ci0,ci0]) (.op none (.stAll (.slot 2) 3) [(.t 12),(.t 51)] .nil)))))))))))) q182_p7)
def q182_p5:IC:=(.seq (.reg 6 false (Zb 38 10 .nil)) (.cond (.t 38) (.cut [0,4,7,8,11] [0,1] [] (.reg 7 false (Zb 39 0 (Zb 40 8 (Zb 41 9 (.op (some 42) (.call 198 [(.i .i64)]) [(.t 39),(.t 40),(.t 41)] (Zb 11 42 .nil)))))) q182_p6) .skip))
def q182_p17:IC:=(.cond (.t 177) (.reg 22 true (Zb 178 0 (Zb 179 1 (Zc 180 .nilchk 178 (Zh 181 32 180 (Zg 182 (.idxA 4 1) 181 179 (Zc 183 (.ld .heap .any) 182 (Zb 184 16 (Zg 185 (.idxS 3) 183 184 (Zh 186 1 185 (Zc 187 (.ld .heap (.i .i64)) 186 (Zb 188 0 (Zb 189 1 (Zc 190 .nilchk 188 (Zh 191 32 190 (Zg 192 (.idxA 4 1) 191 189 (Zc 193 (.ld .heap .any) 192 (Zb 194 16 (Zg 195 (.idxS 3) 193 194 (Zh 196 2 195 (Zc 197 (.ld .heap (.i .i64)) 196 (Zb 15 187 (Zh 198 6 7 (.op none (.st (.slot 1)) [(.t 198),(.t 197)] .nil)))))))))))))))))))))))) .skip)
def q182_p16:IC:=(.reg 20 false (Zb 163 16 (Zn 164 (.bin .add) 163 1 (Zb 16 164 .nil))))
def q182_p15:IC:=(.seq (.blk 1 (.cut [0,1,4,6,7,13,15,16,177] [0,1,3] [] (.reg 21 true (Zb 165 0 (Zb 166 1 (Zc 167 .nilchk 165 (Zh 168 32 167 (Zg 169 (.idxA 4 1) 168 166 (Zc 170 (.ld .heap .any) 169 (Zb 171 16 (Zg 172 (.idxS 3) 170 171 (Zh 173 0 172 (Zc 174 (.ld .heap (.i .i64)) 173 (Zh 175 2 13 (Zc 176 (.ld (.slot 3) (.i .i64)) 175 (Zg 177 (.bin .eql) 174 176 .nil)))))))))))))) q182_p17)) q182_p16)
def q182_b1:IC:=(.cut [0,1,4,6,7,13,15,16] [0,1,3] [(1,[0,1,4,6,7,13,15],[0,1,3])] (.seq (.reg 19 false (Zb 154 16 (Zb 155 0 (Zb 156 1 (Zc 157 .nilchk 155 (Zh 158 32 157 (Zg 159 (.idxA 4 1) 158 156 (Zc 160 (.ld .heap .any) 159 (Zc 161 .len 160 (Zg 162 (.bin .lss) 154 161 .nil)))))))))) (.cond (.t 162) .skip (.exit 0))) q182_p15)
def q182_p14:IC:=(.seq (.reg 18 false (xmk 16 0 .nil)) (.blk 0 (.loop [0,1,4,6,7,13,15,16] [0,1,3] [(1,[0,1,4,6,7,13,15],[0,1,3])] q182_b1)))
def q182_p13:IC:=(.cond (.t 138) (.cut [0,1,4,6,7,13,15] [0,1,3] [] (.reg 17 true (Zb 139 0 (Zh 140 2 13 (Zc 141 (.ld (.slot 3) (.i .i64)) 140 (Zc 142 .nilchk 139 (Zh 143 4 142 (Zg 144 (.idxA 4 1) 143 141 (Zc 145 (.ld .heap (.i .i64)) 144 (Zb 146 0 (Zh 147 2 13 (Zc 148 (.ld (.slot 3) (.i .i64)) 147 (Zc 149 .nilchk 146 (Zh 150 8 149 (Zg 151 (.idxA 4 1) 150 148 (Zc 152 (.ld .heap (.i .i64)) 151 (Zb 15 145 (Zh 153 6 7 (.op none (.st (.slot 1)) [(.t 153),(.t 152)] .nil)))))))))))))))))) q182_p14) .skip)
def q182_p22:IC:=(.cond (.t 251) (.reg 28 true (Zb 255 0 (Zb 256 1 (.op (some 257) (.bslice 3 0 (([]:List Cell)) []) [] (Zb 258 0 (Zb 259 1 (Zc 260 .nilchk 258 (Zh 261 32 260 (Zg 262 (.idxA 4 1) 261 259 (Zc 263 (.ld0 .any) 262 (Zg 264 (.app 3 24) 257 263 (Zh 265 3 17 (Zc 266 (.ld (.slot 4) (.i .i64)) 265 (Zh 267 5 17 (Zc 268 (.ld (.slot 4) (.i .i64)) 267 (Zb 269 6 (.op (some 270) (.build ([ci0,ci0,ci0]) [(0,1),(1,1),(2,1)]) [(.t 266),(.t 268),(.t 269)] (Zc 271 (.lit 3 1 ([ci0,ci0,ci0]) [(0,3)]) 270 (Zg 272 (.app 3 24) 264 271 (Zc 273 .nilchk 255 (Zh 274 32 273 (Zg 275 (.idxA 4 1) 274 256 (.op none (.st .heap) [(.t 275),(.t 272)] .nil))))))))))))))))))))))) .skip)
def q182_p21:IC:=(.cond (.t 220) (.reg 26 true (Zb 236 0 (Zh 237 3 17 (Zc 238 (.ld (.slot 4) (.i .i64)) 237 (Zb 239 0 (Zh 240 3 17 (Zc 241 (.ld (.slot 4) (.i .i64)) 240 (Zh 242 5 17 (Zc 243 (.ld (.slot 4) (.i .i64)) 242 (Zb 244 6 (Zc 245 .nilchk 236 (Zh 246 4 245 (Zg 247 (.idxA 4 1) 246 238 (.op none (.st .heap) [(.t 247),(.t 243)] (Zc 248 .nilchk 239 (Zh 249 8 248 (Zg 250 (.idxA 4 1) 249 241 (.op none (.st .heap) [(.t 250),(.t 244)] .nil)))))))))))))))))) (.cut [0,1,4,6,7,15,17,251] [0,1,4] [] (.reg 27 false (Zh 252 2 17 (Zc 253 (.ld (.slot 4) (.i .i64)) 252 (Zn 254 (.bin .eql) 253 2 (Zb 251 254 .nil))))) q182_p22))
def q182_p23:IC:=(.seq (.reg 30 true (Zb 294 0 (Zb 295 0 (Zc 296 .nilchk 295 (Zh 297 36 296 (Zc 298 (.ld .heap .any) 297 (Zc 299 (.ldAll (.slot 1) 7) 7 (Zc 300 (.lit 7 1 (Ya 7 ci0) [(0,7)]) 299 (Zg 301 (.app 7 56) 298 300 (Zc 302 .nilchk 294 (Zh 303 36 302 (.op none (.st .heap) [(.t 303),(.t 301)] .nil)))))))))))) (.seq (.reg 31 false (Zc 304 (.ldAll (.slot 1) 7) 7 (.op none (.stAll (.slot 0) 7) [(.t 4),(.t 304)] (.op (some 5) .mov [(.k (.c (.bool true)))] .nil)))) .ret))
def q182_p20:IC:=(.cut [0,4,7] [0,1] [] (.reg 29 true (Zb 276 0 (Zb 277 1 (Zb 278 0 (Zc 279 .nilchk 278 (Zh 280 0 279 (Zc 281 (.ldN .heap 3) 280 (Zb 282 1 (Zb 283 0 (Zb 284 1 (Zc 285 .nilchk 283 (Zh 286 12 285 (Zg 287 (.idxA 4 5) 286 284 (Zc 288 (.ldN .heap 5) 287 (Zb 289 15 (.op (some 290) (.qcall 107 [.agg]) [(.t 281),(.t 282),(.t 288),(.t 289)] (Zc 291 .nilchk 276 (Zh 292 12 291 (Zg 293 (.idxA 4 5) 292 277 (.op none (.stN .heap 5) [(.t 293),(.t 290)] .nil)))))))))))))))))))) q182_p23)
def q182_p19:IC:=(.cut [0,1,4,7,15] [0,1] [] (.blk 2 (.cut [0,1,4,6,7,15,17,220] [0,1,4] [] (.reg 25 false (Zh 221 2 17 (Zc 222 (.ld (.slot 4) (.i .i64)) 221 (Zn 223 (.bin .eql) 222 4 (Zb 224 223 (.sc 224 false (Zh 225 2 17 (Zc 226 (.ld (.slot 4) (.i .i64)) 225 (Zn 227 (.bin .eql) 226 2 (Zb 228 227 (.sc 228 true (Zb 229 0 (Zc 230 .nilchk 229 (Zh 231 3 230 (Zc 232 (.ld .heap (.i .i64)) 231 (Zn 233 (.bin .eql) 232 1 .nil))))) 233 234 false .nil))))) 234 235 true (Zb 220 235 .nil))))))) q182_p21)) q182_p20)
def q182_p18:IC:=(.cut [0,1,4,6,7,15,17] [0,1,4] [] (.reg 24 true (Zh 208 2 17 (Zc 209 (.ld (.slot 4) (.i .i64)) 208 (Zh 210 3 17 (Zc 211 (.ld (.slot 4) (.i .i64)) 210 (Zh 212 4 17 (Zc 213 (.ld (.slot 4) (.i .i64)) 212 (Zh 214 5 17 (Zc 215 (.ld (.slot 4) (.i .i64)) 214 (Zh 216 2 7 (.op none (.st (.slot 1)) [(.t 216),(.t 209)] (Zh 217 3 7 (.op none (.st (.slot 1)) [(.t 217),(.t 211)] (Zh 218 4 7 (.op none (.st (.slot 1)) [(.t 218),(.t 213)] (Zh 219 5 7 (.op none (.st (.slot 1)) [(.t 219),(.t 215)] .nil))))))))))))))))) q182_p19)
def q182_p12:IC:=(.cut [0,1,4,6,7,15,17] [0,1,4] [] (.reg 23 true (Zc 199 (.ldAll (.slot 3) 9) 13 (Zb 200 0 (Zb 201 1 (Zc 202 .nilchk 200 (Zh 203 12 202 (Zg 204 (.idxA 4 5) 203 201 (Zc 205 (.ldN .heap 5) 204 (Zb 206 15 (.op (some 207) (.qcall 111 [.agg]) [(.t 199),(.t 205),(.t 206)] (.al 17 4 ([ci0,ci0,ci0,ci0,ci0,ci0]) (.op none (.stAll (.slot 4) 6) [(.t 17),(.t 207)] .nil)))))))))))) q182_p18)
def q182_p11:IC:=(.seq (.reg 15 false (xmk 15 0 .nil)) (.cut [0,1,4,6,7,13,15] [0,1,3] [] (.cut [0,1,4,6,7,13,15,138] [0,1,3] [] (.reg 16 false (Zh 131 0 13 (Zc 132 (.ld (.slot 3) (.i .i64)) 131 (Zn 133 (.bin .eql) 132 2 (Zb 134 133 (.sc 134 false (Zh 135 0 13 (Zc 136 (.ld (.slot 3) (.i .i64)) 135 (Zn 137 (.bin .eql) 136 4 .nil))) 137 138 true .nil)))))) q182_p13) q182_p12))
def q182_p4:IC:=(.cut [0,1,4,6,7,13] [0,1,3] [] (.reg 14 true (Zb 117 0 (Zc 118 .nilchk 117 (Zh 119 0 118 (Zc 120 (.ldN .heap 3) 119 (Zb 121 1 (Zb 122 0 (Zb 123 1 (Zc 124 .nilchk 122 (Zh 125 12 124 (Zg 126 (.idxA 4 5) 125 123 (Zc 127 (.ldN .heap 5) 126 (.op (some 128) (.qcall 81 [.agg,.b]) [(.t 120),(.t 121),(.t 127)] (Zb 116 128 (Zc 129 (.ext 0) 116 (Zc 130 (.ext 1) 116 (.al 13 3 (Ya 9 ci0) (.op none (.stAll (.slot 3) 9) [(.t 13),(.t 129)] (Zb 14 130 .nil))))))))))))))))))) q182_p11)
def q182_p3:IC:=(.cut [0,1,4,6,7] [0,1] [(0,[4,5],[0])] (.cut [0,1,4,6,7,8,9,10] [0,1] [] (.reg 5 false (Zb 32 0 (Zb 33 1 (Zg 34 (.call 197 [(.i .i64),(.i .i64),.b]) 32 33 (Zb 31 34 (Zc 35 (.ext 0) 31 (Zc 36 (.ext 1) 31 (Zc 37 (.ext 2) 31 (Zb 8 35 (Zb 9 36 (Zb 10 37 .nil))))))))))) q182_p5) q182_p4)
def q182_p2:IC:=(.cut [0,1,4,6,7] [0,1] [] (.reg 4 false (Zb 28 1 (Zb 29 1 (.op (some 30) (.build (Ya 7 ci0) [(0,1),(1,1),(6,1)]) [(.t 28),(.t 29),(.k (.c (.int .i64 (-1))))] (.al 7 1 (Ya 7 ci0) (.op none (.stAll (.slot 1) 7) [(.t 7),(.t 30)] .nil)))))) q182_p3)
def q182_p1:IC:=(.cut [0,1,4,6] [0] [] (.reg 3 false (Zb 23 0 (Zc 24 .nilchk 23 (Zh 25 36 24 (Zc 26 (.ld .heap .any) 25 (Zc 27 .len 26 (Zb 6 27 .nil))))))) q182_p2)
def q182:Fn:={ np:=2,nt:=305,ns:=5,res:=[.all (.slot 0) 4 7,.t 5 .b],gc:=false,code:=(.seq (.reg 0 false (.al 4 0 (Ya 7 ci0) (.op (some 5) .mov [(.k (.c (.bool false)))] .nil))) (.cut [0,1,4] [0] [(0,[4,5],[0])] (.seq (.reg 1 false (Zb 18 0 (Zb 19 1 (Zg 20 (.call 196 [.b]) 18 19 (Zc 21 (.un .not) 20 .nil))))) (.cond (.t 21) (.seq (.reg 2 false (.op (some 22) (.build (Ya 7 ci0) []) [] (.op none (.stAll (.slot 0) 7) [(.t 4),(.t 22)] (.op (some 5) .mov [(.k (.c (.bool false)))] .nil)))) .ret) .skip)) q182_p1)) }
def q186_b1:IC:=(.seq (.seq (.reg 3 false (Zb 15 9 (Zb 16 2 (Zc 17 .len 16 (Zg 18 (.bin .lss) 15 17 .nil))))) (.cond (.t 18) .skip (.exit 0))) (.seq (.blk 1 (.seq (.reg 5 false (Zb 22 8 (Zb 23 2 (Zb 24 9 (Zg 25 (.idxS 1) 23 24 (Zc 26 (.ld .heap (.i .i64)) 25 (Zg 27 (.call 182 [.agg,.b]) 22 26 (Zb 21 27 (Zc 28 (.ext 0) 21 (Zc 29 (.ext 1) 21 (.al 10 1 (Ya 7 ci0) (.op none (.stAll (.slot 1) 7) [(.t 10),(.t 28)] (Zb 11 29 .nil))))))))))))) (.seq (.reg 6 false (Zb 30 11 (Zc 31 (.un .not) 30 .nil))) (.cond (.t 31) (.seq (.reg 7 false (Zb 32 8 (Zb 33 9 (Zb 6 32 (Zb 7 33 .nil))))) .ret) .skip)))) (.reg 4 false (Zb 19 9 (Zn 20 (.bin .add) 19 1 (Zb 9 20 .nil))))))
def q186_p1:IC:=(.seq (.reg 8 false (Zb 34 8 (Zb 35 2 (Zc 36 .len 35 (Zb 6 34 (Zb 7 36 .nil)))))) .ret)
def q186:Fn:={ np:=3,nt:=37,ns:=2,res:=[.t 6 .any,.t 7 (.i .i64)],gc:=false,code:=(.seq (.reg 0 false (.box 3 0 (.t 0) (.op (some 6) .mov [(.k (.c .nilp))] (xmk 7 0 .nil)))) (.seq (.reg 1 false (Zc 12 (.ldAll (.slot 0) 3) 3 (Zb 13 1 (Zg 14 (.call 180 [.any]) 12 13 (Zb 8 14 .nil))))) (.seq (.seq (.reg 2 false (xmk 9 0 .nil)) (.blk 0 (.loop [2,8,9] [] [(0,[6,7],[]),(1,[2,8],[])] q186_b1))) q186_p1))) }
def q196:Fn:={ np:=2,nt:=67,ns:=1,res:=[.t 4 .b],gc:=false,code:=(.seq (.reg 0 false (.op (some 4) .mov [(.k (.c (.bool false)))] .nil)) (.seq (.seq (.reg 1 false (Zb 10 1 (Zn 11 (.bin .geq) 10 0 (Zb 12 11 (.sc 12 true (Zb 13 1 (Zn 14 (.bin .lss) 13 4 .nil)) 14 15 false .nil))))) (.cond (.t 15) (.seq (.reg 2 true (Zb 17 0 (Zc 18 .nilchk 17 (Zh 19 0 18 (Zc 20 (.ldN .heap 3) 19 (Zb 21 1 (Zb 22 0 (Zb 23 1 (Zc 24 .nilchk 22 (Zh 25 12 24 (Zg 26 (.idxA 4 5) 25 23 (Zc 27 (.ldN .heap 5) 26 (.op (some 28) (.qcall 81 [.agg,.b]) [(.t 20),(.t 21),(.t 27)] (Zb 16 28 (Zc 29 (.ext 0) 16 (Zc 30 (.ext 1) 16 (.al 5 0 (Ya 9 ci0) (.op none (.stAll (.slot 0) 9) [(.t 5),(.t 29)] (Zb 6 30 .nil))))))))))))))))))) (.seq (.reg 3 false (Zb 31 6 (Zb 32 31 (.sc 32 true (Zh 33 0 5 (Zc 34 (.ld (.slot 0) (.i .i64)) 33 (Zn 35 (.bin .neq) 34 3 (Zb 36 35 (.sc 36 true (Zh 37 0 5 (Zc 38 (.ld (.slot 0) (.i .i64)) 37 (Zn 39 (.bin .neq) 38 4 .nil))) 39 40 false (Zb 41 40 (.sc 41 false (Zb 42 0 (Zb 43 1 (Zc 44 .nilchk 42 (Zh 45 32 44 (Zg 46 (.idxA 4 1) 45 43 (Zc 47 (.ld .heap .any) 46 (Zc 48 .len 47 (Zn 49 (.bin .eql) 48 0 .nil)))))))) 49 50 true .nil))))))) 50 51 false (Zb 4 51 .nil))))) .ret)) .skip)) (.seq (.reg 4 false (Zb 53 0 (Zb 54 1 (Zg 55 (.call 197 [(.i .i64),(.i .i64),.b]) 53 54 (Zb 52 55 (Zc 56 (.ext 0) 52 (Zc 57 (.ext 1) 52 (Zc 58 (.ext 2) 52 (Zb 7 56 (Zb 8 57 (Zb 9 58 .nil))))))))))) (.seq (.reg 5 false (Zb 59 9 (Zb 60 59 (.sc 60 true (Zb 61 0 (Zb 62 7 (Zb 63 8 (.op (some 64) (.call 198 [(.i .i64)]) [(.t 61),(.t 62),(.t 63)] (Zn 65 (.bin .geq) 64 0 .nil))))) 65 66 false (Zb 4 66 .nil))))) .ret)))) }
def q197:Fn:={ np:=2,nt:=43,ns:=0,res:=[.t 4 (.i .i64),.t 5 (.i .i64),.t 6 .b],gc:=false,code:=(.seq (.reg 0 false (xmk 4 0 (xmk 5 0 (.op (some 6) .mov [(.k (.c (.bool false)))] .nil)))) (.seq (.blk 0 (.seq (.reg 1 false (Zb 8 0 (Zc 9 .nilchk 8 (Zh 10 3 9 (Zc 11 (.ld .heap (.i .i64)) 10 (Zn 12 (.bin .eql) 11 2 (Zb 13 12 (.sc 13 true (Zb 14 1 (Zn 15 (.bin .geq) 14 4 .nil)) 15 16 false (Zb 17 16 (.sc 17 true (Zb 18 1 (Zn 19 (.bin .lss) 18 8 .nil)) 19 20 false (Zb 7 20 .nil))))))))))) (.cond (.t 7) (.seq (.reg 2 false (Zb 21 1 (Zn 22 (.bin .sub) 21 4 (Zb 4 22 (xmk 5 (-1) (.op (some 6) .mov [(.k (.c (.bool true)))] .nil)))))) .ret) (.seq (.reg 3 false (Zb 24 0 (Zc 25 .nilchk 24 (Zh 26 3 25 (Zc 27 (.ld .heap (.i .i64)) 26 (Zn 28 (.bin .eql) 27 3 (Zb 29 28 (.sc 29 true (Zb 30 1 (Zn 31 (.bin .geq) 30 8 .nil)) 31 32 false (Zb 33 32 (.sc 33 true (Zb 34 1 (Zn 35 (.bin .lss) 34 24 .nil)) 35 36 false (Zb 23 36 .nil))))))))))) (.cond (.t 23) (.seq (.reg 4 false (Zb 37 1 (Zn 38 (.bin .sub) 37 8 (Zn 39 (.bin .quo) 38 4 (Zb 40 1 (Zn 41 (.bin .sub) 40 8 (Zn 42 (.bin .rem) 41 4 (Zb 4 39 (Zb 5 42 (.op (some 6) .mov [(.k (.c (.bool true)))] .nil)))))))))) .ret) .skip))))) (.seq (.reg 5 false (xmk 4 0 (xmk 5 0 (.op (some 6) .mov [(.k (.c (.bool false)))] .nil)))) .ret))) }
def q198_b1:IC:=(.seq (.seq (.reg 2 false (Zb 8 7 (Zb 9 0 (Zb 10 1 (Zc 11 .nilchk 9 (Zh 12 32 11 (Zg 13 (.idxA 4 1) 12 10 (Zc 14 (.ld .heap .any) 13 (Zc 15 .len 14 (Zg 16 (.bin .lss) 8 15 .nil)))))))))) (.cond (.t 16) .skip (.exit 0))) (.seq (.blk 1 (.seq (.reg 4 false (Zb 19 2 (Zn 20 (.bin .lss) 19 0 (Zb 21 20 (.sc 21 false (Zb 22 0 (Zb 23 1 (Zc 24 .nilchk 22 (Zh 25 32 24 (Zg 26 (.idxA 4 1) 25 23 (Zc 27 (.ld .heap .any) 26 (Zb 28 7 (Zg 29 (.idxS 3) 27 28 (Zh 30 0 29 (Zc 31 (.ld .heap (.i .i64)) 30 (Zb 32 2 (Zg 33 (.bin .eql) 31 32 .nil)))))))))))) 33 34 true .nil))))) (.cond (.t 34) (.seq (.reg 5 false (Zb 35 7 (Zb 6 35 .nil))) .ret) .skip))) (.reg 3 false (Zb 17 7 (Zn 18 (.bin .add) 17 1 (Zb 7 18 .nil))))))
def q198_p1:IC:=(.seq (.reg 6 false (xmk 6 (-1) .nil)) .ret)
def q198:Fn:={ np:=3,nt:=36,ns:=0,res:=[.t 6 (.i .i64)],gc:=false,code:=(.seq (.reg 0 false (xmk 6 0 .nil)) (.seq (.seq (.reg 1 false (xmk 7 0 .nil)) (.blk 0 (.loop [0,1,2,7] [] [(0,[6],[]),(1,[],[])] q198_b1))) q198_p1)) }
structure q180_In (E:Env):Prop where
 fn:E.fn 180=some q180
 c104:q104_In E
structure q197_In (E:Env):Prop where
 fn:E.fn 197=some q197
structure q198_In (E:Env):Prop where
 fn:E.fn 198=some q198
structure q196_In (E:Env):Prop where
 fn:E.fn 196=some q196
 c81:q81_In E
 c197:q197_In E
 c198:q198_In E
structure q181_In (E:Env):Prop where
 fn:E.fn 181=some q181
 c196:q196_In E
structure q182_In (E:Env):Prop where
 fn:E.fn 182=some q182
 c81:q81_In E
 c107:q107_In E
 c111:q111_In E
 c196:q196_In E
 c197:q197_In E
 c198:q198_In E
structure q186_In (E:Env):Prop where
 fn:E.fn 186=some q186
 c180:q180_In E
 c182:q182_In E
def q271:Fn:={ np:=3,nt:=24,ns:=1,res:=[.t 6 .any,.t 7 (.i .i64),.t 8 .b],gc:=false,code:=(.seq (.reg 0 false (.box 3 0 (.t 0) (.op (some 6) .mov [(.k (.c .nils))] (xmk 7 0 (.op (some 8) .mov [(.k (.c (.bool false)))] .nil))))) (.seq (.reg 1 false (Zc 11 (.ldAll (.slot 0) 3) 3 (Zb 12 1 (Zb 13 2 (.op (some 14) (.call 278 [.any,(.i .i64)]) [(.t 11),(.t 12),(.t 13)] (Zb 10 14 (Zc 15 (.ext 0) 10 (Zc 16 (.ext 1) 10 (Zb 9 15 (Zb 7 16 .nil)))))))))) (.seq (.seq (.reg 2 false (Zb 17 9 (.op (some 18) (.eqNil false) [(.t 17),(.k (.c .nilp))] .nil))) (.cond (.t 18) (.seq (.reg 3 false (.op (some 6) .mov [(.k (.c .nils))] (xmk 7 0 (.op (some 8) .mov [(.k (.c (.bool false)))] .nil)))) .ret) .skip)) (.seq (.reg 4 false (Zb 19 9 (Zc 20 (.call 175 [.any]) 19 (Zb 21 7 (Zb 22 9 (Zc 23 (.call 174 [.b]) 22 (Zb 6 20 (Zb 7 21 (Zb 8 23 .nil))))))))) .ret)))) }
def q278_b1:IC:=(.seq (.reg 5 false (Zg 25 (.bin .lss) 24 23 .nil)) (.seq (.cond (.t 25) .skip (.exit 0)) (.seq (.blk 1 (.seq (.reg 6 false (Zb 26 24 (Zg 27 (.idxS 1) 22 24 (Zc 28 (.ld .heap (.i .i64)) 27 (Zb 10 26 (Zb 11 28 .nil)))))) (.seq (.reg 7 false (Zb 30 8 (Zb 31 11 (Zg 32 (.call 173 [.agg,.b]) 30 31 (Zb 29 32 (Zc 33 (.ext 0) 29 (Zc 34 (.ext 1) 29 (.al 12 1 (Ya 7 ci0) (.op none (.stAll (.slot 1) 7) [(.t 12),(.t 33)] (Zb 13 34 .nil)))))))))) (.seq (.reg 8 false (Zb 35 13 (Zc 36 (.un .not) 35 .nil))) (.cond (.t 36) (.seq (.reg 9 false (Zb 37 8 (Zb 38 10 (Zb 6 37 (Zb 7 38 .nil))))) .ret) .skip))))) (.reg 10 false (Zn 39 (.bin .add) 24 1 (Zb 24 39 .nil))))))
def q278_p1:IC:=(.seq (.reg 11 false (Zb 40 8 (Zb 41 2 (Zc 42 .len 41 (Zb 6 40 (Zb 7 42 .nil)))))) .ret)
def q278:Fn:={ np:=3,nt:=43,ns:=2,res:=[.t 6 .any,.t 7 (.i .i64)],gc:=false,code:=(.seq (.reg 0 false (.box 3 0 (.t 0) (.op (some 6) .mov [(.k (.c .nilp))] (xmk 7 0 .nil)))) (.seq (.reg 1 false (Zc 15 (.ldAll (.slot 0) 3) 3 (Zb 16 1 (Zg 17 (.call 171 [.any,(.i .i64)]) 15 16 (Zb 14 17 (Zc 18 (.ext 0) 14 (Zc 19 (.ext 1) 14 (Zb 8 18 (Zb 9 19 .nil))))))))) (.seq (.seq (.reg 2 false (Zb 20 9 (Zn 21 (.bin .neq) 20 0 .nil))) (.cond (.t 21) (.seq (.reg 3 false (.op (some 6) .mov [(.k (.c .nilp))] (xmk 7 0 .nil))) .ret) .skip)) (.seq (.seq (.reg 4 false (Zb 22 2 (Zc 23 .len 22 (xmk 24 0 .nil)))) (.blk 0 (.loop [2,8,22,23,24] [] [(0,[6,7],[]),(1,[2,8],[])] q278_b1))) q278_p1)))) }




def q171_b1:IC:=(.seq (.reg 5 false (Zn 25 (.bin .lss) 24 4 .nil)) (.seq (.cond (.t 25) .skip (.exit 0)) (.seq (.blk 1 (.seq (.reg 6 false (Zb 26 24 (Zb 7 26 .nil))) (.seq (.reg 7 true (Zb 27 6 (Zb 28 7 (Zb 29 6 (Zc 30 .nilchk 29 (Zh 31 0 30 (Zc 32 (.ldN .heap 3) 31 (Zb 33 7 (Zg 34 (.qcall 94 [.agg]) 32 33 (Zc 35 .nilchk 27 (Zh 36 4 35 (Zg 37 (.idxA 4 5) 36 28 (.op none (.stN .heap 5) [(.t 37),(.t 34)] .nil))))))))))))) (.seq (.reg 8 true (Zb 38 6 (Zb 39 7 (Zb 40 1 (Zc 41 (.qcall 190 [.agg]) 40 (Zc 42 .nilchk 38 (Zh 43 32 42 (Zg 44 (.idxA 4 74) 43 39 (.op none (.stN .heap 74) [(.t 44),(.t 41)] .nil))))))))) (.reg 9 false (Zb 45 6 (Zb 46 7 (Zc 47 .nilchk 45 (Zh 48 28 47 (Zg 49 (.idxA 4 1) 48 46 (.op none (.st .heap) [(.t 49),(.k (.c (.int .i64 (-1))))] .nil))))))))))) (.reg 10 false (Zn 50 (.bin .add) 24 1 (Zb 24 50 .nil))))))
def q171_p1:IC:=(.seq (.reg 11 true (Zb 51 6 (Zc 52 .nilchk 51 (Zh 53 24 52 (Zc 54 (.slcA 4 1 false false) 53 (Zh 55 1 2 (Zc 56 (.ld (.slot 0) .any) 55 (Zg 57 (.copy 1) 54 56 .nil)))))))) (.seq (.reg 12 false (Zb 58 6 (Zb 4 58 (xmk 5 0 .nil)))) .ret))
def q171:Fn:={ np:=2,nt:=59,ns:=1,res:=[.t 4 .any,.t 5 (.i .i64)],gc:=false,code:=(.seq (.reg 0 false (.box 2 0 (.t 0) (.op (some 4) .mov [(.k (.c .nilp))] (xmk 5 0 .nil)))) (.seq (.seq (.reg 1 false (Zb 8 1 (Zn 9 (.bin .lss) 8 1 (Zb 10 9 (.sc 10 false (Zb 11 1 (Zn 12 (.bin .gtr) 11 3 .nil)) 12 13 true (Zb 14 13 (.sc 14 false (Zc 15 (.ldAll (.slot 0) 3) 2 (Zc 16 (.call 188 [.b]) 15 (Zc 17 (.un .not) 16 .nil))) 17 18 true .nil))))))) (.cond (.t 18) (.seq (.reg 2 false (.op (some 4) .mov [(.k (.c .nilp))] (xmk 5 1 .nil))) .ret) .skip)) (.seq (.reg 3 false (Zc 19 (.ldAll (.slot 0) 3) 2 (Zc 20 (.call 189 [.agg]) 19 (Zb 21 1 (Zg 22 (.build ([Cell.nils,Cell.nils,Cell.nils]++Ya 325 ci0++[Cell.nils]) [(0,3),(3,1)]) 20 21 (Zc 23 .boxH 22 (Zb 6 23 .nil))))))) (.seq (.seq (.reg 4 false (xmk 24 0 .nil)) (.blk 0 (.loop [1,2,6,24] [0] [(1,[2,6],[0])] q171_b1))) q171_p1)))) }
def q172_b1:IC:=(.seq (.reg 12 false (Zn 76 (.bin .lss) 75 4 .nil)) (.seq (.cond (.t 76) .skip (.exit 2)) (.seq (.blk 3 (.seq (.reg 13 false (Zb 77 75 (Zb 8 77 .nil))) (.seq (.reg 14 false (Zb 79 0 (Zb 80 4 (Zc 81 .nilchk 79 (Zh 82 32 81 (Zg 83 (.idxA 4 74) 82 80 (Zc 84 (.ldN .heap 74) 83 (Zb 85 8 (Zg 86 (.call 192 [(.i .i64),(.i .i64),(.i .i64),.b]) 84 85 (Zb 78 86 (Zc 87 (.ext 0) 78 (Zc 88 (.ext 1) 78 (Zc 89 (.ext 2) 78 (Zc 90 (.ext 3) 78 (Zb 9 87 (Zb 10 88 (Zb 11 89 (Zb 12 90 .nil)))))))))))))))))) (.seq (.reg 15 false (Zb 91 0 (Zc 92 .nilchk 91 (Zh 93 3 92 (Zc 94 (.ld .heap (.i .i64)) 93 (Zn 95 (.bin .eql) 94 3 (Zb 96 95 (.sc 96 true (Zb 97 12 .nil) 97 98 false .nil)))))))) (.cond (.t 98) (.reg 16 false (Zb 99 3 (Zb 100 4 (.op (some 101) (.bin .mul) [(.k (.c (.int .i64 4))),(.t 100)] (.op (some 102) (.bin .add) [(.k (.c (.int .i64 8))),(.t 101)] (Zb 103 8 (Zg 104 (.bin .add) 102 103 (Zg 105 (.call 18 [(.i .u64)]) 99 104 (Zb 3 105 .nil))))))))) .skip))))) (.reg 17 false (Zn 106 (.bin .add) 75 1 (Zb 75 106 .nil))))))
def q172_p3:IC:=(.seq (.seq (.reg 9 false (Zb 56 0 (Zc 57 .nilchk 56 (Zh 58 3 57 (Zc 59 (.ld .heap (.i .i64)) 58 (Zn 60 (.bin .eql) 59 2 (Zb 61 60 (.sc 61 true (Zb 62 0 (Zb 63 4 (Zc 64 .nilchk 62 (Zh 65 32 64 (Zg 66 (.idxA 4 74) 65 63 (Zc 67 (.ldN .heap 74) 66 (Zc 68 (.call 191 [.b]) 67 (Zc 69 (.un .not) 68 .nil)))))))) 69 70 false .nil)))))))) (.cond (.t 70) (.reg 10 false (Zb 71 3 (Zb 72 4 (.op (some 73) (.bin .add) [(.k (.c (.int .i64 4))),(.t 72)] (Zg 74 (.call 18 [(.i .u64)]) 71 73 (Zb 3 74 .nil)))))) .skip)) (.seq (.reg 11 false (xmk 75 0 .nil)) (.blk 2 (.loop [0,3,4,13,75] [] [(3,[0,3,13],[])] q172_b1))))
def q172_p2:IC:=(.reg 18 false (Zn 107 (.bin .add) 13 1 (Zb 13 107 .nil)))
def q172_b2:IC:=(.seq (.reg 3 false (Zn 14 (.bin .lss) 13 4 .nil)) (.seq (.cond (.t 14) .skip (.exit 0)) (.seq (.blk 1 (.seq (.reg 4 false (Zb 15 13 (Zb 4 15 .nil))) (.seq (.reg 5 true (Zb 17 0 (Zc 18 .nilchk 17 (Zh 19 0 18 (Zc 20 (.ldN .heap 3) 19 (Zb 21 4 (Zb 22 0 (Zb 23 4 (Zc 24 .nilchk 22 (Zh 25 4 24 (Zg 26 (.idxA 4 5) 25 23 (Zc 27 (.ldN .heap 5) 26 (.op (some 28) (.qcall 105 [.agg,.b]) [(.t 20),(.t 21),(.t 27)] (Zb 16 28 (Zc 29 (.ext 0) 16 (Zc 30 (.ext 1) 16 (.al 5 0 (Ya 9 ci0) (.op none (.stAll (.slot 0) 9) [(.t 5),(.t 29)] (Zb 6 30 .nil))))))))))))))))))) (.seq (.reg 6 false (Zh 31 0 5 (Zc 32 (.ld (.slot 0) (.i .i64)) 31 (Zn 33 (.bin .eql) 32 3 (Zb 34 33 (.sc 34 false (Zh 35 0 5 (Zc 36 (.ld (.slot 0) (.i .i64)) 35 (Zn 37 (.bin .eql) 36 4 .nil))) 37 38 true (Zb 7 38 .nil))))))) (.cut [0,3,4,13] [] [] (.seq (.reg 7 false (Zb 39 6 (Zb 40 39 (.sc 40 true (Zb 41 7 (Zc 42 (.un .not) 41 (Zb 43 42 (.sc 43 false (Zb 44 0 (Zb 45 4 (Zc 46 .nilchk 44 (Zh 47 32 46 (Zg 48 (.idxA 4 74) 47 45 (Zc 49 (.ldN .heap 74) 48 (Zc 50 (.call 191 [.b]) 49 .nil))))))) 50 51 true .nil)))) 51 52 false .nil)))) (.cond (.t 52) (.reg 8 false (Zb 53 3 (Zb 54 4 (Zg 55 (.call 18 [(.i .u64)]) 53 54 (Zb 3 55 .nil))))) .skip)) q172_p3))))) q172_p2)))
def q172_p1:IC:=(.seq (.reg 19 false (Zb 108 3 (Zb 2 108 .nil))) .ret)
def q172:Fn:={ np:=1,nt:=109,ns:=1,res:=[.t 2 (.i .u64)],gc:=false,code:=(.seq (.reg 0 false (.op (some 2) .mov [(.k (.c (.int .u64 0)))] .nil)) (.seq (.reg 1 false (.op (some 3) .mov [(.k (.c (.int .u64 0)))] .nil)) (.seq (.seq (.reg 2 false (xmk 13 0 .nil)) (.blk 0 (.loop [0,3,13] [] [(1,[3],[])] q172_b2))) q172_p1))) }
def q173:Fn:={ np:=2,nt:=47,ns:=2,res:=[.all (.slot 0) 4 7,.t 5 .b],gc:=false,code:=(.seq (.reg 0 false (.al 4 0 (Ya 7 ci0) (.op (some 5) .mov [(.k (.c (.bool false)))] .nil))) (.seq (.seq (.reg 1 false (Zb 7 0 (Zc 8 (.call 172 [(.i .u64)]) 7 (Zb 9 1 (Zg 10 (.call 17 [.b]) 8 9 (Zc 11 (.un .not) 10 .nil)))))) (.cond (.t 11) (.seq (.reg 2 false (.op (some 12) (.build (Ya 7 ci0) []) [] (.op none (.stAll (.slot 0) 7) [(.t 4),(.t 12)] (.op (some 5) .mov [(.k (.c (.bool false)))] .nil)))) .ret) .skip)) (.seq (.reg 3 false (.al 6 1 (Ya 7 ci0) .nil)) (.seq (.blk 0 (.seq (.reg 5 false (Zb 22 1 (Zn 23 (.bin .lss) 22 4 (Zb 21 23 .nil)))) (.cond (.t 21) (.reg 6 false (Zb 24 0 (Zb 25 1 (Zg 26 (.call 193 [.agg]) 24 25 (.op none (.stAll (.slot 1) 7) [(.t 6),(.t 26)] .nil))))) (.seq (.reg 7 false (Zb 28 1 (Zn 29 (.bin .lss) 28 8 (Zb 27 29 .nil)))) (.cond (.t 27) (.reg 8 false (Zb 30 0 (Zb 31 1 (Zn 32 (.bin .sub) 31 4 (.op (some 33) (.call 194 [.agg]) [(.t 30),(.t 32),(.k (.c (.int .i64 0)))] (.op none (.stAll (.slot 1) 7) [(.t 6),(.t 33)] .nil)))))) (.reg 4 false (Zb 13 0 (Zb 14 1 (Zn 15 (.bin .sub) 14 8 (Zn 16 (.bin .quo) 15 4 (Zb 17 1 (Zn 18 (.bin .sub) 17 8 (Zn 19 (.bin .rem) 18 4 (.op (some 20) (.call 194 [.agg]) [(.t 13),(.t 16),(.t 19)] (.op none (.stAll (.slot 1) 7) [(.t 6),(.t 20)] .nil))))))))))))))) (.seq (.reg 9 false (Zb 34 1 (Zh 35 0 6 (.op none (.st (.slot 1)) [(.t 35),(.t 34)] .nil)))) (.seq (.reg 10 true (Zb 36 0 (Zb 37 0 (Zc 38 .nilchk 37 (Zh 39 328 38 (Zc 40 (.ld .heap .any) 39 (Zc 41 (.ldAll (.slot 1) 7) 6 (Zc 42 (.lit 7 1 (Ya 7 ci0) [(0,7)]) 41 (Zg 43 (.app 7 56) 40 42 (Zc 44 .nilchk 36 (Zh 45 328 44 (.op none (.st .heap) [(.t 45),(.t 43)] .nil)))))))))))) (.seq (.reg 11 false (Zc 46 (.ldAll (.slot 1) 7) 6 (.op none (.stAll (.slot 0) 7) [(.t 4),(.t 46)] (.op (some 5) .mov [(.k (.c (.bool true)))] .nil)))) .ret))))))) }
def q174:Fn:={ np:=1,nt:=6,ns:=0,res:=[.t 2 .b],gc:=false,code:=(.seq (.reg 0 false (.op (some 2) .mov [(.k (.c (.bool false)))] .nil)) (.seq (.reg 1 false (Zb 3 0 (Zc 4 (.call 172 [(.i .u64)]) 3 (.op (some 5) (.bin .eql) [(.t 4),(.k (.c (.int .u64 0)))] (Zb 2 5 .nil))))) .ret)) }
def q175:Fn:={ np:=1,nt:=8,ns:=0,res:=[.t 2 .any],gc:=false,code:=(.seq (.reg 0 false (.op (some 2) .mov [(.k (.c .nils))] .nil)) (.seq (.reg 1 false (Zb 3 0 (Zc 4 .nilchk 3 (Zh 5 328 4 (Zc 6 (.ld .heap .any) 5 (Zc 7 (.call 195 [.any]) 6 (Zb 2 7 .nil))))))) .ret)) }
def q189_b1:IC:=(.seq (.reg 3 false (Zg 17 (.bin .lss) 16 15 .nil)) (.seq (.cond (.t 17) .skip (.exit 0)) (.seq (.blk 1 (.seq (.reg 4 false (Zg 18 (.idxS 1) 14 16 (Zc 19 (.ld .heap .any) 18 (Zb 5 19 .nil)))) (.reg 5 true (Zh 20 2 3 (Zc 21 (.ld (.slot 2) .any) 20 (Zb 22 5 (Zc 23 (.call 119 [.any]) 22 (Zc 24 (.lit 1 1 ([Cell.nils]) [(0,1)]) 23 (Zg 25 (.app 1 24) 21 24 (Zh 26 2 3 (.op none (.st (.slot 2)) [(.t 26),(.t 25)] .nil))))))))))) (.reg 6 false (Zn 27 (.bin .add) 16 1 (Zb 16 27 .nil))))))
def q189_p1:IC:=(.seq (.reg 7 false (Zc 28 (.ldAll (.slot 2) 3) 3 (.op none (.stAll (.slot 1) 3) [(.t 2),(.t 28)] .nil))) .ret)
def q189:Fn:={ np:=1,nt:=29,ns:=3,res:=[.all (.slot 1) 2 3],gc:=false,code:=(.seq (.reg 0 false (.box 1 0 (.t 0) (.al 2 1 ([Cell.nils,Cell.nils,Cell.nils]) .nil))) (.seq (.reg 1 true (Zh 6 0 1 (Zc 7 (.ld (.slot 0) .any) 6 (Zc 8 (.call 202 [.any]) 7 (Zh 9 1 1 (Zc 10 (.ld (.slot 0) .any) 9 (Zc 11 (.call 203 [.any]) 10 (Zg 12 (.build ([Cell.nils,Cell.nils,Cell.nils]) [(0,1),(1,1)]) 8 11 (.al 3 2 ([Cell.nils,Cell.nils,Cell.nils]) (.op none (.stAll (.slot 2) 3) [(.t 3),(.t 12)] .nil)))))))))) (.seq (.seq (.reg 2 false (Zh 13 2 1 (Zc 14 (.ld (.slot 0) .any) 13 (Zc 15 .len 14 (xmk 16 0 .nil))))) (.blk 0 (.loop [2,3,14,15,16] [1,2] [(1,[2,3],[1,2])] q189_b1))) q189_p1))) }
def q193_p2:IC:=(.seq (.reg 10 false (Zb 71 0 (Zc 72 .nilchk 71 (Zh 73 328 72 (Zc 74 (.ld .heap .any) 73 (Zc 75 .len 74 (Zb 15 75 .nil))))))) (.seq (.blk 0 (.seq (.reg 11 false (Zh 77 2 13 (Zc 78 (.ld (.slot 3) (.i .i64)) 77 (Zn 79 (.bin .eql) 78 2 (Zb 80 79 (.sc 80 true (Zb 81 0 (Zc 82 .nilchk 81 (Zh 83 3 82 (Zc 84 (.ld .heap (.i .i64)) 83 (Zn 85 (.bin .neq) 84 1 .nil))))) 85 86 false (Zb 76 86 .nil))))))) (.cond (.t 76) (.reg 12 true (Zb 87 0 (Zb 88 1 (Zb 89 0 (Zb 90 1 (Zc 91 .nilchk 89 (Zh 92 32 91 (Zg 93 (.idxA 4 74) 92 90 (Zc 94 (.ldN .heap 74) 93 (Zh 95 3 13 (Zc 96 (.ld (.slot 3) (.i .i64)) 95 (Zh 97 5 13 (Zc 98 (.ld (.slot 3) (.i .i64)) 97 (Zb 99 15 (.op (some 100) (.qcall 206 [.agg]) [(.t 94),(.t 96),(.t 98),(.t 99)] (Zc 101 .nilchk 87 (Zh 102 32 101 (Zg 103 (.idxA 4 74) 102 88 (.op none (.stN .heap 74) [(.t 103),(.t 100)] .nil))))))))))))))))))) (.seq (.reg 13 false (Zc 105 (.ldAll (.slot 3) 6) 13 (Zc 106 (.call 80 [.b]) 105 (Zb 104 106 .nil)))) (.cond (.t 104) (.reg 14 true (Zb 107 0 (Zh 108 3 13 (Zc 109 (.ld (.slot 3) (.i .i64)) 108 (Zb 110 0 (Zh 111 3 13 (Zc 112 (.ld (.slot 3) (.i .i64)) 111 (Zh 113 5 13 (Zc 114 (.ld (.slot 3) (.i .i64)) 113 (Zb 115 15 (Zc 116 .nilchk 107 (Zh 117 24 116 (Zg 118 (.idxA 4 1) 117 109 (.op none (.st .heap) [(.t 118),(.t 114)] (Zc 119 .nilchk 110 (Zh 120 28 119 (Zg 121 (.idxA 4 1) 120 112 (.op none (.st .heap) [(.t 121),(.t 115)] .nil)))))))))))))))))) .skip))))) (.seq (.reg 15 true (Zb 122 0 (Zb 123 1 (Zb 124 0 (Zc 125 .nilchk 124 (Zh 126 0 125 (Zc 127 (.ldN .heap 3) 126 (Zb 128 1 (Zc 129 (.ldAll (.slot 1) 5) 5 (Zb 130 8 (.op (some 131) (.qcall 106 [.agg]) [(.t 127),(.t 128),(.t 129),(.t 130)] (Zc 132 .nilchk 122 (Zh 133 4 132 (Zg 134 (.idxA 4 5) 133 123 (.op none (.stN .heap 5) [(.t 134),(.t 131)] .nil))))))))))))))) (.seq (.reg 16 false (Zb 135 1 (Zh 136 2 13 (Zc 137 (.ld (.slot 3) (.i .i64)) 136 (Zh 138 3 13 (Zc 139 (.ld (.slot 3) (.i .i64)) 138 (Zh 140 4 13 (Zc 141 (.ld (.slot 3) (.i .i64)) 140 (Zh 142 5 13 (Zc 143 (.ld (.slot 3) (.i .i64)) 142 (Zb 144 9 (.op (some 145) (.build (Ya 7 ci0) [(1,1),(2,1),(3,1),(4,1),(5,1),(6,1)]) [(.t 135),(.t 137),(.t 139),(.t 141),(.t 143),(.t 144)] (.op none (.stAll (.slot 0) 7) [(.t 4),(.t 145)] .nil))))))))))))) .ret))))
def q193_p1:IC:=(.seq (.reg 7 false (Zc 63 (.ldAll (.slot 2) 9) 6 (Zc 64 (.ldAll (.slot 1) 5) 5 (Zb 65 8 (.op (some 66) (.call 109 [.agg,.b]) [(.t 63),(.t 64),(.t 65)] (Zb 62 66 (Zc 67 (.ext 0) 62 (Zc 68 (.ext 1) 62 (.al 13 3 ([ci0,ci0,ci0,ci0,ci0,ci0]) (.op none (.stAll (.slot 3) 6) [(.t 13),(.t 67)] (Zb 14 68 .nil))))))))))) (.cut [0,1,4,5,8,9,13] [0,1,3] [] (.seq (.reg 8 false (Zb 69 14 (Zc 70 (.un .not) 69 .nil))) (.cond (.t 70) (.reg 9 false (xmk 9 (-1) .nil)) .skip)) q193_p2))
def q193:Fn:={ np:=2,nt:=146,ns:=4,res:=[.all (.slot 0) 4 7],gc:=false,code:=(.seq (.reg 0 false (.al 4 0 (Ya 7 ci0) .nil)) (.seq (.reg 1 false (Zb 16 0 (Zb 17 1 (Zc 18 .nilchk 16 (Zh 19 4 18 (Zg 20 (.idxA 4 5) 19 17 (Zc 21 (.ldN .heap 5) 20 (.al 5 1 ([ci0,ci0,ci0,ci0,ci0]) (.op none (.stAll (.slot 1) 5) [(.t 5),(.t 21)] .nil))))))))) (.seq (.reg 2 true (Zb 23 0 (Zc 24 .nilchk 23 (Zh 25 0 24 (Zc 26 (.ldN .heap 3) 25 (Zb 27 1 (Zc 28 (.ldAll (.slot 1) 5) 5 (.op (some 29) (.qcall 105 [.agg,.b]) [(.t 26),(.t 27),(.t 28)] (Zb 22 29 (Zc 30 (.ext 0) 22 (Zc 31 (.ext 1) 22 (.al 6 2 (Ya 9 ci0) (.op none (.stAll (.slot 2) 9) [(.t 6),(.t 30)] (Zb 7 31 .nil)))))))))))))) (.seq (.reg 3 true (Zb 32 0 (Zh 33 2 6 (Zc 34 (.ld (.slot 2) (.i .i64)) 33 (Zc 35 .nilchk 32 (Zh 36 24 35 (Zg 37 (.idxA 4 1) 36 34 (Zc 38 (.ld .heap (.i .i64)) 37 (Zb 39 0 (Zh 40 2 6 (Zc 41 (.ld (.slot 2) (.i .i64)) 40 (Zc 42 .nilchk 39 (Zh 43 28 42 (Zg 44 (.idxA 4 1) 43 41 (Zc 45 (.ld .heap (.i .i64)) 44 (Zb 8 38 (Zb 9 45 .nil))))))))))))))))) (.cut [0,1,4,5,6,8,9] [0,1,2] [] (.seq (.reg 4 true (Zb 47 0 (Zb 48 1 (Zc 49 .nilchk 47 (Zh 50 32 49 (Zg 51 (.idxA 4 74) 50 48 (Zc 52 (.ldN .heap 74) 51 (Zh 53 2 6 (Zc 54 (.ld (.slot 2) (.i .i64)) 53 (Zg 55 (.qcall 205 [(.i .i64),(.i .i64),.b]) 52 54 (Zb 46 55 (Zc 56 (.ext 0) 46 (Zc 57 (.ext 1) 46 (Zc 58 (.ext 2) 46 (Zb 10 56 (Zb 11 57 (Zb 12 58 .nil))))))))))))))))) (.seq (.reg 5 false (Zb 59 12 .nil)) (.cond (.t 59) (.reg 6 false (Zb 60 10 (Zb 61 11 (Zb 8 60 (Zb 9 61 .nil))))) .skip))) q193_p1))))) }
def q194:Fn:={ np:=3,nt:=54,ns:=1,res:=[.all (.slot 0) 6 7],gc:=false,code:=(.seq (.reg 0 false (.al 6 0 (Ya 7 ci0) .nil)) (.seq (.reg 1 false (Zb 12 0 (Zb 13 1 (Zc 14 .nilchk 12 (Zh 15 32 14 (Zg 16 (.idxA 4 74) 15 13 (Zc 17 (.ldN .heap 74) 16 (Zb 18 2 (Zg 19 (.call 192 [(.i .i64),(.i .i64),(.i .i64),.b]) 17 18 (Zb 11 19 (Zc 20 (.ext 0) 11 (Zc 21 (.ext 1) 11 (Zc 22 (.ext 2) 11 (Zc 23 (.ext 3) 11 (Zb 7 20 (Zb 8 21 (Zb 9 22 (Zb 10 23 .nil)))))))))))))))))) (.seq (.reg 2 true (Zb 24 0 (Zb 25 1 (Zb 26 0 (Zb 27 1 (Zc 28 .nilchk 26 (Zh 29 32 28 (Zg 30 (.idxA 4 74) 29 27 (Zc 31 (.ldN .heap 74) 30 (Zb 32 2 (Zg 33 (.qcall 207 [.agg]) 31 32 (Zc 34 .nilchk 24 (Zh 35 32 34 (Zg 36 (.idxA 4 74) 35 25 (.op none (.stN .heap 74) [(.t 36),(.t 33)] .nil))))))))))))))) (.seq (.reg 3 true (Zb 37 0 (Zb 38 7 (Zb 39 0 (Zb 40 7 (Zb 41 8 (Zb 42 9 (Zc 43 .nilchk 37 (Zh 44 24 43 (Zg 45 (.idxA 4 1) 44 38 (.op none (.st .heap) [(.t 45),(.t 41)] (Zc 46 .nilchk 39 (Zh 47 28 46 (Zg 48 (.idxA 4 1) 47 40 (.op none (.st .heap) [(.t 48),(.t 42)] .nil))))))))))))))) (.seq (.reg 4 false (Zb 49 1 (Zb 50 7 (Zb 51 8 (Zb 52 9 (.op (some 53) (.build (Ya 7 ci0) [(1,1),(2,1),(3,1),(5,1),(6,1)]) [(.t 49),(.k (.c (.int .i64 6))),(.t 50),(.t 51),(.t 52)] (.op none (.stAll (.slot 0) 7) [(.t 6),(.t 53)] .nil))))))) .ret))))) }




structure q189_In (E:Env):Prop where
 fn:E.fn 189=some q189
 c119:q119_In E
 c202:q202_In E
 c203:q203_In E
structure q171_In (E:Env):Prop where
 fn:E.fn 171=some q171
 c94:q94_In E
 c188:q188_In E
 c189:q189_In E
 c190:q190_In E
structure q172_In (E:Env):Prop where
 fn:E.fn 172=some q172
 c18:q18_In E
 c105:q105_In E
 c191:q191_In E
 c192:q192_In E
structure q193_In (E:Env):Prop where
 fn:E.fn 193=some q193
 c80:q80_In E
 c105:q105_In E
 c106:q106_In E
 c109:q109_In E
 c205:q205_In E
 c206:q206_In E
structure q194_In (E:Env):Prop where
 fn:E.fn 194=some q194
 c192:q192_In E
 c207:q207_In E
structure q173_In (E:Env):Prop where
 fn:E.fn 173=some q173
 c17:q17_In E
 c172:q172_In E
 c193:q193_In E
 c194:q194_In E
structure q174_In (E:Env):Prop where
 fn:E.fn 174=some q174
 c172:q172_In E
structure q175_In (E:Env):Prop where
 fn:E.fn 175=some q175
 c195:q195_In E
structure q278_In (E:Env):Prop where
 fn:E.fn 278=some q278
 c171:q171_In E
 c173:q173_In E
structure q271_In (E:Env):Prop where
 fn:E.fn 271=some q271
 c174:q174_In E
 c175:q175_In E
 c278:q278_In E
structure q254_In (E:Env):Prop where
 fn:E.fn 254=some q254
 c180:q180_In E
 c181:q181_In E
 c182:q182_In E
def q258:Fn:={ np:=0,nt:=66,ns:=2,res:=[.t 0 .b],gc:=true,code:=(.seq (.reg 0 false (.op (some 0) .mov [(.k (.c (.bool false)))] .nil)) (.seq (.reg 1 false (.op (some 8) (.build ([ci0,ci0]) [(0,1),(1,1)]) [(.k (.c (.int .i64 (-1)))),(.k (.c (.int .i64 1)))] (.al 1 0 ([ci0,ci0]) (.op none (.stAll (.slot 0) 2) [(.t 1),(.t 8)] .nil)))) (.seq (.reg 2 false (.op (some 9) (.bslice 1 1 ([Cell.int .u8 0]) [(0,1)]) [(.k (.c (.int .u8 120)))] (Zc 10 .mark 9 (.op (some 11) (.bslice 1 1 ([ci0]) [(0,1)]) [(.k (.c (.int .i64 0)))] (Zc 12 (.ldAll (.slot 0) 2) 1 (.op (some 13) (.build (Ya 9 ci0) [(0,1),(3,2)]) [(.k (.c (.int .i64 1))),(.t 12)] (Zc 14 (.bslice 9 1 (Ya 9 ci0) [(0,9)]) 13 (.op (some 15) (.build (Ya 9 ci0) [(0,1)]) [(.k (.c (.int .i64 2)))] (Zc 16 (.bslice 9 1 (Ya 9 ci0) [(0,9)]) 15 (Zg 17 (.bslice 1 2 ([Cell.nils,Cell.nils]) [(0,1),(1,1)]) 14 16 (.op (some 18) (.build ([Cell.nils,Cell.nils,Cell.nils]) [(0,1),(1,1),(2,1)]) [(.t 10),(.t 11),(.t 17)] (.al 2 1 ([Cell.nils,Cell.nils,Cell.nils]) (.op none (.stAll (.slot 1) 3) [(.t 2),(.t 18)] .nil))))))))))))) (.seq (.reg 3 false (Zc 20 (.ldAll (.slot 1) 3) 2 (.op (some 21) (.bslice 1 2 ([ci0,ci0]) [(0,1),(1,1)]) [(.k (.c (.int .i64 0))),(.k (.c (.int .i64 1)))] (.op (some 22) (.call 186 [.any,(.i .i64)]) [(.t 20),(.k (.c (.int .i64 1))),(.t 21)] (Zb 19 22 (Zc 23 (.ext 0) 19 (Zc 24 (.ext 1) 19 (Zb 3 23 (Zb 4 24 .nil))))))))) (.seq (.reg 4 false (Zb 25 3 (Zc 26 .nilchk 25 (Zh 27 36 26 (Zc 28 (.ld .heap .any) 27 (Zn 29 (.call 256 [.any]) 28 1 (Zb 5 29 .nil))))))) (.seq (.reg 5 true (Zc 31 (.ldAll (.slot 1) 3) 2 (Zb 32 3 (Zc 33 .nilchk 32 (Zh 34 36 33 (Zc 35 (.ld .heap .any) 34 (.op (some 36) (.call 269 [.any,.b]) [(.t 31),(.k (.c (.int .i64 1))),(.t 35),(.k (.c (.int .i64 0))),(.k (.c (.int .i64 1)))] (Zb 30 36 (Zc 37 (.ext 0) 30 (Zc 38 (.ext 1) 30 (Zb 6 37 (Zb 7 38 .nil)))))))))))) (.seq (.reg 6 false (Zb 39 5 (Zc 40 .len 39 (Zn 41 (.bin .eql) 40 1 (Zb 42 41 (.sc 42 true (Zb 43 5 (Zn 44 (.idxS 2) 43 0 (Zc 45 (.ldN .heap 2) 44 (.op (some 46) (.build ([ci0,ci0]) [(0,1),(1,1)]) [(.k (.c (.int .i64 0))),(.k (.c (.int .i64 1)))] (Zg 47 (.eqA false ([ci0,ci0])) 45 46 .nil))))) 47 48 false (Zb 49 48 (.sc 49 true (Zb 50 7 .nil) 50 51 false (Zb 52 51 (.sc 52 true (Zb 53 6 (Zc 54 .len 53 (Zn 55 (.bin .eql) 54 1 .nil))) 55 56 false (Zb 57 56 (.sc 57 true (Zb 58 6 (Zn 59 (.idxS 1) 58 0 (Zc 60 (.ld .heap (.i .i64)) 59 (Zn 61 (.bin .eql) 60 1 .nil)))) 61 62 false (Zb 63 62 (.sc 63 true (.op (some 64) (.call 259 [.b]) [(.k (.c .nils)),(.k (.c (.int .i64 1)))] .nil) 64 65 false (Zb 0 65 .nil))))))))))))))) .ret))))))) }
def q419_b1:IC:=(.seq (.seq (.reg 16 false (Zb 91 19 (Zn 92 (.bin .lss) 91 60 .nil))) (.cond (.t 92) .skip (.exit 0))) (.seq (.blk 1 (.seq (.reg 18 false (Zb 95 17 (Zc 96 (.call 181 [.any]) 95 (Zb 20 96 .nil)))) (.seq (.seq (.reg 19 false (Zb 97 20 (Zc 98 .len 97 (Zn 99 (.bin .eql) 98 0 .nil)))) (.cond (.t 99) (.exit 0) .skip)) (.seq (.reg 20 false (Zb 100 17 (Zb 101 20 (Zn 102 (.idxS 1) 101 0 (Zc 103 (.ld .heap (.i .i64)) 102 (Zg 104 (.call 182 [.agg,.b]) 100 103 .nil)))))) (.reg 21 false (Zb 105 15 (Zb 106 20 (Zn 107 (.idxS 1) 106 0 (Zc 108 (.ld .heap (.i .i64)) 107 (Zc 109 (.lit 1 1 ([ci0]) [(0,1)]) 108 (Zg 110 (.app 1 8) 105 109 (Zb 15 110 .nil)))))))))))) (.reg 17 false (Zb 93 19 (Zn 94 (.bin .add) 93 1 (Zb 19 94 .nil))))))
def q419_p1:IC:=(.seq (.reg 22 false (Zc 111 (.ldAll (.slot 0) 3) 9 (Zb 112 1 (Zb 113 10 (Zb 114 15 (.op (some 115) (.call 415 [.b]) [(.t 111),(.t 112),(.t 113),(.t 114)] (Zc 116 (.un .not) 115 (Zb 117 116 (.sc 117 true (.op (some 118) (.call 258 [.b]) [] .nil) 118 119 false (Zb 8 119 .nil)))))))))) .ret)
def q419:Fn:={ np:=4,nt:=120,ns:=2,res:=[.t 8 .b],gc:=false,code:=(.seq (.reg 0 false (.op (some 8) .mov [(.k (.c (.bool false)))] .nil)) (.seq (.reg 1 false (Zb 21 0 (Zn 22 (.call 76 [.agg]) 21 8 (.al 9 0 ([Cell.nils,Cell.nils,Cell.nils]) (.op none (.stAll (.slot 0) 3) [(.t 9),(.t 22)] .nil))))) (.seq (.reg 2 false (Zb 23 1 (Zn 24 (.bin .and) 23 255 (Zn 25 (.bin .rem) 24 3 (Zn 26 (.bin .add) 25 1 (Zb 1 26 .nil)))))) (.seq (.reg 3 false (Zc 27 (.ldAll (.slot 0) 3) 9 (Zb 28 1 (Zb 29 2 (.op (some 30) (.call 254 [.any]) [(.t 27),(.t 28),(.t 29)] (Zb 10 30 .nil)))))) (.seq (.reg 4 false (Zc 32 (.ldAll (.slot 0) 3) 9 (Zb 33 1 (Zb 34 10 (.op (some 35) (.call 186 [.any,(.i .i64)]) [(.t 32),(.t 33),(.t 34)] (Zb 31 35 (Zc 36 (.ext 0) 31 (Zc 37 (.ext 1) 31 (Zb 11 36 (Zb 12 37 .nil)))))))))) (.seq (.reg 5 false (Zb 38 11 (Zc 39 .nilchk 38 (Zh 40 36 39 (Zc 41 (.ld .heap .any) 40 (Zb 42 1 (Zg 43 (.call 256 [.any]) 41 42 (Zb 13 43 .nil)))))))) (.seq (.seq (.reg 6 false (Zb 44 13 (Zc 45 .len 44 (Zn 46 (.bin .eql) 45 0 .nil)))) (.cond (.t 46) (.seq (.reg 7 false (Zb 47 11 (Zc 48 .nilchk 47 (Zh 49 36 48 (Zc 50 (.ld .heap .any) 49 (Zb 51 1 (Zg 52 (.call 259 [.b]) 50 51 (Zb 53 52 (.sc 53 true (.op (some 54) (.call 258 [.b]) [] .nil) 54 55 false (Zb 8 55 .nil)))))))))) .ret) .skip)) (.seq (.reg 8 false (Zb 56 13 (Zb 57 3 (Zn 58 (.bin .and) 57 65535 (Zb 59 13 (Zc 60 .len 59 (Zg 61 (.bin .rem) 58 60 (Zg 62 (.idxS 2) 56 61 (Zc 63 (.ldN .heap 2) 62 (.al 14 1 ([ci0,ci0]) (.op none (.stAll (.slot 1) 2) [(.t 14),(.t 63)] .nil))))))))))) (.seq (.reg 9 true (Zc 65 (.ldAll (.slot 0) 3) 9 (Zb 66 1 (Zb 67 11 (Zc 68 .nilchk 67 (Zh 69 36 68 (Zc 70 (.ld .heap .any) 69 (Zn 71 (.idxA 2 1) 14 0 (Zc 72 (.ld (.slot 1) (.i .i64)) 71 (Zn 73 (.idxA 2 1) 14 1 (Zc 74 (.ld (.slot 1) (.i .i64)) 73 (.op (some 75) (.call 269 [.any,.b]) [(.t 65),(.t 66),(.t 70),(.t 72),(.t 74)] (Zb 64 75 (Zc 76 (.ext 0) 64 (Zc 77 (.ext 1) 64 (Zb 15 76 (Zb 16 77 .nil))))))))))))))))) (.seq (.seq (.reg 10 false (Zb 78 16 (Zc 79 (.un .not) 78 .nil))) (.cond (.t 79) (.seq (.reg 11 false (.op (some 8) .mov [(.k (.c (.bool false)))] .nil)) .ret) .skip)) (.seq (.reg 12 false (Zc 81 (.ldAll (.slot 0) 3) 9 (Zb 82 1 (Zb 83 15 (.op (some 84) (.call 186 [.any,(.i .i64)]) [(.t 81),(.t 82),(.t 83)] (Zb 80 84 (Zc 85 (.ext 0) 80 (Zc 86 (.ext 1) 80 (Zb 17 85 (Zb 18 86 .nil)))))))))) (.seq (.seq (.reg 13 false (Zb 87 18 (Zb 88 15 (Zc 89 .len 88 (Zg 90 (.bin .neq) 87 89 .nil))))) (.cond (.t 90) (.seq (.reg 14 false (.op (some 8) .mov [(.k (.c (.bool false)))] .nil)) .ret) .skip)) (.seq (.seq (.reg 15 false (xmk 19 0 .nil)) (.blk 0 (.loop [1,9,10,15,17,19] [0] [(1,[1,9,10,15],[0])] q419_b1))) q419_p1))))))))))))) }
def q256:Fn:={ np:=2,nt:=11,ns:=0,res:=[.t 4 .any],gc:=false,code:=(.seq (.reg 0 false (.op (some 4) .mov [(.k (.c .nils))] .nil)) (.seq (.reg 1 false (Zb 5 0 (Zb 6 1 (Zg 7 (.call 255 [.agg]) 5 6 (Zb 8 0 (Zb 9 1 (.op (some 10) (.call 268 [.any]) [(.t 7),(.t 8),(.t 9)] (Zb 4 10 .nil)))))))) .ret)) }
def q259:Fn:={ np:=2,nt:=10,ns:=0,res:=[.t 4 .b],gc:=false,code:=(.seq (.reg 0 false (.op (some 4) .mov [(.k (.c (.bool false)))] .nil)) (.seq (.reg 1 false (Zb 5 0 (Zb 6 1 (Zg 7 (.call 256 [.any]) 5 6 (Zc 8 .len 7 (Zn 9 (.bin .eql) 8 0 (Zb 4 9 .nil))))))) .ret)) }
def q268_b1:IC:=(.seq (.reg 7 false (Zg 20 (.bin .lss) 19 18 .nil)) (.seq (.cond (.t 20) .skip (.exit 2)) (.seq (.blk 3 (.seq (.reg 8 false (Zb 21 19 (Zb 10 21 .nil))) (.seq (.reg 9 true (Zc 22 (.ldAll (.slot 0) 65) 3 (Zb 23 10 (Zb 24 9 (.op (some 25) (.qcall 3 [.b]) [(.t 22),(.t 23),(.t 24)] (Zb 26 25 (.sc 26 true (Zc 27 (.ldAll (.slot 0) 65) 3 (Zb 28 10 (Zg 29 (.qcall 41 [(.i .u64)]) 27 28 (Zc 30 (.ldAll (.slot 1) 65) 8 (Zb 31 9 (Zg 32 (.qcall 41 [(.i .u64)]) 30 31 (Zg 33 (.bin .and) 29 32 (.op (some 34) (.bin .eql) [(.t 33),(.k (.c (.int .u64 0)))] .nil)))))))) 34 35 false (Zb 36 35 (.sc 36 true (Zb 37 1 (Zb 38 10 (Zg 39 (.idxS 7) 37 38 (Zc 40 (.ldN .heap 7) 39 (Zb 41 1 (Zb 42 9 (Zg 43 (.idxS 7) 41 42 (Zc 44 (.ldN .heap 7) 43 (Zb 45 2 (.op (some 46) (.qcall 274 [.b]) [(.t 40),(.t 44),(.t 45)] .nil)))))))))) 46 47 false .nil))))))))) (.cond (.t 47) (.reg 10 false (Zb 48 7 (Zb 49 10 (Zb 50 9 (Zg 51 (.build ([ci0,ci0]) [(0,1),(1,1)]) 49 50 (Zc 52 (.lit 2 1 ([ci0,ci0]) [(0,2)]) 51 (Zg 53 (.app 2 16) 48 52 (Zb 7 53 .nil)))))))) .skip)))) (.reg 11 false (Zn 54 (.bin .add) 19 1 (Zb 19 54 .nil))))))
def q268_p2:IC:=(.reg 12 false (Zn 55 (.bin .add) 15 1 (Zb 15 55 .nil)))
def q268_b2:IC:=(.seq (.reg 4 false (Zg 16 (.bin .lss) 15 14 .nil)) (.seq (.cond (.t 16) .skip (.exit 0)) (.seq (.blk 1 (.seq (.reg 5 false (Zb 17 15 (Zb 9 17 .nil))) (.seq (.reg 6 false (Zb 18 9 (xmk 19 0 .nil))) (.blk 2 (.loop [1,2,3,7,8,9,14,15,18,19] [0,1] [(3,[1,2,3,7,8,14,15],[0,1])] q268_b1))))) q268_p2)))
def q268_p1:IC:=(.seq (.reg 13 false (Zb 56 7 (Zb 6 56 .nil))) .ret)
def q268:Fn:={ np:=3,nt:=57,ns:=2,res:=[.t 6 .any],gc:=false,code:=(.seq (.reg 0 false (.box 3 0 (.t 0) (.op (some 6) .mov [(.k (.c .nils))] .nil))) (.seq (.reg 1 false (.op (some 7) .mov [(.k (.c .nils))] .nil)) (.seq (.reg 2 false (Zc 11 (.ldAll (.slot 0) 65) 3 (Zc 12 (.call 40 [.agg]) 11 (.al 8 1 ([ci0]++Ya 64 (Cell.int .u64 0)) (.op none (.stAll (.slot 1) 65) [(.t 8),(.t 12)] .nil))))) (.seq (.seq (.reg 3 false (Zc 13 (.ldAll (.slot 0) 65) 3 (Zc 14 (.call 14 [(.i .i64)]) 13 (xmk 15 0 .nil)))) (.blk 0 (.loop [1,2,3,7,8,14,15] [0,1] [(1,[7],[])] q268_b2))) q268_p1)))) }
def q269_b1:IC:=(.seq (.reg 5 false (Zg 35 (.bin .lss) 34 33 .nil)) (.seq (.cond (.t 35) .skip (.exit 0)) (.seq (.blk 1 (.seq (.reg 6 false (Zg 36 (.idxS 7) 32 34 (Zc 37 (.ldN .heap 7) 36 (.al 14 1 (Ya 7 ci0) (.op none (.stAll (.slot 1) 7) [(.t 14),(.t 37)] .nil))))) (.reg 7 false (Zb 38 12 (Zh 39 0 14 (Zc 40 (.ld (.slot 1) (.i .i64)) 39 (Zc 41 (.lit 1 1 ([ci0]) [(0,1)]) 40 (Zg 42 (.app 1 8) 38 41 (Zb 12 42 .nil))))))))) (.reg 8 false (Zn 43 (.bin .add) 34 1 (Zb 34 43 .nil))))))
def q269_b2:IC:=(.seq (.reg 15 false (Zg 67 (.bin .lss) 66 65 .nil)) (.seq (.cond (.t 67) .skip (.exit 2)) (.seq (.blk 3 (.seq (.reg 16 false (Zb 68 66 (Zb 20 68 .nil))) (.seq (.reg 17 false (Zb 69 20 (Zb 70 3 (Zg 71 (.bin .neq) 69 70 (Zb 72 71 (.sc 72 true (Zc 73 (.ldAll (.slot 2) 65) 18 (Zb 74 3 (Zb 75 20 (.op (some 76) (.call 3 [.b]) [(.t 73),(.t 74),(.t 75)] (Zc 77 (.un .not) 76 .nil))))) 77 78 false .nil)))))) (.cond (.t 78) (.reg 18 false (Zb 79 19 (Zb 80 12 (Zb 81 20 (Zg 82 (.idxS 1) 80 81 (Zc 83 (.ld .heap (.i .i64)) 82 (Zc 84 (.lit 1 1 ([ci0]) [(0,1)]) 83 (Zg 85 (.app 1 8) 79 84 (Zb 19 85 .nil))))))))) .skip)))) (.reg 19 false (Zn 86 (.bin .add) 66 1 (Zb 66 86 .nil))))))
def q269_p2:IC:=(.seq (.reg 20 false (Zb 87 19 (Zb 88 12 (Zb 89 4 (Zg 90 (.idxS 1) 88 89 (Zc 91 (.ld .heap (.i .i64)) 90 (Zc 92 (.lit 1 1 ([ci0]) [(0,1)]) 91 (Zg 93 (.app 1 8) 87 92 (Zb 19 93 .nil))))))))) (.seq (.seq (.reg 21 false (Zc 95 (.ldAll (.slot 0) 3) 5 (Zb 96 1 (Zb 97 19 (.op (some 98) (.call 271 [.any,(.i .i64),.b]) [(.t 95),(.t 96),(.t 97)] (Zb 94 98 (Zc 99 (.ext 0) 94 (Zc 100 (.ext 1) 94 (Zc 101 (.ext 2) 94 (Zb 21 99 (Zb 22 100 (Zb 23 101 .nil)))))))))))) (.seq (.reg 22 false (Zb 102 22 (Zb 103 19 (Zc 104 .len 103 (Zg 105 (.bin .neq) 102 104 .nil))))) (.cond (.t 105) (.seq (.reg 23 false (.op (some 10) .mov [(.k (.c .nils))] (.op (some 11) .mov [(.k (.c (.bool false)))] .nil))) .ret) .skip))) (.seq (.reg 24 false (Zb 106 19 (Zb 10 106 (.op (some 11) .mov [(.k (.c (.bool true)))] .nil)))) .ret)))
def q269_p1:IC:=(.seq (.seq (.reg 9 false (Zc 45 (.ldAll (.slot 0) 3) 5 (Zb 46 1 (Zb 47 12 (.op (some 48) (.call 271 [.any,(.i .i64),.b]) [(.t 45),(.t 46),(.t 47)] (Zb 44 48 (Zc 49 (.ext 0) 44 (Zc 50 (.ext 1) 44 (Zc 51 (.ext 2) 44 (Zb 15 49 (Zb 16 50 (Zb 17 51 .nil)))))))))))) (.seq (.reg 10 false (Zb 52 16 (Zb 53 12 (Zc 54 .len 53 (Zg 55 (.bin .neq) 52 54 (Zb 56 55 (.sc 56 false (Zb 57 15 (Zb 58 2 (Zg 59 (.call 276 [.b]) 57 58 (Zc 60 (.un .not) 59 .nil)))) 60 61 true .nil))))))) (.cond (.t 61) (.seq (.reg 11 false (.op (some 10) .mov [(.k (.c .nils))] (.op (some 11) .mov [(.k (.c (.bool false)))] .nil))) .ret) .skip))) (.seq (.reg 12 false (Zb 62 2 (Zb 63 1 (Zg 64 (.call 255 [.agg]) 62 63 (.al 18 2 ([ci0]++Ya 64 (Cell.int .u64 0)) (.op none (.stAll (.slot 2) 65) [(.t 18),(.t 64)] .nil)))))) (.seq (.reg 13 false (.op (some 19) .mov [(.k (.c .nils))] .nil)) (.seq (.seq (.reg 14 false (Zb 65 4 (xmk 66 0 .nil))) (.blk 2 (.loop [1,3,4,5,12,18,19,65,66] [0,2] [(3,[1,4,5,12,19],[0])] q269_b2))) q269_p2))))
def q269:Fn:={ np:=5,nt:=107,ns:=3,res:=[.t 10 .any,.t 11 .b],gc:=false,code:=(.seq (.reg 0 false (.box 5 0 (.t 0) (.op (some 10) .mov [(.k (.c .nils))] (.op (some 11) .mov [(.k (.c (.bool false)))] .nil)))) (.seq (.seq (.reg 1 false (Zb 24 2 (Zb 25 1 (Zg 26 (.call 256 [.any]) 24 25 (Zb 27 3 (Zb 28 4 (Zg 29 (.build ([ci0,ci0]) [(0,1),(1,1)]) 27 28 (Zg 30 (.call 275 [.b]) 26 29 (Zc 31 (.un .not) 30 .nil))))))))) (.cond (.t 31) (.seq (.reg 2 false (.op (some 10) .mov [(.k (.c .nils))] (.op (some 11) .mov [(.k (.c (.bool false)))] .nil))) .ret) .skip)) (.seq (.reg 3 false (.op (some 12) .mov [(.k (.c .nils))] .nil)) (.seq (.seq (.reg 4 false (Zb 32 2 (Zc 33 .len 32 (xmk 34 0 .nil)))) (.blk 0 (.loop [1,2,3,4,5,12,32,33,34] [0] [(1,[1,2,3,4,5,12],[0])] q269_b1))) q269_p1)))) }
def q274:Fn:={ np:=3,nt:=29,ns:=2,res:=[.t 6 .b],gc:=false,code:=(.seq (.reg 0 false (.box 3 0 (.t 0) (.box 4 1 (.t 1) (.op (some 6) .mov [(.k (.c (.bool false)))] .nil)))) (.seq (.reg 1 false (Zh 7 1 3 (Zc 8 (.ld (.slot 0) (.i .i64)) 7 (Zh 9 1 4 (Zc 10 (.ld (.slot 1) (.i .i64)) 9 (Zg 11 (.bin .neq) 8 10 (Zb 12 11 (.sc 12 true (Zh 13 3 3 (Zc 14 (.ld (.slot 0) (.i .i64)) 13 (Zh 15 3 4 (Zc 16 (.ld (.slot 1) (.i .i64)) 15 (Zg 17 (.bin .eql) 14 16 .nil))))) 17 18 false (Zb 19 18 (.sc 19 true (Zc 20 (.ldAll (.slot 0) 7) 3 (Zb 21 2 (Zg 22 (.call 257 [.b]) 20 21 (Zb 23 22 (.sc 23 false (Zc 24 (.ldAll (.slot 1) 7) 4 (Zb 25 2 (Zg 26 (.call 257 [.b]) 24 25 .nil))) 26 27 true .nil))))) 27 28 false (Zb 6 28 .nil))))))))))) .ret)) }
def q255_b1:IC:=(.seq (.seq (.reg 8 false (Zb 27 8 (Zb 28 0 (Zc 29 .len 28 (Zg 30 (.bin .lss) 27 29 .nil))))) (.cond (.t 30) .skip (.exit 2))) (.seq (.blk 3 (.seq (.reg 10 false (Zb 33 0 (Zb 34 8 (Zg 35 (.idxS 7) 33 34 (Zc 36 (.ldN .heap 7) 35 (.al 9 3 (Ya 7 ci0) (.op none (.stAll (.slot 3) 7) [(.t 9),(.t 36)] .nil))))))) (.seq (.reg 11 false (Zc 37 (.ldAll (.slot 2) 7) 7 (Zb 38 1 (Zg 39 (.call 257 [.b]) 37 38 (Zb 40 39 (.sc 40 true (Zc 41 (.ldAll (.slot 3) 7) 9 (Zb 42 1 (Zg 43 (.call 257 [.b]) 41 42 .nil))) 43 44 false (Zb 45 44 (.sc 45 true (Zh 46 3 7 (Zc 47 (.ld (.slot 2) (.i .i64)) 46 (Zh 48 3 9 (Zc 49 (.ld (.slot 3) (.i .i64)) 48 (Zg 50 (.bin .eql) 47 49 .nil))))) 50 51 false (Zb 10 51 .nil))))))))) (.seq (.reg 12 false (Zh 52 0 7 (Zc 53 (.ld (.slot 2) (.i .i64)) 52 (Zh 54 0 9 (Zc 55 (.ld (.slot 3) (.i .i64)) 54 (Zg 56 (.bin .eql) 53 55 (Zb 57 56 (.sc 57 false (Zb 58 10 .nil) 58 59 true (Zb 60 59 (.sc 60 false (Zh 61 2 9 (Zc 62 (.ld (.slot 3) (.i .i64)) 61 (Zn 63 (.bin .eql) 62 6 (Zb 64 63 (.sc 64 true (Zh 65 6 9 (Zc 66 (.ld (.slot 3) (.i .i64)) 65 (Zb 67 6 (Zg 68 (.bin .eql) 66 67 .nil)))) 68 69 false .nil))))) 69 70 true (Zb 71 70 (.sc 71 false (Zh 72 2 7 (Zc 73 (.ld (.slot 2) (.i .i64)) 72 (Zn 74 (.bin .eql) 73 6 (Zb 75 74 (.sc 75 true (Zh 76 1 7 (Zc 77 (.ld (.slot 2) (.i .i64)) 76 (Zh 78 1 9 (Zc 79 (.ld (.slot 3) (.i .i64)) 78 (Zg 80 (.bin .eql) 77 79 .nil))))) 80 81 false (Zb 82 81 (.sc 82 true (Zc 83 (.ldAll (.slot 3) 7) 9 (Zc 84 (.call 265 [.b]) 83 .nil)) 84 85 false .nil))))))) 85 86 true .nil)))))))))))) (.cond (.t 86) (.reg 13 false (Zc 87 (.ldAll (.slot 1) 65) 5 (Zb 88 6 (Zb 89 8 (.op (some 90) (.call 10 [.agg]) [(.t 87),(.t 88),(.t 89)] (.op none (.stAll (.slot 1) 65) [(.t 5),(.t 90)] .nil)))))) .skip))))) (.reg 9 false (Zb 31 8 (Zn 32 (.bin .add) 31 1 (Zb 8 32 .nil))))))
def q255_p3:IC:=(.seq (.reg 14 false (Zc 91 (.ldAll (.slot 2) 7) 7 (Zc 92 (.call 266 [.b]) 91 .nil))) (.cond (.t 92) (.reg 15 false (Zc 93 (.ldAll (.slot 1) 65) 5 (Zb 94 0 (Zb 95 1 (Zb 96 6 (.op (some 97) (.call 267 [.agg]) [(.t 93),(.t 94),(.t 95),(.t 96)] (.op none (.stAll (.slot 1) 65) [(.t 5),(.t 97)] .nil))))))) .skip))
def q255_p2:IC:=(.reg 16 false (Zn 98 (.bin .add) 20 1 (Zb 20 98 .nil)))
def q255_b2:IC:=(.seq (.reg 5 false (Zg 21 (.bin .lss) 20 19 .nil)) (.seq (.cond (.t 21) .skip (.exit 0)) (.seq (.blk 1 (.seq (.reg 6 false (Zb 22 20 (Zg 23 (.idxS 7) 18 20 (Zc 24 (.ldN .heap 7) 23 (.al 7 2 (Ya 7 ci0) (Zb 6 22 (.op none (.stAll (.slot 2) 7) [(.t 7),(.t 24)] .nil))))))) (.seq (.seq (.reg 7 false (Zb 25 6 (Zn 26 (.bin .add) 25 1 (Zb 8 26 .nil)))) (.blk 2 (.loop [0,1,4,5,6,7,8,18,19,20] [0,1,2] [(3,[0,1,4,5,6,7,18,19,20],[0,1,2])] q255_b1))) q255_p3))) q255_p2)))
def q255_p1:IC:=(.seq (.reg 17 false (Zc 99 (.ldAll (.slot 1) 65) 5 (Zc 100 (.call 12 [.agg]) 99 (.op none (.stAll (.slot 0) 65) [(.t 4),(.t 100)] .nil)))) .ret)
def q255:Fn:={ np:=2,nt:=101,ns:=4,res:=[.all (.slot 0) 4 65],gc:=false,code:=(.seq (.reg 0 false (.al 4 0 ([ci0]++Ya 64 (Cell.int .u64 0)) .nil)) (.seq (.seq (.reg 1 false (Zb 11 0 (Zc 12 .len 11 (Zn 13 (.bin .gtr) 12 64 .nil)))) (.cond (.t 13) (.seq (.reg 2 false (.op (some 14) (.call 9 [.agg]) [(.k (.c (.int .i64 0)))] (.op none (.stAll (.slot 0) 65) [(.t 4),(.t 14)] .nil))) .ret) .skip)) (.seq (.reg 3 false (Zb 15 0 (Zc 16 .len 15 (Zc 17 (.call 9 [.agg]) 16 (.al 5 1 ([ci0]++Ya 64 (Cell.int .u64 0)) (.op none (.stAll (.slot 1) 65) [(.t 5),(.t 17)] .nil)))))) (.seq (.seq (.reg 4 false (Zb 18 0 (Zc 19 .len 18 (xmk 20 0 .nil)))) (.blk 0 (.loop [0,1,4,5,18,19,20] [0,1] [(1,[4,5],[0,1])] q255_b2))) q255_p1)))) }
def q257:Fn:={ np:=2,nt:=22,ns:=1,res:=[.t 4 .b],gc:=false,code:=(.seq (.reg 0 false (.box 2 0 (.t 0) (.op (some 4) .mov [(.k (.c (.bool false)))] .nil))) (.seq (.reg 1 false (Zh 5 2 2 (Zc 6 (.ld (.slot 0) (.i .i64)) 5 (Zn 7 (.bin .eql) 6 6 (Zb 8 7 (.sc 8 false (Zh 9 2 2 (Zc 10 (.ld (.slot 0) (.i .i64)) 9 (Zn 11 (.bin .eql) 10 4 .nil))) 11 12 true (Zb 13 12 (.sc 13 false (Zb 14 1 (Zn 15 (.bin .eql) 14 1 (Zb 16 15 (.sc 16 true (Zh 17 2 2 (Zc 18 (.ld (.slot 0) (.i .i64)) 17 (Zn 19 (.bin .eql) 18 2 .nil))) 19 20 false .nil)))) 20 21 true (Zb 4 21 .nil))))))))) .ret)) }
def q265:Fn:={ np:=1,nt:=16,ns:=1,res:=[.t 2 .b],gc:=false,code:=(.seq (.reg 0 false (.box 1 0 (.t 0) (.op (some 2) .mov [(.k (.c (.bool false)))] .nil))) (.seq (.reg 1 false (Zh 3 2 1 (Zc 4 (.ld (.slot 0) (.i .i64)) 3 (Zn 5 (.bin .eql) 4 3 (Zb 6 5 (.sc 6 false (Zh 7 2 1 (Zc 8 (.ld (.slot 0) (.i .i64)) 7 (Zn 9 (.bin .eql) 8 4 .nil))) 9 10 true (Zb 11 10 (.sc 11 false (Zh 12 2 1 (Zc 13 (.ld (.slot 0) (.i .i64)) 12 (Zn 14 (.bin .eql) 13 5 .nil))) 14 15 true (Zb 2 15 .nil))))))))) .ret)) }
def q266:Fn:={ np:=1,nt:=16,ns:=1,res:=[.t 2 .b],gc:=false,code:=(.seq (.reg 0 false (.box 1 0 (.t 0) (.op (some 2) .mov [(.k (.c (.bool false)))] .nil))) (.seq (.reg 1 false (Zh 3 2 1 (Zc 4 (.ld (.slot 0) (.i .i64)) 3 (Zn 5 (.bin .eql) 4 1 (Zb 6 5 (.sc 6 false (Zh 7 2 1 (Zc 8 (.ld (.slot 0) (.i .i64)) 7 (Zn 9 (.bin .eql) 8 4 .nil))) 9 10 true (Zb 11 10 (.sc 11 false (Zh 12 2 1 (Zc 13 (.ld (.slot 0) (.i .i64)) 12 (Zn 14 (.bin .eql) 13 5 .nil))) 14 15 true (Zb 2 15 .nil))))))))) .ret)) }
def q267_b1:IC:=(.seq (.seq (.reg 10 false (Zb 49 11 (Zb 50 1 (Zc 51 .len 50 (Zg 52 (.bin .lss) 49 51 .nil))))) (.cond (.t 52) .skip (.exit 0))) (.seq (.blk 1 (.seq (.reg 12 true (Zb 55 11 (Zb 56 3 (Zg 57 (.bin .neq) 55 56 (Zb 58 57 (.sc 58 true (Zb 59 1 (Zb 60 11 (Zg 61 (.idxS 7) 59 60 (Zc 62 (.ldN .heap 7) 61 (Zb 63 2 (Zg 64 (.qcall 257 [.b]) 62 63 .nil)))))) 64 65 false (Zb 66 65 (.sc 66 true (Zb 67 1 (Zb 68 11 (Zg 69 (.idxS 7) 67 68 (Zh 70 3 69 (Zc 71 (.ld .heap (.i .i64)) 70 (Zh 72 3 9 (Zc 73 (.ld (.slot 2) (.i .i64)) 72 (Zg 74 (.bin .eql) 71 73 .nil)))))))) 74 75 false .nil)))))))) (.cond (.t 75) (.reg 13 false (Zc 76 (.ldAll (.slot 0) 65) 4 (Zb 77 3 (Zb 78 11 (.op (some 79) (.call 10 [.agg]) [(.t 76),(.t 77),(.t 78)] (.op none (.stAll (.slot 0) 65) [(.t 4),(.t 79)] .nil)))))) .skip))) (.reg 11 false (Zb 53 11 (Zn 54 (.bin .add) 53 1 (Zb 11 54 .nil))))))
def q267_p2:IC:=(.seq (.reg 14 false (Zc 80 (.ldAll (.slot 0) 65) 4 (.op none (.stAll (.slot 1) 65) [(.t 8),(.t 80)] .nil))) .ret)
def q267_p1:IC:=(.seq (.seq (.reg 9 false (Zb 47 10 (Zn 48 (.bin .add) 47 1 (Zb 11 48 .nil)))) (.blk 0 (.loop [1,2,3,4,8,9,11] [0,1,2] [(1,[4,8],[0,1])] q267_b1))) q267_p2)
def q267:Fn:={ np:=4,nt:=81,ns:=3,res:=[.all (.slot 1) 8 65],gc:=false,code:=(.seq (.reg 0 false (.box 4 0 (.t 0) (.al 8 1 ([ci0]++Ya 64 (Cell.int .u64 0)) .nil))) (.seq (.reg 1 false (Zb 12 1 (Zb 13 3 (Zg 14 (.idxS 7) 12 13 (Zc 15 (.ldN .heap 7) 14 (.al 9 2 (Ya 7 ci0) (.op none (.stAll (.slot 2) 7) [(.t 9),(.t 15)] .nil))))))) (.seq (.reg 2 false (xmk 10 (-1) .nil)) (.cut [1,2,3,4,8,9,10] [0,1,2] [(0,[8],[1])] (.seq (.reg 3 false (Zh 16 6 9 (Zc 17 (.ld (.slot 2) (.i .i64)) 16 (Zn 18 (.bin .geq) 17 0 (Zb 19 18 (.sc 19 true (Zh 20 6 9 (Zc 21 (.ld (.slot 2) (.i .i64)) 20 (Zb 22 1 (Zc 23 .len 22 (Zg 24 (.bin .lss) 21 23 .nil))))) 24 25 false .nil)))))) (.cond (.t 25) (.seq (.seq (.reg 4 false (Zb 26 1 (Zb 27 2 (Zh 28 6 9 (Zc 29 (.ld (.slot 2) (.i .i64)) 28 (.op (some 30) (.call 273 [(.i .i64)]) [(.t 26),(.t 27),(.t 29)] (Zb 10 30 .nil))))))) (.seq (.reg 5 false (Zb 31 10 (Zn 32 (.bin .lss) 31 0 .nil))) (.cond (.t 32) (.seq (.reg 6 false (Zc 33 (.ldAll (.slot 0) 65) 4 (.op none (.stAll (.slot 1) 65) [(.t 8),(.t 33)] .nil))) .ret) .skip))) (.seq (.reg 7 true (Zb 34 1 (Zh 35 6 9 (Zc 36 (.ld (.slot 2) (.i .i64)) 35 (Zg 37 (.idxS 7) 34 36 (Zh 38 1 37 (Zc 39 (.ld .heap (.i .i64)) 38 (Zh 40 1 9 (Zc 41 (.ld (.slot 2) (.i .i64)) 40 (Zg 42 (.bin .neq) 39 41 .nil)))))))))) (.cond (.t 42) (.reg 8 false (Zc 43 (.ldAll (.slot 0) 65) 4 (Zb 44 10 (Zb 45 3 (.op (some 46) (.call 10 [.agg]) [(.t 43),(.t 44),(.t 45)] (.op none (.stAll (.slot 0) 65) [(.t 4),(.t 46)] .nil)))))) .skip))) .skip)) q267_p1)))) }
def q273:Fn:={ np:=3,nt:=17,ns:=0,res:=[.t 6 (.i .i64)],gc:=true,code:=(.seq (.reg 0 false (Zc 5 .boxH 2 (xmk 6 0 .nil))) (.seq (.seq (.reg 1 false (Zb 7 0 (Zc 8 (.ld .heap (.i .i64)) 5 (Zg 9 (.idxS 7) 7 8 (Zc 10 (.ldN .heap 7) 9 (Zb 11 1 (Zg 12 (.call 257 [.b]) 10 11 .nil))))))) (.cond (.t 12) (.seq (.reg 2 false (Zc 13 (.ld .heap (.i .i64)) 5 (Zb 6 13 .nil))) .ret) .skip)) (.seq (.reg 3 false (Zb 14 0 (Zc 15 (.mkfn 282) 5 (Zg 16 (.call 283 [(.i .i64)]) 14 15 (Zb 6 16 .nil))))) .ret))) }
def q282:Fn:={ np:=2,nt:=13,ns:=1,res:=[.t 3 .b],gc:=false,code:=(.seq (.reg 0 false (.box 2 0 (.t 0) (.op (some 3) .mov [(.k (.c (.bool false)))] .nil))) (.seq (.reg 1 false (Zh 4 2 2 (Zc 5 (.ld (.slot 0) (.i .i64)) 4 (Zn 6 (.bin .eql) 5 6 (Zb 7 6 (.sc 7 true (Zh 8 6 2 (Zc 9 (.ld (.slot 0) (.i .i64)) 8 (Zc 10 (.ld .heap (.i .i64)) 1 (Zg 11 (.bin .eql) 9 10 .nil)))) 11 12 false (Zb 3 12 .nil))))))) .ret)) }
def q302:Fn:={ np:=3,nt:=32,ns:=2,res:=[.all (.slot 1) 6 3,.t 7 .b],gc:=false,code:=(.seq (.reg 0 false (.box 3 0 (.t 0) (.al 6 1 ([Cell.nils,Cell.nils,Cell.nils]) (.op (some 7) .mov [(.k (.c (.bool false)))] .nil)))) (.seq (.reg 1 false (Zc 12 (.ldAll (.slot 0) 3) 3 (Zb 13 1 (Zb 14 2 (.op (some 15) (.call 271 [.any,(.i .i64),.b]) [(.t 12),(.t 13),(.t 14)] (Zb 11 15 (Zc 16 (.ext 0) 11 (Zc 17 (.ext 1) 11 (Zc 18 (.ext 2) 11 (Zb 8 16 (Zb 9 17 (Zb 10 18 .nil)))))))))))) (.seq (.seq (.reg 2 false (Zb 19 9 (Zb 20 2 (Zc 21 .len 20 (Zg 22 (.bin .neq) 19 21 (Zb 23 22 (.sc 23 false (Zb 24 10 (Zc 25 (.un .not) 24 .nil)) 25 26 true .nil))))))) (.cond (.t 26) (.seq (.reg 3 false (.op (some 27) (.build ([Cell.nils,Cell.nils,Cell.nils]) []) [] (.op none (.stAll (.slot 1) 3) [(.t 6),(.t 27)] (.op (some 7) .mov [(.k (.c (.bool false)))] .nil)))) .ret) .skip)) (.seq (.reg 4 false (Zc 28 (.ldAll (.slot 0) 3) 3 (Zb 29 1 (Zb 30 8 (.op (some 31) (.call 315 [.agg]) [(.t 28),(.t 29),(.t 30)] (.op none (.stAll (.slot 1) 3) [(.t 6),(.t 31)] (.op (some 7) .mov [(.k (.c (.bool true)))] .nil))))))) .ret)))) }
def q315_b1:IC:=(.seq (.reg 8 false (Zg 31 (.bin .lss) 30 29 .nil)) (.seq (.cond (.t 31) .skip (.exit 2)) (.seq (.blk 3 (.seq (.reg 9 false (Zb 32 30 (Zg 33 (.idxS 7) 28 30 (Zc 34 (.ldN .heap 7) 33 (.al 12 3 (Ya 7 ci0) (Zb 11 32 (.op none (.stAll (.slot 3) 7) [(.t 12),(.t 34)] .nil))))))) (.seq (.reg 10 false (Zh 35 1 12 (Zc 36 (.ld (.slot 3) (.i .i64)) 35 (Zb 37 9 (Zg 38 (.bin .eql) 36 37 (Zb 39 38 (.sc 39 true (Zh 40 2 12 (Zc 41 (.ld (.slot 3) (.i .i64)) 40 (Zn 42 (.bin .neq) 41 6 .nil))) 42 43 false .nil))))))) (.cond (.t 43) (.seq (.reg 11 false (Zb 44 8 (Zb 45 11 (Zh 46 0 7 (Zc 47 (.ld (.slot 2) .any) 46 (Zc 48 .len 47 (Zg 49 (.idxS 1) 44 45 (.op none (.st .heap) [(.t 49),(.t 48)] .nil)))))))) (.seq (.reg 12 false (Zh 50 0 7 (Zc 51 (.ld (.slot 2) .any) 50 (Zb 52 9 (Zb 53 10 (Zh 54 2 12 (Zc 55 (.ld (.slot 3) (.i .i64)) 54 (Zh 56 3 12 (Zc 57 (.ld (.slot 3) (.i .i64)) 56 (Zh 58 4 12 (Zc 59 (.ld (.slot 3) (.i .i64)) 58 (Zh 60 5 12 (Zc 61 (.ld (.slot 3) (.i .i64)) 60 (.op (some 62) (.build ([ci0,ci0,ci0,ci0,ci0,ci0]) [(0,1),(1,1),(2,1),(3,1),(4,1),(5,1)]) [(.t 52),(.t 53),(.t 55),(.t 57),(.t 59),(.t 61)] (Zc 63 (.lit 6 1 ([ci0,ci0,ci0,ci0,ci0,ci0]) [(0,6)]) 62 (Zg 64 (.app 6 48) 51 63 (Zh 65 0 7 (.op none (.st (.slot 2)) [(.t 65),(.t 64)] .nil)))))))))))))))))) (.reg 13 false (Zb 66 10 (Zn 67 (.bin .add) 66 1 (Zb 10 67 .nil)))))) .skip)))) (.reg 14 false (Zn 68 (.bin .add) 30 1 (Zb 30 68 .nil))))))
def q315_p2:IC:=(.reg 15 false (Zn 69 (.bin .add) 25 1 (Zb 25 69 .nil)))
def q315_b2:IC:=(.seq (.reg 4 false (Zg 26 (.bin .lss) 25 24 .nil)) (.seq (.cond (.t 26) .skip (.exit 0)) (.seq (.blk 1 (.seq (.reg 5 false (Zb 27 25 (Zb 9 27 .nil))) (.seq (.reg 6 false (xmk 10 0 .nil)) (.seq (.reg 7 false (Zb 28 2 (Zc 29 .len 28 (xmk 30 0 .nil)))) (.blk 2 (.loop [1,2,3,6,7,8,9,10,24,25,28,29,30] [0,1,2] [(3,[1,2,3,6,7,8,24,25],[0,1,2])] q315_b1)))))) q315_p2)))
def q315_b3:IC:=(.seq (.reg 18 false (Zg 80 (.bin .lss) 79 78 .nil)) (.seq (.cond (.t 80) .skip (.exit 4)) (.seq (.blk 5 (.seq (.reg 19 false (Zb 81 79 (Zb 13 81 .nil))) (.reg 20 false (Zh 82 2 7 (Zc 83 (.ld (.slot 2) .any) 82 (Zb 84 13 (Zc 85 (.bslice 1 1 ([ci0]) [(0,1)]) 84 (Zc 86 (.lit 1 1 ([Cell.nils]) [(0,1)]) 85 (Zg 87 (.app 1 24) 83 86 (Zh 88 2 7 (.op none (.st (.slot 2)) [(.t 88),(.t 87)] .nil))))))))))) (.reg 21 false (Zn 89 (.bin .add) 79 1 (Zb 79 89 .nil))))))
def q315_p6:IC:=(.blk 8 (.seq (.reg 29 false (Zh 124 2 15 (Zc 125 (.ld (.slot 4) (.i .i64)) 124 (Zn 126 (.bin .eql) 125 6 (Zb 123 126 .nil))))) (.cond (.t 123) (.reg 30 true (Zh 127 2 7 (Zc 128 (.ld (.slot 2) .any) 127 (Zh 129 3 15 (Zc 130 (.ld (.slot 4) (.i .i64)) 129 (Zh 131 2 7 (Zc 132 (.ld (.slot 2) .any) 131 (Zh 133 3 15 (Zc 134 (.ld (.slot 4) (.i .i64)) 133 (Zg 135 (.idxS 1) 132 134 (Zc 136 (.ld .heap .any) 135 (Zb 137 8 (Zh 138 6 15 (Zc 139 (.ld (.slot 4) (.i .i64)) 138 (Zg 140 (.idxS 1) 137 139 (Zc 141 (.ld .heap (.i .i64)) 140 (Zc 142 (.lit 1 1 ([ci0]) [(0,1)]) 141 (Zg 143 (.app 1 8) 136 142 (Zg 144 (.idxS 1) 128 130 (.op none (.st .heap) [(.t 144),(.t 143)] .nil)))))))))))))))))))) (.seq (.reg 31 false (Zc 146 (.ldAll (.slot 4) 7) 15 (Zb 147 1 (Zg 148 (.call 257 [.b]) 146 147 (Zb 145 148 .nil))))) (.cond (.t 145) (.reg 32 true (Zh 149 2 7 (Zc 150 (.ld (.slot 2) .any) 149 (Zh 151 3 15 (Zc 152 (.ld (.slot 4) (.i .i64)) 151 (Zh 153 2 7 (Zc 154 (.ld (.slot 2) .any) 153 (Zh 155 3 15 (Zc 156 (.ld (.slot 4) (.i .i64)) 155 (Zg 157 (.idxS 1) 154 156 (Zc 158 (.ld .heap .any) 157 (Zb 159 8 (Zb 160 14 (Zg 161 (.idxS 1) 159 160 (Zc 162 (.ld .heap (.i .i64)) 161 (Zc 163 (.lit 1 1 ([ci0]) [(0,1)]) 162 (Zg 164 (.app 1 8) 158 163 (Zg 165 (.idxS 1) 150 152 (.op none (.st .heap) [(.t 165),(.t 164)] .nil))))))))))))))))))) .skip)))))
def q315_p5:IC:=(.reg 33 false (Zn 166 (.bin .add) 92 1 (Zb 92 166 .nil)))
def q315_b4:IC:=(.seq (.reg 23 false (Zg 93 (.bin .lss) 92 91 .nil)) (.seq (.cond (.t 93) .skip (.exit 6)) (.seq (.blk 7 (.seq (.reg 24 false (Zb 94 92 (Zg 95 (.idxS 7) 90 92 (Zc 96 (.ldN .heap 7) 95 (.al 15 4 (Ya 7 ci0) (Zb 14 94 (.op none (.stAll (.slot 4) 7) [(.t 15),(.t 96)] .nil))))))) (.cut [1,6,7,8,14,15,90,91,92] [1,2,4] [] (.seq (.reg 25 false (Zc 97 (.ldAll (.slot 4) 7) 15 (Zc 98 (.call 266 [.b]) 97 .nil))) (.cond (.t 98) (.seq (.reg 26 true (Zh 99 1 7 (Zc 100 (.ld (.slot 2) .any) 99 (Zb 101 8 (Zb 102 14 (Zg 103 (.idxS 1) 101 102 (Zc 104 (.ld .heap (.i .i64)) 103 (Zh 105 3 15 (Zc 106 (.ld (.slot 4) (.i .i64)) 105 (Zg 107 (.idxS 1) 100 104 (.op none (.st .heap) [(.t 107),(.t 106)] .nil))))))))))) (.seq (.reg 27 false (Zh 108 6 15 (Zc 109 (.ld (.slot 4) (.i .i64)) 108 (Zn 110 (.bin .geq) 109 0 .nil)))) (.cond (.t 110) (.reg 28 true (Zh 111 1 7 (Zc 112 (.ld (.slot 2) .any) 111 (Zb 113 8 (Zb 114 14 (Zg 115 (.idxS 1) 113 114 (Zc 116 (.ld .heap (.i .i64)) 115 (Zb 117 8 (Zh 118 6 15 (Zc 119 (.ld (.slot 4) (.i .i64)) 118 (Zg 120 (.idxS 1) 117 119 (Zc 121 (.ld .heap (.i .i64)) 120 (Zg 122 (.idxS 1) 112 116 (.op none (.st .heap) [(.t 122),(.t 121)] .nil)))))))))))))) .skip))) .skip)) q315_p6))) q315_p5)))
def q315_p4:IC:=(.seq (.reg 34 false (Zc 167 (.ldAll (.slot 2) 3) 7 (.op none (.stAll (.slot 1) 3) [(.t 6),(.t 167)] .nil))) .ret)
def q315_p3:IC:=(.seq (.seq (.reg 22 false (Zb 90 2 (Zc 91 .len 90 (xmk 92 0 .nil)))) (.blk 6 (.loop [1,6,7,8,90,91,92] [1,2] [(7,[6,7],[1,2])] q315_b4))) q315_p4)
def q315_p1:IC:=(.seq (.reg 16 false (.op (some 70) (.bslice 1 1 ([ci0]) [(0,1)]) [(.k (.c (.int .i64 (-1))))] (Zh 71 0 7 (Zc 72 (.ld (.slot 2) .any) 71 (Zc 73 .len 72 (Zg 74 (.call 340 [.any]) 70 73 (Zh 75 1 7 (.op none (.st (.slot 2)) [(.t 75),(.t 74)] .nil)))))))) (.seq (.seq (.reg 17 false (Zh 76 0 3 (Zc 77 (.ld (.slot 0) .any) 76 (Zc 78 .len 77 (xmk 79 0 .nil))))) (.blk 4 (.loop [1,2,6,7,8,78,79] [1,2] [(5,[1,2,6,7,8],[1,2])] q315_b3))) q315_p3))
def q315:Fn:={ np:=3,nt:=168,ns:=5,res:=[.all (.slot 1) 6 3],gc:=false,code:=(.seq (.reg 0 false (.box 3 0 (.t 0) (.al 6 1 ([Cell.nils,Cell.nils,Cell.nils]) .nil))) (.seq (.reg 1 false (Zc 16 (.ldAll (.slot 0) 3) 3 (Zc 17 (.call 88 [.any]) 16 (Zc 18 (.build ([Cell.nils,Cell.nils,Cell.nils]) [(0,1)]) 17 (.al 7 2 ([Cell.nils,Cell.nils,Cell.nils]) (.op none (.stAll (.slot 2) 3) [(.t 7),(.t 18)] .nil)))))) (.seq (.reg 2 false (Zb 19 2 (Zc 20 .len 19 (Zg 21 (.mks 1 ([ci0]) 8) 20 20 (Zb 8 21 .nil))))) (.seq (.seq (.reg 3 false (Zh 22 2 3 (Zc 23 (.ld (.slot 0) .any) 22 (Zc 24 .len 23 (xmk 25 0 .nil))))) (.blk 0 (.loop [1,2,3,6,7,8,24,25] [0,1,2] [(1,[1,2,3,6,7,8],[0,1,2])] q315_b2))) q315_p1)))) }
def q415:Fn:={ np:=4,nt:=36,ns:=3,res:=[.t 8 .b],gc:=false,code:=(.seq (.reg 0 false (.box 4 0 (.t 0) (.op (some 8) .mov [(.k (.c (.bool false)))] .nil))) (.seq (.reg 1 false (Zc 14 (.ldAll (.slot 0) 3) 4 (Zb 15 1 (Zb 16 2 (.op (some 17) (.call 302 [.agg,.b]) [(.t 14),(.t 15),(.t 16)] (Zb 13 17 (Zc 18 (.ext 0) 13 (Zc 19 (.ext 1) 13 (.al 9 1 ([Cell.nils,Cell.nils,Cell.nils]) (.op none (.stAll (.slot 1) 3) [(.t 9),(.t 18)] (Zb 10 19 .nil))))))))))) (.seq (.reg 2 false (Zc 21 (.ldAll (.slot 0) 3) 4 (Zb 22 1 (Zb 23 3 (.op (some 24) (.call 302 [.agg,.b]) [(.t 21),(.t 22),(.t 23)] (Zb 20 24 (Zc 25 (.ext 0) 20 (Zc 26 (.ext 1) 20 (.al 11 2 ([Cell.nils,Cell.nils,Cell.nils]) (.op none (.stAll (.slot 2) 3) [(.t 11),(.t 25)] (Zb 12 26 .nil))))))))))) (.seq (.reg 3 false (Zb 27 10 (Zb 28 27 (.sc 28 true (Zb 29 12 .nil) 29 30 false (Zb 31 30 (.sc 31 true (Zc 32 (.ldAll (.slot 1) 3) 9 (Zc 33 (.ldAll (.slot 2) 3) 11 (Zg 34 (.call 303 [.b]) 32 33 .nil))) 34 35 false (Zb 8 35 .nil))))))) .ret)))) }
structure q257_In (E:Env):Prop where
 fn:E.fn 257=some q257
structure q265_In (E:Env):Prop where
 fn:E.fn 265=some q265
structure q266_In (E:Env):Prop where
 fn:E.fn 266=some q266
structure q282_In (E:Env):Prop where
 fn:E.fn 282=some q282
structure q273_In (E:Env):Prop where
 fn:E.fn 273=some q273
 c257:q257_In E
 c282:q282_In E
 c283:q283_In E
structure q267_In (E:Env):Prop where
 fn:E.fn 267=some q267
 c10:q10_In E
 c257:q257_In E
 c273:q273_In E
structure q255_In (E:Env):Prop where
 fn:E.fn 255=some q255
 c9:q9_In E
 c10:q10_In E
 c12:q12_In E
 c257:q257_In E
 c265:q265_In E
 c266:q266_In E
 c267:q267_In E
structure q315_In (E:Env):Prop where
 fn:E.fn 315=some q315
 c88:q88_In E
 c257:q257_In E
 c266:q266_In E
 c340:q340_In E
structure q302_In (E:Env):Prop where
 fn:E.fn 302=some q302
 c271:q271_In E
 c315:q315_In E
structure q415_In (E:Env):Prop where
 fn:E.fn 415=some q415
 c302:q302_In E
 c303:q303_In E
structure q274_In (E:Env):Prop where
 fn:E.fn 274=some q274
 c257:q257_In E
structure q268_In (E:Env):Prop where
 fn:E.fn 268=some q268
 c3:q3_In E
 c14:q14_In E
 c40:q40_In E
 c41:q41_In E
 c274:q274_In E
structure q256_In (E:Env):Prop where
 fn:E.fn 256=some q256
 c255:q255_In E
 c268:q268_In E
structure q259_In (E:Env):Prop where
 fn:E.fn 259=some q259
 c256:q256_In E
structure q269_In (E:Env):Prop where
 fn:E.fn 269=some q269
 c3:q3_In E
 c255:q255_In E
 c256:q256_In E
 c271:q271_In E
 c275:q275_In E
 c276:q276_In E
structure q258_In (E:Env):Prop where
 fn:E.fn 258=some q258
 c186:q186_In E
 c256:q256_In E
 c259:q259_In E
 c269:q269_In E
structure q419_In (E:Env):Prop where
 fn:E.fn 419=some q419
 c76:q76_In E
 c181:q181_In E
 c182:q182_In E
 c186:q186_In E
 c254:q254_In E
 c256:q256_In E
 c258:q258_In E
 c259:q259_In E
 c269:q269_In E
 c415:q415_In E
section
variable (C:Zab) (L:Zbv) (G:Glo)
variable {h0:Za}
variable {a0 a1:Int}
theorem q17_eq:q17.body C L G [(.c (.int .u64 a0)),(.c (.int .i64 a1))] h0=c1 (C 19 [(.c (.int .i64 a1))] h0) fun y h=>Zk .u64 y fun n=>some ([(.c (.bool ((G.band .u64 a0 n) != 0)))],h):=by kernel_rfl
theorem q18_eq:q18.body C L G [(.c (.int .u64 a0)),(.c (.int .i64 a1))] h0=c1 (C 19 [(.c (.int .i64 a1))] h0) fun y h=>Zk .u64 y fun n=>some ([(.c (.int .u64 (G.bor .u64 a0 n)))],h):=by kernel_rfl
theorem q19_eq:q19.body C L G [(.c (.int .i64 a0))] h0=scK (decide (a0<0)) false (some ((decide (a0>=64)),h0)) true h0 fun b h=>if b=true then some ([(.c (.int .u64 0))],h) else if (G.wrap .u64 a0)<0 then none else some ([(.c (.int .u64 (G.shl .u64 1 (G.wrap .u64 a0))))],h):=by kernel_rfl
theorem q38_eq:q38.body C L G [(.c (.int .u64 a0))] h0=if (a0==0)=true then some ([(.c (.int .i64 (-1)))],h0) else c1 (C 42 [(.c (.int .u64 a0))] h0) fun y h=>Zk .i64 y fun n=>some ([(.c (.int .i64 n))],h):=by kernel_rfl
end
section
def Zgj (i:Int):Nat:=if 0<=i/\i<64 then 2 ^ i.toNat else 0
theorem Zku (i:Int):Zgj i<2 ^ 64:=by
 unfold Zgj;split
 ·exact Ys (by omega) (by omega)
 ·omega
theorem testBit_bitI (i:Int) (j:Nat):(Zgj i).testBit j=(decide (i=j)&&decide (j<64)):=by
 unfold Zgj;split
 ·rename_i h
  rw [Yg]
  rw [Yc];simp;omega
 ·rename_i h
  rw [Yac,eq_comm,Bool.eq_false_iff];simp;omega
def Zor (s:Nat) (i:Int):Bool:=decide (0<=i)&&s.testBit i.toNat&&decide (i<64)
theorem and_bitI {s:Nat} (i:Int):((s &&& Zgj i) != 0)=Zor s i:=by
 unfold Zor Zgj
 by_cases h:0<=i/\i<64
 ·rw [if_pos h]
  simp only [h.1,h.2,decide_true,Yl,Yv]
  cases hb:s.testBit i.toNat with
  | true =>
   simp only [bne_iff_ne,ne_eq]
   intro h0
   have:=congrArg (fun x=>x.testBit i.toNat) h0
   simp [Yn,hb,Yg] at this
  | false =>
   have:s &&& 2 ^ i.toNat=0:=by
    refine Yt fun j=>?_
    rw [Yn,Yg,Yac]
    by_cases hj:i.toNat=j
    ·subst hj;simp [hb]
    ·simp [hj]
   simp [this]
 ·rw [if_neg h]
  have:¬(0<=i)∨¬(i<64):=by omega
  rcases this with h | h<;>simp [h]
theorem Zon {s i:Nat} (hi:i<64):Zor s (i:Int)=s.testBit i:=by
 unfold Zor;simp;omega
variable {E:Env}
theorem bit_R (hE:q19_In E) (i:Int) (h:Za):R E 19 [.c (.int .i64 i)] h=some ([.c (.int .u64 (Zgj i))],h):=by
 refine Zd hE.fn ?_
 rw [q19_eq,scK_or]
 unfold Zgj
 by_cases hi:0<=i/\i<64
 ·have h1:(decide (i<0)||decide (i>=64))=false:=by simp;omega
  rw [h1,if_pos hi]
  obtain ⟨n,rfl⟩:=Int.eq_ofNat_of_zero_le hi.1
  have hw:E.glob.wrap .u64 (n:Int)=n:=Zio (by omega)
  rw [hw]
  simp only [Yd,if_false]
  rw [if_neg (by omega),show E.glob.shl .u64 1 (n:Int)=_ from Zvl (by omega)]
  simp
 ·have h1:(decide (i<0)||decide (i>=64))=true:=by simp;omega
  rw [h1,if_neg hi];simp
theorem Ztv (hE:q17_In E) {s:Nat} (hs:s<2 ^ 64) (i:Int) (h:Za):R E 17 [.c (.int .u64 s),.c (.int .i64 i)] h=some ([.c (.bool (Zor s i))],h):=by
 refine Zd hE.fn ?_
 rw [q17_eq,bit_R hE.c19,c1_ok,asI_ok,show E.glob.band .u64 (s:Int) _=_ from Zvr hs (Zku i),←and_bitI]
 have:(((s &&& Zgj i:Nat):Int) != 0)=(s &&& Zgj i != 0):=by rw [Yc];simp
 rw [this]
theorem Zot (hE:q18_In E) {s:Nat} (hs:s<2 ^ 64) (i:Int) (h:Za):R E 18 [.c (.int .u64 s),.c (.int .i64 i)] h=some ([.c (.int .u64 ((s ||| Zgj i:Nat):Int))],h):=by
 refine Zd hE.fn ?_
 rw [q18_eq,bit_R hE.c19,c1_ok,asI_ok,show E.glob.bor .u64 (s:Int) _=_ from std_bor hs (Zku i)]
end
section
variable (C:Zab) (L:Zbv) (G:Glo)
variable {h0:Za}
variable {a0 a1:Int}
theorem q42_eq:q42.body C L G [(.c (.int .u64 a0))] h0=if (a0==0)=true then some ([(.c (.int .i64 64))],h0) else let v:Int:=(G.wrap .u64 ((G.band .u64 a0 (G.wrap .u64 (0 - a0)))*285870213051353865));if 0<=(G.shr .u64 v 58)/\(G.shr .u64 v 58)<((64:Nat):Int) then Ze (G.tab 1) (0+((Yb (G.shr .u64 v 58))*1)) fun q=>Zk .u8 (.c q) fun n=>some ([(.c (.int .i64 (G.wrap .i64 n)))],h0) else none:=by kernel_rfl
theorem q369_eq:q369.body C L G [(.c (.int .u64 a0)),(.c (.int .u64 a1))] h0=c2 (C 392 [(.c (.int .u64 a0)),(.c (.int .u64 a1))] h0) fun y y1 h=>Zk .u64 y fun n=>Zk .u64 y1 fun n1=>some ([(.c (.int .u64 n)),(.c (.int .u64 n1))],h):=by kernel_rfl
theorem q392_eq:q392.body C L G [(.c (.int .u64 a0)),(.c (.int .u64 a1))] h0=let v:Int:=(G.wrap .u64 ((G.band .u64 a0 4294967295)*(G.band .u64 a1 4294967295)));let v1:Int:=(G.wrap .u64 ((G.shr .u64 a0 32)*(G.band .u64 a1 4294967295)));let v2:Int:=(G.wrap .u64 (v1+(G.shr .u64 v 32)));let v:Int:=(G.wrap .u64 ((G.band .u64 a0 4294967295)*(G.shr .u64 a1 32)));let v1:Int:=(G.wrap .u64 ((G.band .u64 v2 4294967295)+v));let v:Int:=(G.wrap .u64 ((G.shr .u64 a0 32)*(G.shr .u64 a1 32)));let v3:Int:=(G.wrap .u64 (v+(G.shr .u64 v2 32)));let v:Int:=(G.wrap .u64 (v3+(G.shr .u64 v1 32)));some ([(.c (.int .u64 v)),(.c (.int .u64 (G.wrap .u64 (a0*a1))))],h0):=by kernel_rfl
end
section
def pcN:Nat->Nat->Nat
 | 0,_=>0
 | k+1,x=>x % 2+pcN k (x / 2)
def pc (x:Nat):Nat:=pcN 64 x
variable {E:Env}
theorem sh_by {k m:Nat} (hk:k<=64) (hm:2 ^ k=m) (y:Nat):E.glob.shr .u64 (y:Int) (k:Int)=((y / m:Nat):Int):=by
 rw [Zyw hk,Nat.shiftRight_eq_div_pow,hm]
end
section
variable {E:Env}
theorem mul_wrap (y:Nat):E.glob.wrap .u64 ((y:Int)*285870213051353865)=((y*285870213051353865 % 18446744073709551616:Nat):Int):=by
 show IntKind.wrap .u64 _=_
 simp only [IntKind.wrap,IntKind.signed,IntKind.bits,Yi,Yd,if_false];omega
theorem neg_wrap {x:Nat} (hx:x<2 ^ 64) (h0:x≠0):E.glob.wrap .u64 (0 - (x:Int))=((2 ^ 64 - x:Nat):Int):=by
 show IntKind.wrap .u64 _=_
 simp only [IntKind.wrap,IntKind.signed,IntKind.bits,Yi,Yd,if_false];omega
theorem shr58 (y:Nat):E.glob.shr .u64 (y:Int) 58=((y / 288230376151711744:Nat):Int):=sh_by (k:=58) (by omega) (by decide) y
theorem getD_some {L:List Nat} {n i k:Nat} (hn:L.length=n) (hi:i<n) (hd:L.getD i 0=k):L[i]? = some k:=by
 rw [List.getD_eq_getElem?_getD] at hd
 cases h:L[i]? with
 | none=>rw [List.getElem?_eq_none_iff] at h;omega
 | some x=>rw [h] at hd;exact congrArg some hd
theorem deB_len:Go.Lib.deBruijn64tab.length=64:=by decide
theorem Znk (hE:q42_In E) (htab:∀k,k<64->(E.tab 1)[k]? = (Go.Lib.deBruijn64tab[k]?).map fun (n:Nat)=>Cell.int .u8 (n:Int)) {x:Nat} (hx:x<2 ^ 64) (h0:x≠0) (h:Za) :
  R E 42 [.c (.int .u64 x)] h=some ([.c (.int .i64 (Go.Lib.ctz 64 x))],h):=by
 refine Zd hE.fn ?_
 have hne:((x:Int)==0)=false:=by rw [beq_eq_false_iff_ne];omega
 obtain ⟨q1,q2⟩:=Go.Lib.lowest_bit 64 x h0 hx
 rw [q42_eq,hne,neg_wrap hx h0,Zlt hx (by omega),q1,mul_wrap]
 dsimp only
 rw [shr58]
 simp only [Yd,if_false]
 obtain ⟨d1,d2⟩:=Go.Lib.deBruijn64_at (Go.Lib.ctz 64 x) q2
 generalize Go.Lib.ctz 64 x=k at *
 generalize 2 ^ k*285870213051353865 % 18446744073709551616 / 288230376151711744=i at *
 have hc:(E.glob.tab 1)[0+(i:Int).toNat*1]? = some (.int .u8 (k:Int)):=by
  rw [Ym,Ye,Nat.zero_add]
  show (E.tab 1)[i]? = _
  rw [htab i d1,getD_some deB_len d1 d2]
  rfl
 have hi:0<=(i:Int)/\(i:Int)<((64:Nat):Int):=⟨Int.natCast_nonneg _,by exact_mod_cast d1⟩
 rw [if_pos hi,Zae hc,asI_ok,Zj (by omega) (by omega)]
end
section
def Zbu (s:Nat):List Nat:=(Yh 64).filter fun i=>s.testBit i
theorem mem_bitsL {s i:Nat}:i∈Zbu s↔i<64/\s.testBit i=true:=by simp [Zbu]
theorem Zvs {s:Nat} (hs:s<2 ^ 64) (h0:s≠0):∃m,s=2 ^ (Lib.ctz 64 s+1)*m+2 ^ Lib.ctz 64 s/\Lib.ctz 64 s<64:=by
 have:Lib.ctz 64 s=Lib.ctzFrom 64 s:=by unfold Lib.ctz;rw [if_neg h0]
 rw [this]
 obtain ⟨m,h1,h2⟩:=Lib.ctzFrom_spec 64 s (by omega) hs
 refine ⟨m,?_,h2⟩
 conv=>lhs;rw [h1]
 rw [Nat.mul_add,Ye,←Nat.mul_assoc,Nat.pow_succ]
theorem low_bit {s:Nat} (hs:s<2 ^ 64) (h0:s≠0):s.testBit (Lib.ctz 64 s)=true/\(∀j,j<Lib.ctz 64 s->s.testBit j=false)/\∀j,(s &&& (s - 1)).testBit j=(s.testBit j&&decide (j≠Lib.ctz 64 s)):=by
 obtain ⟨m,h1,h2⟩:=Zvs hs h0
 generalize Lib.ctz 64 s=k at h1 h2
 have hp:0<2 ^ k:=Nat.two_pow_pos k
 have hlt:2 ^ k<2 ^ (k+1):=by rw [Nat.pow_succ];omega
 have t1:∀j,s.testBit j=if j<k+1 then decide (j=k) else m.testBit (j - (k+1)):=by
  intro j
  rw [h1,Yk _ hlt]
  split
  ·rw [Yg,Yc];simp;exact eq_comm
  ·rfl
 have t2:∀j,(s - 1).testBit j=if j<k+1 then decide (j<k) else m.testBit (j - (k+1)):=by
  intro j
  have:s - 1=2 ^ (k+1)*m+(2 ^ k - 1):=by omega
  rw [this,Yk _ (by omega)]
  split
  ·rw [Nat.testBit_two_pow_sub_one]
  ·rfl
 refine ⟨by rw [t1,if_pos (by omega)];simp,fun j hj=>by rw [t1,if_pos (by omega)];simp;omega,fun j=>?_⟩
 rw [Yn,t1,t2]
 split
 ·rw [Yc];simp;omega
 ·rename_i hj
  have:decide (j≠k)=true:=by simp;omega
  rw [this,Bool.and_self,Yv]
theorem Zpa {s:Nat} (hs:s<2 ^ 64) (h0:s≠0):Zbu s=Lib.ctz 64 s :: Zbu (s &&& (s - 1)):=by
 obtain ⟨b1,b2,b3⟩:=low_bit hs h0
 obtain ⟨_,_,hk⟩:=Zvs hs h0
 generalize Lib.ctz 64 s=k at b1 b2 b3 hk
 unfold Zbu
 have hr:Yh 64=Yh k++k :: List.range' (k+1) (64 - (k+1)):=by
  rw [Yu,Yu]
  have:(64:Nat)=k+(1+(64 - (k+1))):=by omega
  conv=>lhs;rw [this]
  rw [List.range'_append_1.symm,Nat.zero_add,Yx 1,List.range'_succ]
 rw [hr,Yy,Yy,Yad,Yad,if_pos b1,b3 k]
 have e1:(Yh k).filter (fun i=>s.testBit i)=[]:=Yp.2 fun x hx=>by rw [b2 x (by simpa using hx)];simp
 have e2:(Yh k).filter (fun i=>(s &&& (s - 1)).testBit i)=[]:=Yp.2 fun x hx=>by rw [b3,b2 x (by simpa using hx)];simp
 rw [e1,e2,Yae,Yae,if_neg (by simp)]
 congr 1
 refine List.filter_congr fun x hx=>?_
 rw [List.mem_range'_1] at hx
 rw [b3]
 have:decide (x≠k)=true:=by simp;omega
 rw [this,Yv]
theorem Zty {s:Nat} (h0:s≠0):s &&& (s - 1)<s:=Nat.lt_of_le_of_lt Nat.and_le_right (by omega)
theorem Zke:Zbu 0=[]:=by decide
theorem Zq744 {s:Nat} (hs:s<2 ^ 64):Zbu s=[]↔s=0:=by
 constructor
 ·intro h
  by_cases h0:s=0
  ·exact h0
  ·rw [Zpa hs h0] at h;cases h
 ·rintro rfl;exact Zke
def Zsk (s:Nat):Int:=if s=0 then -1 else Lib.ctz 64 s
def Zil (E:Env):Prop:=∀k,k<64->(E.tab 1)[k]? = (Lib.deBruijn64tab[k]?).map fun (n:Nat)=>Cell.int .u8 (n:Int)
variable {E:Env}
theorem Zyq (hE:q38_In E) (ht:Zil E) {s:Nat} (hs:s<2 ^ 64) (h:Za):R E 38 [.c (.int .u64 s)] h=some ([.c (.int .i64 (Zsk s))],h):=by
 refine Zd hE.fn ?_
 rw [q38_eq]
 unfold Zsk
 by_cases h0:s=0
 ·subst h0;simp
 ·have hne:((s:Int)==0)=false:=by rw [beq_eq_false_iff_ne];omega
  rw [hne,if_neg h0]
  simp only [Yd,if_false]
  rw [Znk hE.c42 ht hs h0,c1_ok,asI_ok]
def Zvp (l:List Nat):List Cell:=intC .i64 (l.map fun (n:Nat)=>(n:Int))
theorem natC_snoc (l:List Nat) (n:Nat):Zvp (l++[n])=Zvp l++[.int .i64 n]:=by simp [Zvp,intC]
theorem natC_get {l:List Nat} {i n:Nat} (h:l[i]? = some n):(Zvp l)[i]? = some (.int .i64 n):=by simp [Zvp,intC,h]
end
end Jq
namespace Go.Proofs.YtjamopobfdnlkaaGreatDoor.LRaceGoes
open Go Jq
def seatFn:Nat->Nat
 | 3=>28
 | 9=>45
 | 10=>48
 | 12=>51
 | 14=>42
 | 16=>59
 | 17=>60
 | 18=>67
 | 19=>73
 | 38=>66
 | 40=>41
 | 41=>43
 | 42=>82
 | 76=>5
 | 80=>112
 | 81=>32
 | 88=>75
 | 92=>62
 | 93=>74
 | 94=>87
 | 97=>17
 | 101=>16
 | 102=>97
 | 104=>40
 | 105=>91
 | 106=>113
 | 107=>34
 | 108=>123
 | 109=>110
 | 110=>61
 | 111=>33
 | 113=>108
 | 114=>107
 | 115=>39
 | 119=>106
 | 121=>37
 | 122=>38
 | 123=>63
 | 124=>125
 | 125=>124
 | 139=>126
 | 148=>100
 | 155=>101
 | 156=>120
 | 158=>98
 | 159=>103
 | 163=>121
 | 164=>122
 | 171=>69
 | 172=>72
 | 173=>70
 | 174=>58
 | 175=>57
 | 180=>18
 | 181=>13
 | 182=>14
 | 186=>7
 | 188=>85
 | 189=>86
 | 190=>88
 | 191=>92
 | 192=>93
 | 193=>89
 | 194=>90
 | 195=>71
 | 196=>29
 | 197=>30
 | 198=>31
 | 200=>99
 | 201=>102
 | 202=>104
 | 203=>105
 | 204=>115
 | 205=>109
 | 206=>111
 | 207=>114
 | 254=>6
 | 255=>20
 | 256=>8
 | 257=>46
 | 258=>11
 | 259=>10
 | 265=>47
 | 266=>49
 | 267=>50
 | 268=>19
 | 269=>12
 | 271=>26
 | 273=>68
 | 274=>44
 | 275=>25
 | 276=>27
 | 278=>56
 | 282=>84
 | 283=>83
 | 284=>55
 | 302=>35
 | 303=>36
 | 315=>64
 | 316=>65
 | 340=>76
 | 341=>79
 | 342=>78
 | 343=>80
 | 344=>81
 | 345=>77
 | 369=>94
 | 370=>95
 | 371=>96
 | 391=>116
 | 392=>117
 | 393=>118
 | 394=>119
 | 415=>15
 | 419=>4
 | _=>0
def envFn:Nat->Option Jq.Fn
 | 3=>some q3
 | 9=>some q9
 | 10=>some q10
 | 12=>some q12
 | 14=>some q14
 | 16=>some q16
 | 17=>some q17
 | 18=>some q18
 | 19=>some q19
 | 38=>some q38
 | 40=>some q40
 | 41=>some q41
 | 42=>some q42
 | 76=>some q76
 | 80=>some q80
 | 81=>some q81
 | 88=>some q88
 | 92=>some q92
 | 93=>some q93
 | 94=>some q94
 | 97=>some q97
 | 101=>some q101
 | 102=>some q102
 | 104=>some q104
 | 105=>some q105
 | 106=>some q106
 | 107=>some q107
 | 108=>some q108
 | 109=>some q109
 | 110=>some q110
 | 111=>some q111
 | 113=>some q113
 | 114=>some q114
 | 115=>some q115
 | 119=>some q119
 | 121=>some q121
 | 122=>some q122
 | 123=>some q123
 | 124=>some q124
 | 125=>some q125
 | 139=>some q139
 | 148=>some q148
 | 155=>some q155
 | 156=>some q156
 | 158=>some q158
 | 159=>some q159
 | 163=>some q163
 | 164=>some q164
 | 171=>some q171
 | 172=>some q172
 | 173=>some q173
 | 174=>some q174
 | 175=>some q175
 | 180=>some q180
 | 181=>some q181
 | 182=>some q182
 | 186=>some q186
 | 188=>some q188
 | 189=>some q189
 | 190=>some q190
 | 191=>some q191
 | 192=>some q192
 | 193=>some q193
 | 194=>some q194
 | 195=>some q195
 | 196=>some q196
 | 197=>some q197
 | 198=>some q198
 | 200=>some q200
 | 201=>some q201
 | 202=>some q202
 | 203=>some q203
 | 204=>some q204
 | 205=>some q205
 | 206=>some q206
 | 207=>some q207
 | 254=>some q254
 | 255=>some q255
 | 256=>some q256
 | 257=>some q257
 | 258=>some q258
 | 259=>some q259
 | 265=>some q265
 | 266=>some q266
 | 267=>some q267
 | 268=>some q268
 | 269=>some q269
 | 271=>some q271
 | 273=>some q273
 | 274=>some q274
 | 275=>some q275
 | 276=>some q276
 | 278=>some q278
 | 282=>some q282
 | 283=>some q283
 | 284=>some q284
 | 302=>some q302
 | 303=>some q303
 | 315=>some q315
 | 316=>some q316
 | 340=>some q340
 | 341=>some q341
 | 342=>some q342
 | 343=>some q343
 | 344=>some q344
 | 345=>some q345
 | 369=>some q369
 | 370=>some q370
 | 371=>some q371
 | 391=>some q391
 | 392=>some q392
 | 393=>some q393
 | 394=>some q394
 | 415=>some q415
 | 419=>some q419
 | _=>none
def deB:List Int:=[0,1,56,2,57,49,28,3,61,58,42,50,38,29,17,4,62,47,59,36,45,43,51,22,53,39,33,30,24,18,12,5,63,55,48,27,60,41,37,16,46,35,44,21,52,32,23,11,54,26,40,15,34,20,31,10,25,14,19,9,13,8,7,6]
def seatTab:Nat->List Cell:=fun k=>if k=1 then deB.map (Cell.int .u8) else []
noncomputable def seat:Seat:={ P:=Tryz.prog,fn:=seatFn,gl:=fun _=>0,tab:=seatTab }
def env:Env:={ fn:=envFn,tab:=seatTab }
theorem tabOk:Zil env:=by
 have:∀k,k<64->(seatTab 1)[k]? = (Lib.deBruijn64tab[k]?).map fun (n:Nat)=>Cell.int .u8 (n:Int):=by decide +kernel
 exact this
theorem mixed:true=true->seat.P.follows .mixedOrders=true:=fun _=>by kernel_rfl
theorem okW {g : Nat} {fn : Jq.Fn} {mf : Func} {c : Code} (h : seat.P.funcs[seat.fn g]? = some mf) (hb : mf.body = some c) (k : (!(mf.name == "runtime.NumGoroutine") && mf.ntmps == fn.nt && mRs seat.P fn.res mf.results.toList && mC' seat (fn.np + (fn.nt - fn.np)) (drK seat true) fn.code c) = true) : FnOk seat g fn := by
 simp only [Yf,Bool.not_eq_true',beq_iff_eq] at k
 exact ⟨⟨mf,c,drK seat true,h,hb,by simpa using k.1.1.1,k.1.1.2,k.1.2,k.2,fun _ _ h=>Zyf mixed h⟩⟩
theorem ok_3:FnOk seat 3 q3:=okW Tryz.func28 rfl (by kernel_rfl)
theorem ok_9:FnOk seat 9 q9:=okW Tryz.func45 rfl (by kernel_rfl)
theorem ok_10:FnOk seat 10 q10:=okW Tryz.func48 rfl (by kernel_rfl)
theorem ok_12:FnOk seat 12 q12:=okW Tryz.func51 rfl (by kernel_rfl)
theorem ok_14:FnOk seat 14 q14:=okW Tryz.func42 rfl (by kernel_rfl)
theorem ok_16:FnOk seat 16 q16:=okW Tryz.func59 rfl (by kernel_rfl)
theorem ok_17:FnOk seat 17 q17:=okW Tryz.func60 rfl (by kernel_rfl)
theorem ok_18:FnOk seat 18 q18:=okW Tryz.func67 rfl (by kernel_rfl)
theorem ok_19:FnOk seat 19 q19:=okW Tryz.func73 rfl (by kernel_rfl)
theorem ok_38:FnOk seat 38 q38:=okW Tryz.func66 rfl (by kernel_rfl)
theorem ok_40:FnOk seat 40 q40:=okW Tryz.func41 rfl (by kernel_rfl)
theorem ok_41:FnOk seat 41 q41:=okW Tryz.func43 rfl (by kernel_rfl)
theorem ok_42:FnOk seat 42 q42:=okW Tryz.func82 rfl (by kernel_rfl)
theorem ok_76:FnOk seat 76 q76:=okW Tryz.func5 rfl (by kernel_rfl)
theorem ok_80:FnOk seat 80 q80:=okW Tryz.func112 rfl (by kernel_rfl)
theorem ok_81:FnOk seat 81 q81:=okW Tryz.func32 rfl (by kernel_rfl)
theorem ok_88:FnOk seat 88 q88:=okW Tryz.func75 rfl (by kernel_rfl)
theorem ok_92:FnOk seat 92 q92:=okW Tryz.func62 rfl (by kernel_rfl)
theorem ok_93:FnOk seat 93 q93:=okW Tryz.func74 rfl (by kernel_rfl)
theorem ok_94:FnOk seat 94 q94:=okW Tryz.func87 rfl (by kernel_rfl)
theorem ok_97:FnOk seat 97 q97:=okW Tryz.func17 rfl (by kernel_rfl)
theorem ok_101:FnOk seat 101 q101:=okW Tryz.func16 rfl (by kernel_rfl)
theorem ok_102:FnOk seat 102 q102:=okW Tryz.func97 rfl (by kernel_rfl)
theorem ok_104:FnOk seat 104 q104:=okW Tryz.func40 rfl (by kernel_rfl)
theorem ok_105:FnOk seat 105 q105:=okW Tryz.func91 rfl (by kernel_rfl)
theorem ok_106:FnOk seat 106 q106:=okW Tryz.func113 rfl (by kernel_rfl)
theorem ok_107:FnOk seat 107 q107:=okW Tryz.func34 rfl (by kernel_rfl)
theorem ok_108:FnOk seat 108 q108:=okW Tryz.func123 rfl (by kernel_rfl)
theorem ok_109:FnOk seat 109 q109:=okW Tryz.func110 rfl (by kernel_rfl)
theorem ok_110:FnOk seat 110 q110:=okW Tryz.func61 rfl (by kernel_rfl)
theorem ok_111:FnOk seat 111 q111:=okW Tryz.func33 rfl (by kernel_rfl)
theorem ok_113:FnOk seat 113 q113:=okW Tryz.func108 rfl (by kernel_rfl)
theorem ok_114:FnOk seat 114 q114:=okW Tryz.func107 rfl (by kernel_rfl)
theorem ok_115:FnOk seat 115 q115:=okW Tryz.func39 rfl (by kernel_rfl)
theorem ok_119:FnOk seat 119 q119:=okW Tryz.func106 rfl (by kernel_rfl)
theorem ok_121:FnOk seat 121 q121:=okW Tryz.func37 rfl (by kernel_rfl)
theorem ok_122:FnOk seat 122 q122:=okW Tryz.func38 rfl (by kernel_rfl)
theorem ok_123:FnOk seat 123 q123:=okW Tryz.func63 rfl (by kernel_rfl)
theorem ok_124:FnOk seat 124 q124:=okW Tryz.func125 rfl (by kernel_rfl)
theorem ok_125:FnOk seat 125 q125:=okW Tryz.func124 rfl (by kernel_rfl)
theorem ok_139:FnOk seat 139 q139:=okW Tryz.func126 rfl (by kernel_rfl)
theorem ok_148:FnOk seat 148 q148:=okW Tryz.func100 rfl (by kernel_rfl)
theorem ok_155:FnOk seat 155 q155:=okW Tryz.func101 rfl (by kernel_rfl)
theorem ok_156:FnOk seat 156 q156:=okW Tryz.func120 rfl (by kernel_rfl)
theorem ok_158:FnOk seat 158 q158:=okW Tryz.func98 rfl (by kernel_rfl)
theorem ok_159:FnOk seat 159 q159:=okW Tryz.func103 rfl (by kernel_rfl)
theorem ok_163:FnOk seat 163 q163:=okW Tryz.func121 rfl (by kernel_rfl)
theorem ok_164:FnOk seat 164 q164:=okW Tryz.func122 rfl (by kernel_rfl)
theorem ok_171:FnOk seat 171 q171:=okW Tryz.func69 rfl (by kernel_rfl)
theorem ok_172:FnOk seat 172 q172:=okW Tryz.func72 rfl (by kernel_rfl)
theorem ok_173:FnOk seat 173 q173:=okW Tryz.func70 rfl (by kernel_rfl)
theorem ok_174:FnOk seat 174 q174:=okW Tryz.func58 rfl (by kernel_rfl)
theorem ok_175:FnOk seat 175 q175:=okW Tryz.func57 rfl (by kernel_rfl)
theorem ok_180:FnOk seat 180 q180:=okW Tryz.func18 rfl (by kernel_rfl)
theorem ok_181:FnOk seat 181 q181:=okW Tryz.func13 rfl (by kernel_rfl)
theorem ok_182:FnOk seat 182 q182:=okW Tryz.func14 rfl (by kernel_rfl)
theorem ok_186:FnOk seat 186 q186:=okW Tryz.func7 rfl (by kernel_rfl)
theorem ok_188:FnOk seat 188 q188:=okW Tryz.func85 rfl (by kernel_rfl)
theorem ok_189:FnOk seat 189 q189:=okW Tryz.func86 rfl (by kernel_rfl)
theorem ok_190:FnOk seat 190 q190:=okW Tryz.func88 rfl (by kernel_rfl)
theorem ok_191:FnOk seat 191 q191:=okW Tryz.func92 rfl (by kernel_rfl)
theorem ok_192:FnOk seat 192 q192:=okW Tryz.func93 rfl (by kernel_rfl)
theorem ok_193:FnOk seat 193 q193:=okW Tryz.func89 rfl (by kernel_rfl)
theorem ok_194:FnOk seat 194 q194:=okW Tryz.func90 rfl (by kernel_rfl)
theorem ok_195:FnOk seat 195 q195:=okW Tryz.func71 rfl (by kernel_rfl)
theorem ok_196:FnOk seat 196 q196:=okW Tryz.func29 rfl (by kernel_rfl)
theorem ok_197:FnOk seat 197 q197:=okW Tryz.func30 rfl (by kernel_rfl)
theorem ok_198:FnOk seat 198 q198:=okW Tryz.func31 rfl (by kernel_rfl)
theorem ok_200:FnOk seat 200 q200:=okW Tryz.func99 rfl (by kernel_rfl)
theorem ok_201:FnOk seat 201 q201:=okW Tryz.func102 rfl (by kernel_rfl)
theorem ok_202:FnOk seat 202 q202:=okW Tryz.func104 rfl (by kernel_rfl)
theorem ok_203:FnOk seat 203 q203:=okW Tryz.func105 rfl (by kernel_rfl)
theorem ok_204:FnOk seat 204 q204:=okW Tryz.func115 rfl (by kernel_rfl)
theorem ok_205:FnOk seat 205 q205:=okW Tryz.func109 rfl (by kernel_rfl)
theorem ok_206:FnOk seat 206 q206:=okW Tryz.func111 rfl (by kernel_rfl)
theorem ok_207:FnOk seat 207 q207:=okW Tryz.func114 rfl (by kernel_rfl)
theorem ok_254:FnOk seat 254 q254:=okW Tryz.func6 rfl (by kernel_rfl)
theorem ok_255:FnOk seat 255 q255:=okW Tryz.func20 rfl (by kernel_rfl)
theorem ok_256:FnOk seat 256 q256:=okW Tryz.func8 rfl (by kernel_rfl)
theorem ok_257:FnOk seat 257 q257:=okW Tryz.func46 rfl (by kernel_rfl)
theorem ok_258:FnOk seat 258 q258:=okW Tryz.func11 rfl (by kernel_rfl)
theorem ok_259:FnOk seat 259 q259:=okW Tryz.func10 rfl (by kernel_rfl)
theorem ok_265:FnOk seat 265 q265:=okW Tryz.func47 rfl (by kernel_rfl)
theorem ok_266:FnOk seat 266 q266:=okW Tryz.func49 rfl (by kernel_rfl)
theorem ok_267:FnOk seat 267 q267:=okW Tryz.func50 rfl (by kernel_rfl)
theorem ok_268:FnOk seat 268 q268:=okW Tryz.func19 rfl (by kernel_rfl)
theorem ok_269:FnOk seat 269 q269:=okW Tryz.func12 rfl (by kernel_rfl)
theorem ok_271:FnOk seat 271 q271:=okW Tryz.func26 rfl (by kernel_rfl)
theorem ok_273:FnOk seat 273 q273:=okW Tryz.func68 rfl (by kernel_rfl)
theorem ok_274:FnOk seat 274 q274:=okW Tryz.func44 rfl (by kernel_rfl)
theorem ok_275:FnOk seat 275 q275:=okW Tryz.func25 rfl (by kernel_rfl)
theorem ok_276:FnOk seat 276 q276:=okW Tryz.func27 rfl (by kernel_rfl)
theorem ok_278:FnOk seat 278 q278:=okW Tryz.func56 rfl (by kernel_rfl)
theorem ok_282:FnOk seat 282 q282:=okW Tryz.func84 rfl (by kernel_rfl)
theorem ok_283:FnOk seat 283 q283:=okW Tryz.func83 rfl (by kernel_rfl)
theorem ok_284:FnOk seat 284 q284:=okW Tryz.func55 rfl (by kernel_rfl)
theorem ok_302:FnOk seat 302 q302:=okW Tryz.func35 rfl (by kernel_rfl)
theorem ok_303:FnOk seat 303 q303:=okW Tryz.func36 rfl (by kernel_rfl)
theorem ok_315:FnOk seat 315 q315:=okW Tryz.func64 rfl (by kernel_rfl)
theorem ok_316:FnOk seat 316 q316:=okW Tryz.func65 rfl (by kernel_rfl)
theorem ok_340:FnOk seat 340 q340:=okW Tryz.func76 rfl (by kernel_rfl)
theorem ok_341:FnOk seat 341 q341:=okW Tryz.func79 rfl (by kernel_rfl)
theorem ok_342:FnOk seat 342 q342:=okW Tryz.func78 rfl (by kernel_rfl)
theorem ok_343:FnOk seat 343 q343:=okW Tryz.func80 rfl (by kernel_rfl)
theorem ok_344:FnOk seat 344 q344:=okW Tryz.func81 rfl (by kernel_rfl)
theorem ok_345:FnOk seat 345 q345:=okW Tryz.func77 rfl (by kernel_rfl)
theorem ok_369:FnOk seat 369 q369:=okW Tryz.func94 rfl (by kernel_rfl)
theorem ok_370:FnOk seat 370 q370:=okW Tryz.func95 rfl (by kernel_rfl)
theorem ok_371:FnOk seat 371 q371:=okW Tryz.func96 rfl (by kernel_rfl)
theorem ok_391:FnOk seat 391 q391:=okW Tryz.func116 rfl (by kernel_rfl)
theorem ok_392:FnOk seat 392 q392:=okW Tryz.func117 rfl (by kernel_rfl)
theorem ok_393:FnOk seat 393 q393:=okW Tryz.func118 rfl (by kernel_rfl)
theorem ok_394:FnOk seat 394 q394:=okW Tryz.func119 rfl (by kernel_rfl)
theorem ok_415:FnOk seat 415 q415:=okW Tryz.func15 rfl (by kernel_rfl)
theorem ok_419:FnOk seat 419 q419:=okW Tryz.func4 rfl (by kernel_rfl)
theorem allOk:∀g fn,env.fn g=some fn->FnOk seat g fn:=by
 intro g fn h
 unfold env envFn at h
 dsimp only at h
 split at h
 ·cases h;exact ok_3
 ·cases h;exact ok_9
 ·cases h;exact ok_10
 ·cases h;exact ok_12
 ·cases h;exact ok_14
 ·cases h;exact ok_16
 ·cases h;exact ok_17
 ·cases h;exact ok_18
 ·cases h;exact ok_19
 ·cases h;exact ok_38
 ·cases h;exact ok_40
 ·cases h;exact ok_41
 ·cases h;exact ok_42
 ·cases h;exact ok_76
 ·cases h;exact ok_80
 ·cases h;exact ok_81
 ·cases h;exact ok_88
 ·cases h;exact ok_92
 ·cases h;exact ok_93
 ·cases h;exact ok_94
 ·cases h;exact ok_97
 ·cases h;exact ok_101
 ·cases h;exact ok_102
 ·cases h;exact ok_104
 ·cases h;exact ok_105
 ·cases h;exact ok_106
 ·cases h;exact ok_107
 ·cases h;exact ok_108
 ·cases h;exact ok_109
 ·cases h;exact ok_110
 ·cases h;exact ok_111
 ·cases h;exact ok_113
 ·cases h;exact ok_114
 ·cases h;exact ok_115
 ·cases h;exact ok_119
 ·cases h;exact ok_121
 ·cases h;exact ok_122
 ·cases h;exact ok_123
 ·cases h;exact ok_124
 ·cases h;exact ok_125
 ·cases h;exact ok_139
 ·cases h;exact ok_148
 ·cases h;exact ok_155
 ·cases h;exact ok_156
 ·cases h;exact ok_158
 ·cases h;exact ok_159
 ·cases h;exact ok_163
 ·cases h;exact ok_164
 ·cases h;exact ok_171
 ·cases h;exact ok_172
 ·cases h;exact ok_173
 ·cases h;exact ok_174
 ·cases h;exact ok_175
 ·cases h;exact ok_180
 ·cases h;exact ok_181
 ·cases h;exact ok_182
 ·cases h;exact ok_186
 ·cases h;exact ok_188
 ·cases h;exact ok_189
 ·cases h;exact ok_190
 ·cases h;exact ok_191
 ·cases h;exact ok_192
 ·cases h;exact ok_193
 ·cases h;exact ok_194
 ·cases h;exact ok_195
 ·cases h;exact ok_196
 ·cases h;exact ok_197
 ·cases h;exact ok_198
 ·cases h;exact ok_200
 ·cases h;exact ok_201
 ·cases h;exact ok_202
 ·cases h;exact ok_203
 ·cases h;exact ok_204
 ·cases h;exact ok_205
 ·cases h;exact ok_206
 ·cases h;exact ok_207
 ·cases h;exact ok_254
 ·cases h;exact ok_255
 ·cases h;exact ok_256
 ·cases h;exact ok_257
 ·cases h;exact ok_258
 ·cases h;exact ok_259
 ·cases h;exact ok_265
 ·cases h;exact ok_266
 ·cases h;exact ok_267
 ·cases h;exact ok_268
 ·cases h;exact ok_269
 ·cases h;exact ok_271
 ·cases h;exact ok_273
 ·cases h;exact ok_274
 ·cases h;exact ok_275
 ·cases h;exact ok_276
 ·cases h;exact ok_278
 ·cases h;exact ok_282
 ·cases h;exact ok_283
 ·cases h;exact ok_284
 ·cases h;exact ok_302
 ·cases h;exact ok_303
 ·cases h;exact ok_315
 ·cases h;exact ok_316
 ·cases h;exact ok_340
 ·cases h;exact ok_341
 ·cases h;exact ok_342
 ·cases h;exact ok_343
 ·cases h;exact ok_344
 ·cases h;exact ok_345
 ·cases h;exact ok_369
 ·cases h;exact ok_370
 ·cases h;exact ok_371
 ·cases h;exact ok_391
 ·cases h;exact ok_392
 ·cases h;exact ok_393
 ·cases h;exact ok_394
 ·cases h;exact ok_415
 ·cases h;exact ok_419
 ·cases h
theorem in_115:q115_In env:={ fn:=rfl }
theorem in_97:q97_In env:={ fn:=rfl,c115:=in_115 }
theorem in_121:q121_In env:={ fn:=rfl }
theorem in_122:q122_In env:={ fn:=rfl }
theorem in_101:q101_In env:={ fn:=rfl,c121:=in_121,c122:=in_122 }
theorem in_76:q76_In env:={ fn:=rfl,c97:=in_97,c101:=in_101 }
theorem in_110:q110_In env:={ fn:=rfl }
theorem in_81:q81_In env:={ fn:=rfl,c110:=in_110 }
theorem in_197:q197_In env:={ fn:=rfl }
theorem in_198:q198_In env:={ fn:=rfl }
theorem in_196:q196_In env:={ fn:=rfl,c81:=in_81,c197:=in_197,c198:=in_198 }
theorem in_181:q181_In env:={ fn:=rfl,c196:=in_196 }
theorem in_92:q92_In env:={ fn:=rfl }
theorem in_93:q93_In env:={ fn:=rfl }
theorem in_123:q123_In env:={ fn:=rfl,c92:=in_92,c93:=in_93 }
theorem in_107:q107_In env:={ fn:=rfl,c81:=in_81,c123:=in_123 }
theorem in_111:q111_In env:={ fn:=rfl,c92:=in_92 }
theorem Zxg:q182_In env:={ fn:=rfl,c81:=in_81,c107:=in_107,c111:=in_111,c196:=in_196,c197:=in_197,c198:=in_198 }
theorem in_104:q104_In env:={ fn:=rfl,c110:=in_110,c123:=in_123 }
theorem in_180:q180_In env:={ fn:=rfl,c104:=in_104 }
theorem in_186:q186_In env:={ fn:=rfl,c180:=in_180,c182:=Zxg }
theorem in_254:q254_In env:={ fn:=rfl,c180:=in_180,c181:=in_181,c182:=Zxg }
theorem in_9:q9_In env:={ fn:=rfl }
theorem in_16:q16_In env:={ fn:=rfl }
theorem in_19:q19_In env:={ fn:=rfl }
theorem in_18:q18_In env:={ fn:=rfl,c19:=in_19 }
theorem in_10:q10_In env:={ fn:=rfl,c16:=in_16,c18:=in_18 }
theorem in_17:q17_In env:={ fn:=rfl,c19:=in_19 }
theorem in_12:q12_In env:={ fn:=rfl,c17:=in_17 }
theorem Zpn:q257_In env:={ fn:=rfl }
theorem in_265:q265_In env:={ fn:=rfl }
theorem in_266:q266_In env:={ fn:=rfl }
theorem in_282:q282_In env:={ fn:=rfl }
theorem in_283:q283_In env:={ fn:=rfl }
theorem in_273:q273_In env:={ fn:=rfl,c257:=Zpn,c282:=in_282,c283:=in_283 }
theorem in_267:q267_In env:={ fn:=rfl,c10:=in_10,c257:=Zpn,c273:=in_273 }
theorem in_255:q255_In env:={ fn:=rfl,c9:=in_9,c10:=in_10,c12:=in_12,c257:=Zpn,c265:=in_265,c266:=in_266,c267:=in_267 }
theorem in_3:q3_In env:={ fn:=rfl,c16:=in_16,c17:=in_17 }
theorem in_14:q14_In env:={ fn:=rfl }
theorem in_42:q42_In env:={ fn:=rfl }
theorem in_38:q38_In env:={ fn:=rfl,c42:=in_42 }
theorem in_40:q40_In env:={ fn:=rfl,c9:=in_9,c18:=in_18,c38:=in_38 }
theorem in_41:q41_In env:={ fn:=rfl,c16:=in_16 }
theorem in_274:q274_In env:={ fn:=rfl,c257:=Zpn }
theorem in_268:q268_In env:={ fn:=rfl,c3:=in_3,c14:=in_14,c40:=in_40,c41:=in_41,c274:=in_274 }
theorem Zsh:q256_In env:={ fn:=rfl,c255:=in_255,c268:=in_268 }
theorem in_259:q259_In env:={ fn:=rfl,c256:=Zsh }
theorem Zxh:q113_In env:={ fn:=rfl }
theorem Zwt:q105_In env:={ fn:=rfl,c113:=Zxh }
theorem in_191:q191_In env:={ fn:=rfl }
theorem in_204:q204_In env:={ fn:=rfl }
theorem in_192:q192_In env:={ fn:=rfl,c204:=in_204 }
theorem in_172:q172_In env:={ fn:=rfl,c18:=in_18,c105:=Zwt,c191:=in_191,c192:=in_192 }
theorem in_174:q174_In env:={ fn:=rfl,c172:=in_172 }
theorem in_195:q195_In env:={ fn:=rfl }
theorem in_175:q175_In env:={ fn:=rfl,c195:=in_195 }
theorem in_108:q108_In env:={ fn:=rfl }
theorem in_124:q124_In env:={ fn:=rfl }
theorem in_139:q139_In env:={ fn:=rfl }
theorem in_125:q125_In env:={ fn:=rfl,c139:=in_139 }
theorem in_114:q114_In env:={ fn:=rfl,c108:=in_108,c124:=in_124,c125:=in_125 }
theorem in_94:q94_In env:={ fn:=rfl,c113:=Zxh,c114:=in_114 }
theorem in_102:q102_In env:={ fn:=rfl }
theorem in_148:q148_In env:={ fn:=rfl }
theorem in_156:q156_In env:={ fn:=rfl }
theorem in_155:q155_In env:={ fn:=rfl,c156:=in_156 }
theorem in_158:q158_In env:={ fn:=rfl }
theorem in_200:q200_In env:={ fn:=rfl }
theorem in_164:q164_In env:={ fn:=rfl }
theorem in_163:q163_In env:={ fn:=rfl,c164:=in_164 }
theorem in_159:q159_In env:={ fn:=rfl,c163:=in_163,c164:=in_164 }
theorem in_201:q201_In env:={ fn:=rfl,c159:=in_159 }
theorem in_188:q188_In env:={ fn:=rfl,c102:=in_102,c148:=in_148,c155:=in_155,c158:=in_158,c200:=in_200,c201:=in_201 }
theorem in_119:q119_In env:={ fn:=rfl }
theorem in_202:q202_In env:={ fn:=rfl }
theorem in_203:q203_In env:={ fn:=rfl }
theorem in_189:q189_In env:={ fn:=rfl,c119:=in_119,c202:=in_202,c203:=in_203 }
theorem in_190:q190_In env:={ fn:=rfl }
theorem in_171:q171_In env:={ fn:=rfl,c94:=in_94,c188:=in_188,c189:=in_189,c190:=in_190 }
theorem in_80:q80_In env:={ fn:=rfl }
theorem in_106:q106_In env:={ fn:=rfl,c105:=Zwt,c113:=Zxh,c114:=in_114,c124:=in_124 }
theorem in_109:q109_In env:={ fn:=rfl,c108:=in_108 }
theorem in_205:q205_In env:={ fn:=rfl }
theorem in_206:q206_In env:={ fn:=rfl }
theorem in_193:q193_In env:={ fn:=rfl,c80:=in_80,c105:=Zwt,c106:=in_106,c109:=in_109,c205:=in_205,c206:=in_206 }
theorem in_207:q207_In env:={ fn:=rfl,c204:=in_204 }
theorem in_194:q194_In env:={ fn:=rfl,c192:=in_192,c207:=in_207 }
theorem in_173:q173_In env:={ fn:=rfl,c17:=in_17,c172:=in_172,c193:=in_193,c194:=in_194 }
theorem in_278:q278_In env:={ fn:=rfl,c171:=in_171,c173:=in_173 }
theorem in_271:q271_In env:={ fn:=rfl,c174:=in_174,c175:=in_175,c278:=in_278 }
theorem in_284:q284_In env:={ fn:=rfl }
theorem in_275:q275_In env:={ fn:=rfl,c284:=in_284 }
theorem in_276:q276_In env:={ fn:=rfl }
theorem in_269:q269_In env:={ fn:=rfl,c3:=in_3,c255:=in_255,c256:=Zsh,c271:=in_271,c275:=in_275,c276:=in_276 }
theorem in_258:q258_In env:={ fn:=rfl,c186:=in_186,c256:=Zsh,c259:=in_259,c269:=in_269 }
theorem in_88:q88_In env:={ fn:=rfl }
theorem in_391:q391_In env:={ fn:=rfl }
theorem in_392:q392_In env:={ fn:=rfl }
theorem in_369:q369_In env:={ fn:=rfl,c391:=in_391,c392:=in_392 }
theorem in_340:q340_In env:={ fn:=rfl,c369:=in_369 }
theorem in_315:q315_In env:={ fn:=rfl,c88:=in_88,c257:=Zpn,c266:=in_266,c340:=in_340 }
theorem in_302:q302_In env:={ fn:=rfl,c271:=in_271,c315:=in_315 }
theorem in_345:q345_In env:={ fn:=rfl }
theorem in_393:q393_In env:={ fn:=rfl }
theorem in_370:q370_In env:={ fn:=rfl,c393:=in_393 }
theorem in_394:q394_In env:={ fn:=rfl }
theorem in_371:q371_In env:={ fn:=rfl,c394:=in_394 }
theorem in_341:q341_In env:={ fn:=rfl,c345:=in_345,c370:=in_370,c371:=in_371 }
theorem in_342:q342_In env:={ fn:=rfl }
theorem in_343:q343_In env:={ fn:=rfl,c370:=in_370 }
theorem in_344:q344_In env:={ fn:=rfl }
theorem in_316:q316_In env:={ fn:=rfl,c341:=in_341,c342:=in_342,c343:=in_343,c344:=in_344,c345:=in_345 }
theorem in_303:q303_In env:={ fn:=rfl,c316:=in_316 }
theorem in_415:q415_In env:={ fn:=rfl,c302:=in_302,c303:=in_303 }
theorem in_419:q419_In env:={ fn:=rfl,c76:=in_76,c181:=in_181,c182:=Zxg,c186:=in_186,c254:=in_254,c256:=Zsh,c258:=in_258,c259:=in_259,c269:=in_269,c415:=in_415 }
end Go.Proofs.YtjamopobfdnlkaaGreatDoor.LRaceGoes

namespace Jq
open Go
section
variable (C:Zab) (L:Zbv) (G:Glo)
variable {h h0:Za}
variable {a0 a1 a2 a3 a4 a5 a6 a7 a10 a11 a12:Int}
variable {l0 s0 s1 s2:List Cell}
theorem q3_eq:q3.body C L G [(.agg l0),(.c (.int .i64 a1)),(.c (.int .i64 a2))] h0=if 0=0/\l0.length=65 then c1 (C 16 [(.agg l0),(.c (.int .i64 a1))] h0) fun y h=>asB y fun b=>scK b true (if 0<=a1/\a1<((64:Nat):Int) then Ze l0 (1+((Yb a1)*1)) fun q=>Zk .u64 (.c q) fun n=>c1 (C 17 [(.c (.int .u64 n)),(.c (.int .i64 a2))] h) fun y h=>asB y fun b=>some (b,h) else none) false h fun b h=>some ([(.c (.bool b))],h) else none:=by kernel_rfl
theorem q9_eq:q9.body C L G [(.c (.int .i64 a0))] h0=let v:Int:=(if 64<(if 0 > a0 then 0 else a0) then 64 else (if 0 > a0 then 0 else a0));if 0=0/\([ci0]++Ya 64 (Cell.int .u64 0)).length=65/\(splice ([ci0]++Ya 64 (Cell.int .u64 0)) 0 [(.int .i64 v)]).length=65 then if 0=0/\(splice ([ci0]++Ya 64 (Cell.int .u64 0)) 0 [(.int .i64 v)]).length=65 then some ([(.agg (splice ([ci0]++Ya 64 (Cell.int .u64 0)) 0 [(.int .i64 v)]))],h0) else none else none:=by kernel_rfl
theorem q10_eq:q10.body C L G [(.agg l0),(.c (.int .i64 a1)),(.c (.int .i64 a2))] h0=if 0=0/\l0.length=65 then c1 (C 16 [(.agg l0),(.c (.int .i64 a1))] h0) fun y h=>asB y fun b=>scK b true (if 0=0/\l0.length=65 then c1 (C 16 [(.agg l0),(.c (.int .i64 a2))] h) fun y h=>asB y fun b=>some (b,h) else none) false h fun b h=>if b=true then if 0<=a1/\a1<((64:Nat):Int) then Ze l0 (1+((Yb a1)*1)) fun q=>Zk .u64 (.c q) fun n=>c1 (C 18 [(.c (.int .u64 n)),(.c (.int .i64 a2))] h) fun y h1=>Zk .u64 y fun n=>if 0<=a1/\a1<((64:Nat):Int) then if (1+((Yb a1)*1))<l0.length then if 0=0/\(l0.set (1+((Yb a1)*1)) (.int .u64 n)).length=65 then if 0=0/\([ci0]++Ya 64 (Cell.int .u64 0)).length=65/\(l0.set (1+((Yb a1)*1)) (.int .u64 n)).length=65 then if 0=0/\(l0.set (1+((Yb a1)*1)) (.int .u64 n)).length=65 then some ([(.agg (l0.set (1+((Yb a1)*1)) (.int .u64 n)))],h1) else none else none else none else none else none else none else if 0=0/\l0.length=65 then if 0=0/\([ci0]++Ya 64 (Cell.int .u64 0)).length=65/\l0.length=65 then if 0=0/\l0.length=65 then some ([(.agg l0)],h) else none else none else none else none:=by kernel_rfl
def q12_k2 (h0:Za):Ex->St->Rs:=Zac (fun st=>q12_p1.exec C L G st (q12.fin G h0)) (q12.fin G h0)
def q12_k3 (h0:Za):Ex->St->Rs:=Zag 0 (q12_k2 C L G h0)
def q12_s2 (a6 a7:Int) (s0 s1:List Cell) (h:Za):St:=⟨tops 1 (.loc 0 0 :: .loc 1 0 :: tops 3 (.v (.c (.int .i64 a6)) :: .v (.c (.int .i64 a7)) :: tops 27 [])),[some s0,some s1],h⟩
def q12_F2 :St->Option (Ex × St):=Zt (q12_b2.exec C L G) [1,2,6,7] [0,1] [(1,[1,2],[0,1])]
def q12_k4 :Ex->St->Option (Ex × St):=Zac (fun st=>q12_p2.exec C L G st (Zah [1,2,6,7] [0,1] [(1,[1,2],[0,1])])) (Zah [1,2,6,7] [0,1] [(1,[1,2],[0,1])])
def q12_k5 :Ex->St->Option (Ex × St):=Zag 1 (q12_k4 C L G)
def q12_k6 :Ex->St->Option (Ex × St):=Zag 2 (q12_k5 C L G)
def q12_s1 (a3 a6:Int) (a7 a11 a12:Int) (s0 s1:List Cell) (h:Za):St:=⟨tops 1 (.loc 0 0 :: .loc 1 0 :: .v (.c (.int .i64 a3)) :: tops 2 (.v (.c (.int .i64 a6)) :: .v (.c (.int .i64 a7)) :: tops 3 (.v (.c (.int .i64 a11)) :: .v (.c (.int .i64 a12)) :: tops 22 []))),[some s0,some s1],h⟩
def q12_F1 :St->Option (Ex × St):=Zt (q12_b1.exec C L G) [1,2,3,6,7,11,12] [0,1] [(3,[1,2,6,7],[0,1])]
def q12_x1_3 (a6 a7:Int) (s0 s1:List Cell) (h:Za):St:=⟨tops 1 (.loc 0 0 :: .loc 1 0 :: tops 3 (.v (.c (.int .i64 a6)) :: .v (.c (.int .i64 a7)) :: tops 27 [])),[some s0,some s1],h⟩
def q12_x2_1 (s0 s1:List Cell) (h:Za):St:=⟨tops 1 (.loc 0 0 :: .loc 1 0 :: tops 32 []),[some s0,some s1],h⟩
theorem q12_r1:q12_F1 C L G (q12_s1 a3 a6 a7 a11 a12 s0 s1 h)=if (decide (a12<a11))=true then if 0<=a12/\a12<((64:Nat):Int) then Ze s0 (1+((Yb a12)*1)) fun q=>Zk .u64 (.c q) fun n=>c1 (C 17 [(.c (.int .u64 n)),(.c (.int .i64 a3))] h) fun y h1=>asB y fun b=>if b=true then if 0<=a12/\a12<((64:Nat):Int) then Ze s0 (1+((Yb a12)*1)) fun q=>Zk .u64 (.c q) fun n=>if 0<=a3/\a3<((64:Nat):Int) then Ze s0 (1+((Yb a3)*1)) fun q=>Zk .u64 (.c q) fun n1=>if 0<=a12/\a12<((64:Nat):Int) then if (1+((Yb a12)*1))<s0.length then some (.normal,(q12_s1 a3 a6 a7 a11 (G.wrap .i64 (a12+1)) (s0.set (1+((Yb a12)*1)) (.int .u64 (G.bor .u64 n n1))) s1 h1)) else none else none else none else none else some (.normal,(q12_s1 a3 a6 a7 a11 (G.wrap .i64 (a12+1)) s0 s1 h1)) else none else some ((.exit 2),(q12_x1_3 a6 a7 s0 s1 h)):=by kernel_rfl
theorem q12_e1_3:(q12_k6 C L G) (.exit 2) (q12_x1_3 a6 a7 s0 s1 h)=some (.normal,(q12_s2 a6 (G.wrap .i64 (a7+1)) s0 s1 h)):=by kernel_rfl
theorem q12_r2:q12_F2 C L G (q12_s2 a6 a7 s0 s1 h)=if (decide (a7<a6))=true then Ze s0 0 fun q=>Zk .i64 (.c q) fun n=>(L (q12_F1 C L G) (q12_s1 a7 a6 a7 n 0 s0 s1 h)).bind fun p=>(q12_k6 C L G) p.1 p.2 else some ((.exit 0),(q12_x2_1 s0 s1 h)):=by kernel_rfl
theorem q12_e2_1:(q12_k3 C L G h0) (.exit 0) (q12_x2_1 s0 s1 h)=if 0=0/\s0.length=65 then if 0=0/\s1.length=65/\s0.length=65 then if 0=0/\s0.length=65 then some ([(.agg s0)],h) else none else none else none:=by kernel_rfl
theorem q12_eq:q12.body C L G [(.agg l0)] h0=Ze l0 0 fun q=>Zk .i64 (.c q) fun n=>(L (q12_F2 C L G) (q12_s2 n 0 l0 ([ci0]++Ya 64 (Cell.int .u64 0)) h0)).bind fun p=>(q12_k3 C L G h0) p.1 p.2:=by kernel_rfl
theorem q14_eq:q14.body C L G [(.agg l0)] h0=Ze l0 0 fun q=>Zk .i64 (.c q) fun n=>some ([(.c (.int .i64 n))],h0):=by kernel_rfl
theorem q16_eq:q16.body C L G [(.agg l0),(.c (.int .i64 a1))] h0=scK (decide (a1>=0)) true (Ze l0 0 fun q=>Zk .i64 (.c q) fun n=>some ((decide (a1<n)),h0)) false h0 fun b h=>some ([(.c (.bool b))],h):=by kernel_rfl
def q40_k2 (h0:Za):Ex->St->Rs:=Zac (fun st=>q40_p1.exec C L G st (q40.fin G h0)) (q40.fin G h0)
def q40_k3 (h0:Za):Ex->St->Rs:=Zag 0 (q40_k2 C L G h0)
def q40_s2 (a10 a11:Int) (s0 s1 s2:List Cell) (h:Za):St:=⟨tops 1 (.loc 0 0 :: .loc 1 0 :: .loc 2 0 :: tops 6 (.v (.c (.int .i64 a10)) :: .v (.c (.int .i64 a11)) :: tops 25 [])),[some s0,some s1,some s2],h⟩
def q40_F2 :St->Option (Ex × St):=Zt (q40_b2.exec C L G) [1,2,3,10,11] [0,1,2] [(1,[2,3],[1,2])]
def q40_k4 :Ex->St->Option (Ex × St):=Zac (fun st=>q40_p2.exec C L G st (Zah [1,2,3,10,11] [0,1,2] [(1,[2,3],[1,2])])) (Zah [1,2,3,10,11] [0,1,2] [(1,[2,3],[1,2])])
def q40_k5 :Ex->St->Option (Ex × St):=Zag 1 (q40_k4 C L G)
def q40_k6 :Ex->St->Option (Ex × St):=Zag 2 (q40_k5 C L G)
def q40_s1 (a4 a5:Int) (a10 a11:Int) (s0 s1 s2:List Cell) (h:Za):St:=⟨tops 1 (.loc 0 0 :: .loc 1 0 :: .loc 2 0 :: .v (.c (.int .i64 a4)) :: .v (.c (.int .u64 a5)) :: tops 4 (.v (.c (.int .i64 a10)) :: .v (.c (.int .i64 a11)) :: tops 25 [])),[some s0,some s1,some s2],h⟩
def q40_F1 :St->Option (Ex × St):=Zt (q40_b1.exec C L G) [1,2,3,4,5,10,11] [0,1,2] [(3,[1,2,3,10,11],[0,1,2])]
def q40_x1_3 (a10 a11:Int) (s0 s1 s2:List Cell) (h:Za):St:=⟨tops 1 (.loc 0 0 :: .loc 1 0 :: .loc 2 0 :: tops 6 (.v (.c (.int .i64 a10)) :: .v (.c (.int .i64 a11)) :: tops 25 [])),[some s0,some s1,some s2],h⟩
def q40_x2_1 (s1 s2:List Cell) (h:Za):St:=⟨tops 2 (.loc 1 0 :: .loc 2 0 :: tops 33 []),[none,some s1,some s2],h⟩
theorem q40_r1:q40_F1 C L G (q40_s1 a4 a5 a10 a11 s0 s1 s2 h)=if (a5 != 0)=true then c1 (C 38 [(.c (.int .u64 a5))] h) fun y h1=>Zk .i64 y fun n=>c1 (C 38 [(.c (.int .u64 a5))] h1) fun y h1=>Zk .i64 y fun n1=>if 0<=n1/\n1<((64:Nat):Int) then Ze s2 (1+((Yb n1)*1)) fun q=>Zk .u64 (.c q) fun n1=>c1 (C 18 [(.c (.int .u64 n1)),(.c (.int .i64 a4))] h1) fun y h1=>Zk .u64 y fun n1=>if 0<=n/\n<((64:Nat):Int) then if (1+((Yb n)*1))<s2.length then some (.normal,(q40_s1 a4 (G.band .u64 a5 (G.wrap .u64 (a5 - 1))) a10 a11 s0 s1 (s2.set (1+((Yb n)*1)) (.int .u64 n1)) h1)) else none else none else none else some ((.exit 2),(q40_x1_3 a10 a11 s0 s1 s2 h)):=by kernel_rfl
theorem q40_e1_3:(q40_k6 C L G) (.exit 2) (q40_x1_3 a10 a11 s0 s1 s2 h)=some (.normal,(q40_s2 a10 (G.wrap .i64 (a11+1)) s0 s1 s2 h)):=by kernel_rfl
theorem q40_r2:q40_F2 C L G (q40_s2 a10 a11 s0 s1 s2 h)=if (decide (a11<a10))=true then if 0<=a11/\a11<((64:Nat):Int) then Ze s0 (1+((Yb a11)*1)) fun q=>Zk .u64 (.c q) fun n=>(L (q40_F1 C L G) (q40_s1 a11 n a10 a11 s0 s1 s2 h)).bind fun p=>(q40_k6 C L G) p.1 p.2 else none else some ((.exit 0),(q40_x2_1 s1 s2 h)):=by kernel_rfl
theorem q40_e2_1:(q40_k3 C L G h0) (.exit 0) (q40_x2_1 s1 s2 h)=if 0=0/\s2.length=65 then if 0=0/\s1.length=65/\s2.length=65 then if 0=0/\s2.length=65 then some ([(.agg s2)],h) else none else none else none:=by kernel_rfl
theorem q40_eq:q40.body C L G [(.agg l0)] h0=Ze l0 0 fun q=>Zk .i64 (.c q) fun n=>c1 (C 9 [(.c (.int .i64 n))] h0) fun y h=>asA y fun l=>if 0=0/\([ci0]++Ya 64 (Cell.int .u64 0)).length=65/\l.length=65 then Ze l0 0 fun q=>Zk .i64 (.c q) fun n=>(L (q40_F2 C L G) (q40_s2 n 0 l0 ([ci0]++Ya 64 (Cell.int .u64 0)) l h)).bind fun p=>(q40_k3 C L G h0) p.1 p.2 else none:=by kernel_rfl
theorem q41_eq:q41.body C L G [(.agg l0),(.c (.int .i64 a1))] h0=if 0=0/\l0.length=65 then c1 (C 16 [(.agg l0),(.c (.int .i64 a1))] h0) fun y h=>asB y fun b=>if (!b)=true then some ([(.c (.int .u64 0))],h) else if 0<=a1/\a1<((64:Nat):Int) then Ze l0 (1+((Yb a1)*1)) fun q=>Zk .u64 (.c q) fun n=>some ([(.c (.int .u64 n))],h) else none else none:=by kernel_rfl
end
section
def Zs (n:Nat) (f:Nat->Nat):List Cell:=.int .i64 n :: (Yh 64).map fun i=>.int .u64 (f i)
theorem relL_len (n:Nat) (f:Nat->Nat):(Zs n f).length=65:=by simp [Zs]
theorem Zfj (n:Nat) (f:Nat->Nat):(Zs n f)[0]? = some (.int .i64 n):=rfl
theorem Zeu {n:Nat} {f:Nat->Nat} {i:Nat} (hi:i<64):(Zs n f)[1+i]? = some (.int .u64 (f i)):=by
 rw [Zs,Yx,List.getElem?_cons_succ,Yaa,Yw hi];rfl
def Zqm (f:Nat->Nat) (i v:Nat):Nat->Nat:=fun j=>if j=i then v else f j
theorem relL_set {n:Nat} {f:Nat->Nat} {i v:Nat}:(Zs n f).set (1+i) (.int .u64 v)=Zs n (Zqm f i v):=by
 rw [Zs,Yx,List.set_cons_succ,Zs]
 congr 1
 refine List.ext_getElem? fun j=>?_
 rw [List.getElem?_set]
 simp only [List.length_map,List.length_range,Yaa,Zqm]
 by_cases hj:j<64
 ·rw [Yw hj]
  by_cases hij:i=j
  ·subst hij;simp [hj]
  ·have:¬j=i:=fun h=>hij h.symm
   simp [hij,this]
 ·rw [List.getElem?_eq_none (by simp;omega)]
  simp;intro h1;omega
theorem Zxi {n:Nat} {f g:Nat->Nat} (h:∀i,i<64->f i=g i):Zs n f=Zs n g:=by
 unfold Zs
 congr 1
 refine List.map_congr_left fun i hi=>?_
 rw [h i (by simpa using hi)]
def zeroL:List Cell:=[ci0]++Ya 64 (Cell.int .u64 0)
theorem zero_len:([ci0]++Ya 64 (Cell.int .u64 0)).length=65:=by simp
theorem zero_rel:([ci0]++Ya 64 (Cell.int .u64 0))=Zs 0 fun _=>0:=by
 rw [Zs,Yr];congr 1
theorem splice_zero {n m:Nat} {f:Nat->Nat}:splice (Zs m f) 0 [.int .i64 n]=Zs n f:=by
 simp [splice,Zs]
def Zcx (f:Nat->Nat):Prop:=∀i,f i<2 ^ 64
theorem Zjv:Zcx fun _=>0:=fun _=>by simp
theorem Zmd {f:Nat->Nat} (h:Zcx f) {i v:Nat} (hv:v<2 ^ 64):Zcx (Zqm f i v):=fun j=>by unfold Zqm;split;exact hv;exact h j
def Zmw (a:Int):Nat:=min a.toNat 64
variable {E:Env}
theorem New_R (hE:q9_In E) (a:Int) (h:Za):R E 9 [.c (.int .i64 a)] h=some ([.agg (Zs (Zmw a) fun _=>0)],h):=by
 refine Zd hE.fn ?_
 rw [q9_eq]
 have hv:(if 64<(if 0 > a then 0 else a) then 64 else (if 0 > a then 0 else a))=((Zmw a:Nat):Int):=by
  unfold Zmw;split<;>split<;>omega
 simp only [hv,zero_rel,splice_zero,relL_len,and_self,if_true]
def inR (n:Nat) (a:Int):Bool:=decide (0<=a)&&decide (a<n)
theorem in_R (hE:q16_In E) (n:Nat) (f:Nat->Nat) (a:Int) (h:Za):R E 16 [.agg (Zs n f),.c (.int .i64 a)] h=some ([.c (.bool (inR n a))],h):=by
 refine Zd hE.fn ?_
 rw [q16_eq,Zae (Zfj n f),asI_ok,scK_and]
 rfl
theorem N_R (hE:q14_In E) (n:Nat) (f:Nat->Nat) (h:Za):R E 14 [.agg (Zs n f)] h=some ([.c (.int .i64 n)],h):=by
 refine Zd hE.fn ?_
 rw [q14_eq,Zae (Zfj n f),asI_ok]
def hasR (n:Nat) (f:Nat->Nat) (a b:Int):Bool:=inR n a&&Zor (f a.toNat) b
theorem HasR_R (hE:q3_In E) {n:Nat} (hn:n<=64) {f:Nat->Nat} (hf:Zcx f) (a b:Int) (h:Za):R E 3 [.agg (Zs n f),.c (.int .i64 a),.c (.int .i64 b)] h=some ([.c (.bool (hasR n f a b))],h):=by
 refine Zd hE.fn ?_
 rw [q3_eq,if_pos ⟨rfl,relL_len n f⟩,in_R hE.c16,c1_ok,asB_ok]
 unfold hasR
 by_cases hi:inR n a=true
 ·have h2:0<=a/\a<n:=by simpa [inR] using hi
  have h3:a.toNat<64:=by omega
  rw [hi,scK_ok,if_pos ⟨h2.1,by omega⟩,Ye,Zae (Zeu h3),asI_ok,Ztv hE.c17 (hf _),c1_ok,asB_ok,bind_ok,Yl]
 ·have hi':inR n a=false:=by simpa using hi
  rw [hi',scK_ft,Yi]
def Ztg (n:Nat) (f:Nat->Nat) (a b:Int):Nat->Nat:=if inR n a&&inR n b then Zqm f a.toNat (f a.toNat ||| Zgj b) else f
theorem Zq727 {n:Nat} {f:Nat->Nat} (hf:Zcx f) (a b:Int):Zcx (Ztg n f a b):=by
 unfold Ztg;split
 ·exact Zmd hf (Zrm (hf _) (Zku b))
 ·exact hf
theorem Add_R (hE:q10_In E) {n:Nat} (hn:n<=64) {f:Nat->Nat} (hf:Zcx f) (a b:Int) (h:Za):R E 10 [.agg (Zs n f),.c (.int .i64 a),.c (.int .i64 b)] h=some ([.agg (Zs n (Ztg n f a b))],h):=by
 refine Zd hE.fn ?_
 rw [q10_eq,if_pos ⟨rfl,relL_len n f⟩,in_R hE.c16,c1_ok,asB_ok,if_pos ⟨rfl,relL_len n f⟩,in_R hE.c16,c1_ok,asB_ok,scK_and]
 unfold Ztg
 by_cases hi:(inR n a&&inR n b)=true
 ·rw [hi]
  simp only [Yf] at hi
  have h2:0<=a/\a<n:=by simpa [inR] using hi.1
  have h3:a.toNat<64:=by omega
  simp only [if_true]
  rw [if_pos ⟨h2.1,by omega⟩,Ye,Zae (Zeu h3),asI_ok,Zot hE.c18 (hf _),c1_ok,asI_ok,if_pos ⟨h2.1,by omega⟩,relL_set]
  simp only [relL_len,zero_len,and_self,if_true]
  rw [if_pos (by omega)]
 ·rw [show (inR n a&&inR n b)=false by simpa using hi]
  simp only [Yd,if_false,relL_len,zero_len,and_self,if_true]
theorem Row_R (hE:q41_In E) {n:Nat} (hn:n<=64) (f:Nat->Nat) (a:Int) (h:Za):R E 41 [.agg (Zs n f),.c (.int .i64 a)] h=some ([.c (.int .u64 ((if inR n a then f a.toNat else 0:Nat):Int))],h):=by
 refine Zd hE.fn ?_
 rw [q41_eq,if_pos ⟨rfl,relL_len n f⟩,in_R hE.c16,c1_ok,asB_ok]
 by_cases hi:inR n a=true
 ·have h2:0<=a/\a<n:=by simpa [inR] using hi
  have h3:a.toNat<64:=by omega
  rw [hi]
  simp only [Bool.not_true,Yd,if_false,if_true]
  rw [if_pos ⟨h2.1,by omega⟩,Ye,Zae (Zeu h3),asI_ok]
 ·rw [show inR n a=false by simpa using hi]
  simp
def clS (f:Nat->Nat) (k i:Nat):Nat->Nat:=if (f i).testBit k then Zqm f i (f i ||| f k) else f
def cl1 (k:Nat):Nat->(Nat->Nat)->Nat->Nat
 | 0,f=>f
 | i+1,f=>clS (cl1 k i f) k i
def clK (n:Nat) (f:Nat->Nat):Nat->Nat->Nat
 | 0=>f
 | k+1=>cl1 k n (clK n f k)
theorem Zlz {f:Nat->Nat} (hf:Zcx f) (k:Nat):∀n,Zcx (cl1 k n f)
 | 0=>hf
 | i+1=>by
  have ih:=Zlz hf k i
  unfold cl1 clS;split
  ·exact Zmd ih (Zrm (ih _) (ih _))
  ·exact ih
theorem Zmj {f:Nat->Nat} (hf:Zcx f) (n:Nat):∀k,Zcx (clK n f k)
 | 0=>hf
 | k+1=>Zlz (Zmj hf n k) k n
theorem Zqs {E:Env} {i:Nat} (hi:i<9223372036854775807):E.glob.wrap .i64 ((i:Int)+1)=((i+1:Nat):Int):=by
 show IntKind.wrap .i64 _=_
 rw [Zfo (by omega) (by omega)];omega
theorem Zq752 (hE:q12_In E) {n:Nat} (hn:n<=64) {f:Nat->Nat} (hf:Zcx f) (h:Za):R E 12 [.agg (Zs n f)] h=some ([.agg (Zs n (clK n f n))],h):=by
 refine Zd hE.fn ?_
 rw [q12_eq,Zae (Zfj n f),asI_ok]
 have outer:Zq (q12_F2 (R E) Zq E.glob) (q12_s2 n ((0:Nat):Int) (Zs n (clK n f 0)) zeroL h)=some (.exit 0,q12_x2_1 (Zs n (clK n f n)) zeroL h):=by
  refine Zax (fun k=>q12_s2 n (k:Int) (Zs n (clK n f k)) zeroL h) 0 n (by omega) (fun k _ hk=>?_) (Zm ?_)
  ·try dsimp only
   rw [q12_r2,if_pos (by simp;omega),Zae (Zfj _ _),asI_ok]
   have inner:Zq (q12_F1 (R E) Zq E.glob) (q12_s1 k n k n ((0:Nat):Int) (Zs n (cl1 k 0 (clK n f k))) zeroL h)=some (.exit 2,q12_x1_3 n k (Zs n (cl1 k n (clK n f k))) zeroL h):=by
    refine Zax (fun i=>q12_s1 k n k n (i:Int) (Zs n (cl1 k i (clK n f k))) zeroL h) 0 n (by omega) (fun i _ hi=>?_) (Zm ?_)
    ·try dsimp only
     have hw:=Zlz (Zmj hf n k) k i
     have e1:(i:Int).toNat=i:=by omega
     have e2:(k:Int).toNat=k:=by omega
     have q1:0<=(i:Int)/\(i:Int)<((64:Nat):Int):=by omega
     have q2:0<=(k:Int)/\(k:Int)<((64:Nat):Int):=by omega
     rw [q12_r1,if_pos (by simp;omega),if_pos q1,e1,e2,Ye,Ye,Zae (Zeu (by omega)),asI_ok,Ztv hE.c17 (hw _),c1_ok,asB_ok,Zqs (by omega),Zon (by omega)]
     rw [cl1,clS]
     cases hb:(cl1 k i (clK n f k) i).testBit k with
     | true =>
      simp only [if_true]
      rw [if_pos q1,Zae (Zeu (by omega)),asI_ok,if_pos q2,Zae (Zeu (by omega)),asI_ok,if_pos q1,g_bor (hw _) (hw _),relL_set,if_pos (by rw [relL_len];omega)]
     | false=>simp only [Yd,if_false]
    ·try dsimp only
     rw [q12_r1,if_neg (by simp)]
   have inner':=inner
   simp only [Int.ofNat_zero,Int.natCast_zero] at inner'
   rw [show q12_s1 k n k n 0 (Zs n (clK n f k)) zeroL h=q12_s1 k n k n ((0:Nat):Int) (Zs n (cl1 k 0 (clK n f k))) zeroL h from rfl,inner,bind_ok,q12_e1_3,Zqs (by omega)]
   rfl
  ·try dsimp only
   rw [q12_r2,if_neg (by simp)]
 rw [show q12_s2 n 0 (Zs n f) ([ci0]++Ya 64 (Cell.int .u64 0)) h=q12_s2 n ((0:Nat):Int) (Zs n (clK n f 0)) zeroL h from rfl,outer,bind_ok,q12_e2_1]
 simp only [relL_len,zeroL,zero_len,and_self,if_true]
end
inductive Way (f:Nat->Nat) (k:Nat):Nat->Nat->Prop
 | one {a b:Nat}:(f a).testBit b=true->Way f k a b
 | step {a c b:Nat}:(f a).testBit c=true->c<k->Way f k c b->Way f k a b
theorem Way.mono {f:Nat->Nat} {k m:Nat} (hkm:k<=m) {a b:Nat} (w:Way f k a b):Way f m a b:=by
 induction w with
 | one h=>exact .one h
 | step h hc _ ih=>exact .step h (by omega) ih
theorem Way.trans {f:Nat->Nat} {k a c b:Nat} (w:Way f k a c) (hc:c<k) (v:Way f k c b):Way f k a b:=by
 induction w with
 | one h=>exact .step h hc v
 | step h hc' _ ih=>exact .step h hc' (ih hc v)
theorem Way.succ {f:Nat->Nat} {k a b:Nat}:Way f (k+1) a b↔Way f k a b∨(Way f k a k/\Way f k k b):=by
 constructor
 ·intro w
  induction w with
  | one h=>exact .inl (.one h)
  | step h hc _ ih =>
   rcases Nat.lt_or_ge _ k with hk | hk
   ·rcases ih with ih | ⟨i1,i2⟩
    ·exact .inl (.step h hk ih)
    ·exact .inr ⟨.step h hk i1,i2⟩
   ·have:_=k:=Nat.le_antisymm (Nat.lt_succ_iff.1 hc) hk
    subst this
    rcases ih with ih | ⟨_,i2⟩
    ·exact .inr ⟨.one h,ih⟩
    ·exact .inr ⟨.one h,i2⟩
 ·rintro (w | ⟨w1,w2⟩)
  ·exact w.mono (by omega)
  ·exact (w1.mono (by omega)).trans (Nat.lt_succ_self k) (w2.mono (by omega))
theorem cl1_eq (f:Nat->Nat) (k:Nat):∀n i,cl1 k n f i=if i<n/\(f i).testBit k=true then f i ||| f k else f i:=by
 intro n
 induction n with
 | zero=>intro i;rw [if_neg (by omega)];rfl
 | succ n ih =>
  intro i
  have hk:cl1 k n f k=f k:=by
   rw [ih];split
   ·exact Nat.or_self _
   ·rfl
  rw [cl1,clS]
  by_cases hb:(f n).testBit k=true
  ·have hn:cl1 k n f n=f n:=by rw [ih,if_neg (by omega)]
   rw [hn,if_pos hb,hk]
   unfold Zqm
   by_cases hi:i=n
   ·subst hi;rw [if_pos rfl,if_pos ⟨by omega,hb⟩]
   ·rw [if_neg hi,ih]
    congr 1
    rw [eq_iff_iff]
    exact and_congr_left fun _=>by omega
  ·have hn:cl1 k n f n=f n:=by rw [ih,if_neg (by omega)]
   rw [hn,if_neg hb,ih]
   by_cases hi:i=n
   ·subst hi;rw [if_neg (by omega),if_neg (fun h=>hb h.2)]
   ·congr 1
    rw [eq_iff_iff]
    exact and_congr_left fun _=>by omega
theorem Zhd (n:Nat) (f:Nat->Nat):∀k,k<=n->∀a b,a<n->((clK n f k a).testBit b=true↔Way f k a b):=by
 intro k
 induction k with
 | zero =>
  intro _ a b _
  constructor
  ·exact fun h=>.one h
  ·intro w
   cases w with
   | one h=>exact h
   | step _ hc _=>omega
 | succ k ih =>
  intro hk a b ha
  have ih':=ih (by omega)
  rw [clK,cl1_eq,Way.succ,←ih' a b ha,←ih' a k ha,←ih' k b (by omega)]
  by_cases hb:(clK n f k a).testBit k=true
  ·rw [if_pos ⟨ha,hb⟩,Yj,Yo];simp [hb]
  ·rw [if_neg (fun h=>hb h.2)];simp [hb]



section
variable (C:Zab) (L:Zbv) (G:Glo)
variable {h h0:Za}
variable {x8:Cell}
variable {a1 a2 a3 a4 a5 a6 a7 a9:Int}
variable {l0 l1 l2 s0 s1 s2:List Cell}
theorem q81_eq:q81.body C L G [(.agg l0),(.c (.int .i64 a1)),(.agg l2)] h0=if 0=0/\l0.length=3 then c1 (qh h0 (C 110 [(.agg l0),(.c (.int .i64 a1))] h0)) fun y h=>asB y fun b=>scK (!b) false (Ze l2 0 fun q=>Zk .i64 (.c q) fun n=>some ((decide (n<0)),h0)) true h0 fun b h=>scK b false (Ze l2 0 fun q=>Zk .i64 (.c q) fun n=>Ze l0 2 fun q=>Zl 1 q a1 fun k N o=>Zp h k N fun l=>Ze l o fun q=>Zz q fun n1=>some ((decide (n>=n1)),h)) true h fun b h=>if b=true then if 0=0/\(Ya 9 ci0).length=9/\(Ya 9 ci0).length=9 then if 0=0/\(Ya 9 ci0).length=9 then some ([(.agg (Ya 9 ci0)),(.c (.bool false))],h) else none else none else Ze l0 2 fun q=>Zl 1 q a1 fun k N o=>Zp h k N fun l=>Ze l o fun q=>Ze l2 0 fun q1=>Zk .i64 (.c q1) fun n=>Zl 9 q n fun k N o=>Zp h k N fun l=>if o+9<=l.length then if 0=0/\(Ya 9 ci0).length=9/\((l.drop o).take 9).length=9 then Ze ((l.drop o).take 9) 0 fun q=>Zk .i64 (.c q) fun n=>scK (n==5) false (Ze ((l.drop o).take 9) 0 fun q=>Zk .i64 (.c q) fun n=>some ((n==6),h)) true h fun b h=>if b=true then if 0=0/\(Ya 9 ci0).length=9/\(Ya 9 ci0).length=9 then if 0=0/\(Ya 9 ci0).length=9 then some ([(.agg (Ya 9 ci0)),(.c (.bool false))],h) else none else none else if 0=0/\((l.drop o).take 9).length=9 then if 0=0/\(Ya 9 ci0).length=9/\((l.drop o).take 9).length=9 then if 0=0/\((l.drop o).take 9).length=9 then some ([(.agg ((l.drop o).take 9)),(.c (.bool true))],h) else none else none else none else none else none else none:=by kernel_rfl
theorem q92_eq:q92.body C L G [(.agg l0),(.agg l1)] h0=Ze l0 0 fun q=>Zk .i64 (.c q) fun n=>scK (decide (n>=0)) true (Ze l0 0 fun q=>Zk .i64 (.c q) fun n=>some ((decide (n<=3)),h0)) false h0 fun b h=>if b=true then Ze l0 0 fun q=>Zk .i64 (.c q) fun n=>if 0<=n/\n<((4:Nat):Int) then Ze l1 (1+((Yb n)*1)) fun q=>Zk .i64 (.c q) fun n=>some ([(.c (.int .i64 n))],h) else none else Ze l0 1 fun q=>Zk .i64 (.c q) fun n=>some ([(.c (.int .i64 n))],h):=by kernel_rfl
def q101_k2 (h0:Za):Ex->St->Rs:=Zac (fun st=>q101_p1.exec C L G st (q101.fin G h0)) (q101.fin G h0)
def q101_k3 (h0:Za):Ex->St->Rs:=Zag 0 (q101_k2 C L G h0)
def q101_s2 (a4:Int) (s0 s1 s2:List Cell) (h:Za):St:=⟨tops 1 (.loc 0 0 :: .loc 1 0 :: .loc 2 0 :: .v (.c (.int .i64 a4)) :: tops 92 []),[some s0,some s1,some s2,none],h⟩
def q101_F2 :St->Option (Ex × St):=Zt (q101_b2.exec C L G) [1,2,3,4] [0,1,2] [(1,[1,2,3],[0,1,2])]
def q101_k4 :Ex->St->Option (Ex × St):=Zac (fun st=>q101_p2.exec C L G st (Zah [1,2,3,4] [0,1,2] [(1,[1,2,3],[0,1,2])])) (Zah [1,2,3,4] [0,1,2] [(1,[1,2,3],[0,1,2])])
def q101_k5 :Ex->St->Option (Ex × St):=Zag 1 (q101_k4 C L G)
def q101_k6 :Ex->St->Option (Ex × St):=Zac (fun st=>q101_p3.exec C L G st (q101_k5 C L G)) (q101_k5 C L G)
def q101_k7 :Ex->St->Option (Ex × St):=Zag 2 (q101_k6 C L G)
def q101_s1 (a4 a5 a6:Int) (s0 s1 s2:List Cell) (h:Za):St:=⟨tops 1 (.loc 0 0 :: .loc 1 0 :: .loc 2 0 :: .v (.c (.int .i64 a4)) :: .v (.c (.int .i64 a5)) :: .v (.c (.int .i64 a6)) :: tops 90 []),[some s0,some s1,some s2,none],h⟩
def q101_F1 :St->Option (Ex × St):=Zt (q101_b1.exec C L G) [1,2,3,4,5,6] [0,1,2] [(3,[1,2,3,4,5],[0,1,2])]
def q101_x1_3 (a4 a5:Int) (s0 s1 s2:List Cell) (h:Za):St:=⟨tops 1 (.loc 0 0 :: .loc 1 0 :: .loc 2 0 :: .v (.c (.int .i64 a4)) :: .v (.c (.int .i64 a5)) :: tops 91 []),[some s0,some s1,some s2,none],h⟩
def q101_x2_1 (s0 s1 s2:List Cell) (h:Za):St:=⟨tops 1 (.loc 0 0 :: .loc 1 0 :: .loc 2 0 :: tops 93 []),[some s0,some s1,some s2,none],h⟩
def q101_k8 (h0:Za):Ex->St->Rs:=Zac (fun st=>q101_p4.exec C L G st (q101.fin G h0)) (q101.fin G h0)
def q101_k9 (h0:Za):Ex->St->Rs:=Zag 4 (q101_k8 C L G h0)
def q101_s4 (a7:Int) (s0 s1 s2:List Cell) (h:Za):St:=⟨tops 1 (.loc 0 0 :: .loc 1 0 :: .loc 2 0 :: tops 3 (.v (.c (.int .i64 a7)) :: tops 89 [])),[some s0,some s1,some s2,none],h⟩
def q101_F4 :St->Option (Ex × St):=Zt (q101_b4.exec C L G) [1,2,3,7] [0,1,2] [(5,[2,3],[1,2])]
def q101_k10 :Ex->St->Option (Ex × St):=Zac (fun st=>q101_p5.exec C L G st (Zah [1,2,3,7] [0,1,2] [(5,[2,3],[1,2])])) (Zah [1,2,3,7] [0,1,2] [(5,[2,3],[1,2])])
def q101_k11 :Ex->St->Option (Ex × St):=Zag 5 (q101_k10 C L G)
def q101_k12 :Ex->St->Option (Ex × St):=Zac (fun st=>q101_p6.exec C L G st (q101_k11 C L G)) (q101_k11 C L G)
def q101_k13 :Ex->St->Option (Ex × St):=Zag 6 (q101_k12 C L G)
def q101_s3 (a7:Int) (x8:Cell) (a9:Int) (s0 s1 s2:List Cell) (h:Za):St:=⟨tops 1 (.loc 0 0 :: .loc 1 0 :: .loc 2 0 :: tops 3 (.v (.c (.int .i64 a7)) :: .v (.c x8) :: .v (.c (.int .i64 a9)) :: tops 87 [])),[some s0,some s1,some s2,none],h⟩
def q101_F3 :St->Option (Ex × St):=Zt (q101_b3.exec C L G) [1,2,3,7,8,9] [0,1,2] [(7,[1,2,3,7,8],[0,1,2])]
def q101_x3_7 (a7:Int) (x8:Cell) (s0 s1 s2:List Cell) (h:Za):St:=⟨tops 1 (.loc 0 0 :: .loc 1 0 :: .loc 2 0 :: tops 3 (.v (.c (.int .i64 a7)) :: .v (.c x8) :: tops 88 [])),[some s0,some s1,some s2,none],h⟩
def q101_x4_5 (s1 s2:List Cell) (h:Za):St:=⟨tops 2 (.loc 1 0 :: .loc 2 0 :: tops 93 []),[none,some s1,some s2,none],h⟩
theorem q101_r1:q101_F1 C L G (q101_s1 a4 a5 a6 s0 s1 s2 h)=Ze s0 1 fun q=>Zz q fun n=>if (decide (a6<n))=true then Ze s0 1 fun q=>Zl 2 q a6 fun k N o=>Zp h k N fun l=>Ze l (o+0) fun q=>Zk .i64 (.c q) fun n=>Ze s2 0 fun q=>Zl 1 q a4 fun k N o=>Zp h k N fun l=>Ze l o fun q=>Zk .u8 (.c q) fun n1=>if (n==(G.wrap .i64 n1))=true then Ze s0 1 fun q=>Zl 2 q a6 fun k N o=>Zp h k N fun l=>Ze l (o+1) fun q=>Zk .i64 (.c q) fun n=>some (.normal,(q101_s1 a4 n (G.wrap .i64 (a6+1)) s0 s1 s2 h)) else some (.normal,(q101_s1 a4 a5 (G.wrap .i64 (a6+1)) s0 s1 s2 h)) else some ((.exit 2),(q101_x1_3 a4 a5 s0 s1 s2 h)):=by kernel_rfl
theorem q101_e1_3:(q101_k7 C L G) (.exit 2) (q101_x1_3 a4 a5 s0 s1 s2 h)=Ze s2 1 fun q=>if (splice [ci0] 0 [(.int .i64 a5)]).length=1*1 then Zao 1 8 q (splice [ci0] 0 [(.int .i64 a5)]) h fun x h=>if 1<s2.length then some (.normal,(q101_s2 (G.wrap .i64 (a4+1)) s0 s1 (s2.set 1 x) h)) else none else none:=by kernel_rfl
theorem q101_r2:q101_F2 C L G (q101_s2 a4 s0 s1 s2 h)=Ze s2 0 fun q=>Zz q fun n=>if (decide (a4<n))=true then (L (q101_F1 C L G) (q101_s1 a4 0 0 s0 s1 s2 h)).bind fun p=>(q101_k7 C L G) p.1 p.2 else some ((.exit 0),(q101_x2_1 s0 s1 s2 h)):=by kernel_rfl
theorem q101_r3:q101_F3 C L G (q101_s3 a7 x8 a9 s0 s1 s2 h)=Ze s0 2 fun q=>Zl 1 q a7 fun k N o=>Zp h k N fun l=>Ze l o fun q=>Zz q fun n=>if (decide (a9<n))=true then Ze s0 2 fun q=>Zl 1 q a7 fun k N o=>Zp h k N fun l=>Ze l o fun q=>Zl 9 q a9 fun k N o=>Zp h k N fun l=>if o+9<=l.length then if 0=0/\(Ya 9 ci0).length=9/\((l.drop o).take 9).length=9 then Ze ((l.drop o).take 9) 2 fun q=>Zk .i64 (.c q) fun n=>if (n != 0)=true then if 0=0/\s2.length=3 then Ze ((l.drop o).take 9) 2 fun q=>Zk .i64 (.c q) fun n=>c1 (C 122 [(.agg s2),(.c (.int .i64 n))] h) fun y h1=>Zk .i64 y fun n=>if 2<((l.drop o).take 9).length then if 0=0/\(((l.drop o).take 9).set 2 (.int .i64 n)).length=9 then if (((l.drop o).take 9).set 2 (.int .i64 n)).length=9/\0+9<=(Ya 9 ci0).length then if (splice (Ya 9 ci0) 0 (((l.drop o).take 9).set 2 (.int .i64 n))).length=1*9 then Zao 9 72 x8 (splice (Ya 9 ci0) 0 (((l.drop o).take 9).set 2 (.int .i64 n))) h1 fun x h1=>some (.normal,(q101_s3 a7 x (G.wrap .i64 (a9+1)) s0 s1 s2 h1)) else none else none else none else none else none else if 0=0/\((l.drop o).take 9).length=9 then if ((l.drop o).take 9).length=9/\0+9<=(Ya 9 ci0).length then if (splice (Ya 9 ci0) 0 ((l.drop o).take 9)).length=1*9 then Zao 9 72 x8 (splice (Ya 9 ci0) 0 ((l.drop o).take 9)) h fun x h1=>some (.normal,(q101_s3 a7 x (G.wrap .i64 (a9+1)) s0 s1 s2 h1)) else none else none else none else none else none else some ((.exit 6),(q101_x3_7 a7 x8 s0 s1 s2 h)):=by kernel_rfl
theorem q101_e3_7:(q101_k13 C L G) (.exit 6) (q101_x3_7 a7 x8 s0 s1 s2 h)=Ze s2 2 fun q=>if (splice [Cell.nils] 0 [x8]).length=1*1 then Zao 1 24 q (splice [Cell.nils] 0 [x8]) h fun x h=>if 2<s2.length then some (.normal,(q101_s4 (G.wrap .i64 (a7+1)) s0 s1 (s2.set 2 x) h)) else none else none:=by kernel_rfl
theorem q101_r4:q101_F4 C L G (q101_s4 a7 s0 s1 s2 h)=Ze s0 2 fun q=>Zz q fun n=>if (decide (a7<n))=true then (L (q101_F3 C L G) (q101_s3 a7 .nils 0 s0 s1 s2 h)).bind fun p=>(q101_k13 C L G) p.1 p.2 else some ((.exit 4),(q101_x4_5 s1 s2 h)):=by kernel_rfl
theorem q101_e4_5:(q101_k9 C L G h0) (.exit 4) (q101_x4_5 s1 s2 h)=if 0=0/\s2.length=3 then if 0=0/\s1.length=3/\s2.length=3 then if 0=0/\s2.length=3 then some ([(.agg s2)],h) else none else none else none:=by kernel_rfl
theorem q101_e2_1:(q101_k3 C L G h0) (.exit 0) (q101_x2_1 s0 s1 s2 h)=(L (q101_F4 C L G) (q101_s4 0 s0 s1 s2 h)).bind fun p=>(q101_k9 C L G h0) p.1 p.2:=by kernel_rfl
theorem q101_eq:q101.body C L G [(.agg l0)] h0=if 0=0/\l0.length=5 then c1 (C 121 [(.agg l0)] h0) fun y h=>asC y fun x=>if 0=0/\[Cell.nils,Cell.nils,Cell.nils].length=3/\(splice [Cell.nils,Cell.nils,Cell.nils] 0 [x]).length=3 then (L (q101_F2 C L G) (q101_s2 0 l0 [Cell.nils,Cell.nils,Cell.nils] (splice [Cell.nils,Cell.nils,Cell.nils] 0 [x]) h)).bind fun p=>(q101_k3 C L G h0) p.1 p.2 else none else none:=by kernel_rfl
theorem q104_eq:q104.body C L G [(.agg l0),(.c (.int .i64 a1))] h0=if 0=0/\l0.length=3 then c1 (C 110 [(.agg l0),(.c (.int .i64 a1))] h0) fun y h=>asB y fun b=>if (!b)=true then if 0=0/\[ci0,ci0,ci0,ci0,ci0].length=5/\[ci0,ci0,ci0,ci0,ci0].length=5 then if 0=0/\[ci0,ci0,ci0,ci0,ci0].length=5 then some ([(.agg [ci0,ci0,ci0,ci0,ci0])],h) else none else none else if 0=0/\l0.length=3 then c1 (C 123 [(.agg l0),(.c (.int .i64 a1)),(.agg [ci0,ci0,ci0,ci0,ci0])] h) fun y h=>asA y fun l=>if 0=0/\[ci0,ci0,ci0,ci0,ci0].length=5/\l.length=5 then if 0=0/\l.length=5 then some ([(.agg l)],h) else none else none else none else none:=by kernel_rfl
theorem q107_eq:q107.body C L G [(.agg l0),(.c (.int .i64 a1)),(.agg l2),(.c (.int .i64 a3))] h0=if 0=0/\l0.length=3 then if 0=0/\l2.length=5 then c2 (C 81 [(.agg l0),(.c (.int .i64 a1)),(.agg l2)] h0) fun y y1 h=>asA y fun l=>asB y1 fun b=>if 0=0/\(Ya 9 ci0).length=9/\l.length=9 then if (!b)=true then if 0=0/\l2.length=5 then if 0=0/\[ci0,ci0,ci0,ci0,ci0].length=5/\l2.length=5 then if 0=0/\l2.length=5 then some ([(.agg l2)],h) else none else none else none else Ze l 0 fun q=>Zk .i64 (.c q) fun n=>scK (n==2) false (Ze l 0 fun q=>Zk .i64 (.c q) fun n=>some ((n==4),h)) true h fun b h=>if b=true then Ze l 1 fun q=>Zk .i64 (.c q) fun n=>if 0<=n/\n<((4:Nat):Int) then if (1+((Yb n)*1))<l2.length then Ze (l2.set (1+((Yb n)*1)) (.int .i64 a3)) 0 fun q=>Zk .i64 (.c q) fun n1=>if 0<(l2.set (1+((Yb n)*1)) (.int .i64 a3)).length then if 0=0/\l0.length=3 then if 0=0/\((l2.set (1+((Yb n)*1)) (.int .i64 a3)).set 0 (.int .i64 (G.wrap .i64 (n1+1)))).length=5 then c1 (C 123 [(.agg l0),(.c (.int .i64 a1)),(.agg ((l2.set (1+((Yb n)*1)) (.int .i64 a3)).set 0 (.int .i64 (G.wrap .i64 (n1+1)))))] h) fun y h1=>asA y fun l=>if 0=0/\[ci0,ci0,ci0,ci0,ci0].length=5/\l.length=5 then if 0=0/\l.length=5 then some ([(.agg l)],h1) else none else none else none else none else none else none else none else Ze l2 0 fun q=>Zk .i64 (.c q) fun n=>if 0<l2.length then if 0=0/\l0.length=3 then if 0=0/\(l2.set 0 (.int .i64 (G.wrap .i64 (n+1)))).length=5 then c1 (C 123 [(.agg l0),(.c (.int .i64 a1)),(.agg (l2.set 0 (.int .i64 (G.wrap .i64 (n+1)))))] h) fun y h=>asA y fun l=>if 0=0/\[ci0,ci0,ci0,ci0,ci0].length=5/\l.length=5 then if 0=0/\l.length=5 then some ([(.agg l)],h) else none else none else none else none else none else none else none else none:=by kernel_rfl
theorem q110_eq:q110.body C L G [(.agg l0),(.c (.int .i64 a1))] h0=scK (decide (a1>=0)) true (Ze l0 2 fun q=>Zz q fun n=>some ((decide (a1<n)),h0)) false h0 fun b h=>some ([(.c (.bool b))],h):=by kernel_rfl
theorem q111_eq:q111.body C L G [(.agg l0),(.agg l1),(.c (.int .i64 a2))] h0=Ze l0 0 fun q=>Zk .i64 (.c q) fun n=>if (n==1)=true then Ze l0 2 fun q=>Zk .i64 (.c q) fun n1=>if 3+2<=l0.length then if 0=0/\l1.length=5 then c1 (qh h0 (C 92 [(.agg ((l0.drop 3).take 2)),(.agg l1)] h0)) fun y h=>Zk .i64 y fun n2=>if 0=0/\[ci0,ci0,ci0,ci0,ci0,ci0].length=6/\(splice (splice (splice [ci0,ci0,ci0,ci0,ci0,ci0] 2 [(.int .i64 2)]) 3 [(.int .i64 n1)]) 5 [(.int .i64 n2)]).length=6 then if 0=0/\(splice (splice (splice [ci0,ci0,ci0,ci0,ci0,ci0] 2 [(.int .i64 2)]) 3 [(.int .i64 n1)]) 5 [(.int .i64 n2)]).length=6 then some ([(.agg (splice (splice (splice [ci0,ci0,ci0,ci0,ci0,ci0] 2 [(.int .i64 2)]) 3 [(.int .i64 n1)]) 5 [(.int .i64 n2)]))],h0) else none else none else none else none else if (n==2)=true then Ze l0 2 fun q=>Zk .i64 (.c q) fun n1=>if 0=0/\[ci0,ci0,ci0,ci0,ci0,ci0].length=6/\(splice (splice (splice [ci0,ci0,ci0,ci0,ci0,ci0] 2 [(.int .i64 1)]) 3 [(.int .i64 n1)]) 4 [(.int .i64 a2)]).length=6 then if 0=0/\(splice (splice (splice [ci0,ci0,ci0,ci0,ci0,ci0] 2 [(.int .i64 1)]) 3 [(.int .i64 n1)]) 4 [(.int .i64 a2)]).length=6 then some ([(.agg (splice (splice (splice [ci0,ci0,ci0,ci0,ci0,ci0] 2 [(.int .i64 1)]) 3 [(.int .i64 n1)]) 4 [(.int .i64 a2)]))],h0) else none else none else if (n==4)=true then if 3+2<=l0.length then if 0=0/\l1.length=5 then c1 (C 92 [(.agg ((l0.drop 3).take 2)),(.agg l1)] h0) fun y h=>Zk .i64 y fun n=>if (a2==n)=true then Ze l0 2 fun q=>Zk .i64 (.c q) fun n=>if 6+2<=l0.length then if 0=0/\l1.length=5 then c1 (qh h (C 92 [(.agg ((l0.drop 6).take 2)),(.agg l1)] h)) fun y h1=>Zk .i64 y fun n1=>if 0=0/\[ci0,ci0,ci0,ci0,ci0,ci0].length=6/\(splice (splice (splice (splice [ci0,ci0,ci0,ci0,ci0,ci0] 2 [(.int .i64 4)]) 3 [(.int .i64 n)]) 4 [(.int .i64 a2)]) 5 [(.int .i64 n1)]).length=6 then if 0=0/\(splice (splice (splice (splice [ci0,ci0,ci0,ci0,ci0,ci0] 2 [(.int .i64 4)]) 3 [(.int .i64 n)]) 4 [(.int .i64 a2)]) 5 [(.int .i64 n1)]).length=6 then some ([(.agg (splice (splice (splice (splice [ci0,ci0,ci0,ci0,ci0,ci0] 2 [(.int .i64 4)]) 3 [(.int .i64 n)]) 4 [(.int .i64 a2)]) 5 [(.int .i64 n1)]))],h) else none else none else none else none else Ze l0 2 fun q=>Zk .i64 (.c q) fun n=>if 0=0/\[ci0,ci0,ci0,ci0,ci0,ci0].length=6/\(splice (splice (splice [ci0,ci0,ci0,ci0,ci0,ci0] 2 [(.int .i64 5)]) 3 [(.int .i64 n)]) 4 [(.int .i64 a2)]).length=6 then if 0=0/\(splice (splice (splice [ci0,ci0,ci0,ci0,ci0,ci0] 2 [(.int .i64 5)]) 3 [(.int .i64 n)]) 4 [(.int .i64 a2)]).length=6 then some ([(.agg (splice (splice (splice [ci0,ci0,ci0,ci0,ci0,ci0] 2 [(.int .i64 5)]) 3 [(.int .i64 n)]) 4 [(.int .i64 a2)]))],h) else none else none else none else none else if 0=0/\[ci0,ci0,ci0,ci0,ci0,ci0].length=6/\(splice [ci0,ci0,ci0,ci0,ci0,ci0] 2 [(.int .i64 3)]).length=6 then if 0=0/\(splice [ci0,ci0,ci0,ci0,ci0,ci0] 2 [(.int .i64 3)]).length=6 then some ([(.agg (splice [ci0,ci0,ci0,ci0,ci0,ci0] 2 [(.int .i64 3)]))],h0) else none else none:=by kernel_rfl
def q122_k2 (h0:Za):Ex->St->Rs:=Zac (fun st=>q122_p1.exec C L G st (q122.fin G h0)) (q122.fin G h0)
def q122_k3 (h0:Za):Ex->St->Rs:=Zag 0 (q122_k2 C L G h0)
def q122_s1 (a1 a5:Int) (s0:List Cell) (h:Za):St:=⟨tops 1 (.v (.c (.int .i64 a1)) :: .loc 0 0 :: tops 2 (.v (.c (.int .i64 a5)) :: tops 16 [])),[some s0],h⟩
def q122_F1 :St->Option (Ex × St):=Zt (q122_b1.exec C L G) [1,2,5] [0] [(0,[4],[]),(1,[],[])]
def q122_x1_0 (a4:Int) (h:Za):St:=⟨tops 4 (.v (.c (.int .i64 a4)) :: tops 17 []),[none],h⟩
def q122_x1_1 (h:Za):St:=⟨tops 22 [],[none],h⟩
theorem q122_r1:q122_F1 C L G (q122_s1 a1 a5 s0 h)=Ze s0 0 fun q=>Zz q fun n=>if (decide (a5<n))=true then Ze s0 0 fun q=>Zl 1 q a5 fun k N o=>Zp h k N fun l=>Ze l o fun q=>Zk .u8 (.c q) fun n=>if ((G.wrap .i64 n)==a1)=true then some (.ret,(q122_x1_0 a5 h)) else some (.normal,(q122_s1 a1 (G.wrap .i64 (a5+1)) s0 h)) else some ((.exit 0),(q122_x1_1 h)):=by kernel_rfl
theorem q122_e1_0:(q122_k3 C L G h0) .ret (q122_x1_0 a4 h)=some ([(.c (.int .i64 a4))],h):=by kernel_rfl
theorem q122_e1_1:(q122_k3 C L G h0) (.exit 0) (q122_x1_1 h)=some ([(.c (.int .i64 (-1)))],h):=by kernel_rfl
theorem q122_eq:q122.body C L G [(.agg l0),(.c (.int .i64 a1))] h0=(L (q122_F1 C L G) (q122_s1 a1 0 l0 h0)).bind fun p=>(q122_k3 C L G h0) p.1 p.2:=by kernel_rfl
def q123_k2 (h0:Za):Ex->St->Rs:=Zac (fun st=>q123_p1.exec C L G st (q123.fin G h0)) (q123.fin G h0)
def q123_k3 (h0:Za):Ex->St->Rs:=Zag 0 (q123_k2 C L G h0)
def q123_s1 (a1:Int) (s0 s1 s2:List Cell) (h:Za):St:=⟨tops 1 (.v (.c (.int .i64 a1)) :: tops 1 (.loc 0 0 :: tops 1 (.loc 1 0 :: .loc 2 0 :: tops 74 []))),[some s0,some s1,some s2,none],h⟩
def q123_F1 :St->Option (Ex × St):=Zt (q123_b1.exec C L G) [1,3,5,6] [0,1,2] [(0,[6],[2]),(1,[5,6],[1,2])]
def q123_x1_0 (s2:List Cell) (h:Za):St:=⟨tops 6 (.loc 2 0 :: tops 74 []),[none,none,some s2,none],h⟩
def q123_x1_1 (s1 s2:List Cell) (h:Za):St:=⟨tops 5 (.loc 1 0 :: .loc 2 0 :: tops 74 []),[none,some s1,some s2,none],h⟩
theorem q123_r1:q123_F1 C L G (q123_s1 a1 s0 s1 s2 h)=Ze s1 0 fun q=>Zk .i64 (.c q) fun n=>Ze s0 2 fun q=>Zl 1 q a1 fun k N o=>Zp h k N fun l=>Ze l o fun q=>Zz q fun n1=>if (decide (n<n1))=true then Ze s0 2 fun q=>Zl 1 q a1 fun k N o=>Zp h k N fun l=>Ze l o fun q=>Ze s1 0 fun q1=>Zk .i64 (.c q1) fun n=>Zl 9 q n fun k N o=>Zp h k N fun l=>if o+9<=l.length then if 0=0/\(Ya 9 ci0).length=9/\((l.drop o).take 9).length=9 then Ze ((l.drop o).take 9) 0 fun q=>Zk .i64 (.c q) fun n=>if (n==5)=true then if 3+2<=((l.drop o).take 9).length then if 0=0/\s1.length=5 then c1 (C 92 [(.agg ((((l.drop o).take 9).drop 3).take 2)),(.agg s1)] h) fun y h1=>Zk .i64 y fun n1=>Ze ((l.drop o).take 9) 5 fun q=>Zk .i64 (.c q) fun n2=>if (n2 != 0)=true then Ze ((l.drop o).take 9) 5 fun q=>Zk .i64 (.c q) fun n2=>if 6+2<=((l.drop o).take 9).length then if 0=0/\s1.length=5 then c1 (qh h1 (C 92 [(.agg ((((l.drop o).take 9).drop 6).take 2)),(.agg s1)] h1)) fun y h2=>Zk .i64 y fun n3=>c2 (qh h1 (C 93 [(.c (.int .i64 n2)),(.c (.int .i64 n1)),(.c (.int .i64 n3))] h1)) fun y y1 h2=>Zk .i64 y fun n2=>asB y1 fun b=>Ze ((l.drop o).take 9) 1 fun q=>Zk .i64 (.c q) fun n3=>if 0<=n3/\n3<((4:Nat):Int) then if (1+((Yb n3)*1))<s1.length then Ze (s1.set (1+((Yb n3)*1)) (.int .i64 n2)) 0 fun q=>Zk .i64 (.c q) fun n4=>if 0<(s1.set (1+((Yb n3)*1)) (.int .i64 n2)).length then some (.normal,(q123_s1 a1 s0 ((s1.set (1+((Yb n3)*1)) (.int .i64 n2)).set 0 (.int .i64 (G.wrap .i64 (n4+1)))) s2 h1)) else none else none else none else none else none else Ze ((l.drop o).take 9) 1 fun q=>Zk .i64 (.c q) fun n2=>if 0<=n2/\n2<((4:Nat):Int) then if (1+((Yb n2)*1))<s1.length then Ze (s1.set (1+((Yb n2)*1)) (.int .i64 n1)) 0 fun q=>Zk .i64 (.c q) fun n3=>if 0<(s1.set (1+((Yb n2)*1)) (.int .i64 n1)).length then some (.normal,(q123_s1 a1 s0 ((s1.set (1+((Yb n2)*1)) (.int .i64 n1)).set 0 (.int .i64 (G.wrap .i64 (n3+1)))) s2 h1)) else none else none else none else none else none else if (n==6)=true then if 3+2<=((l.drop o).take 9).length then if 0=0/\s1.length=5 then c1 (qh h (C 92 [(.agg ((((l.drop o).take 9).drop 3).take 2)),(.agg s1)] h)) fun y h1=>Zk .i64 y fun n=>if 6+2<=((l.drop o).take 9).length then if 0=0/\s1.length=5 then c1 (qh h (C 92 [(.agg ((((l.drop o).take 9).drop 6).take 2)),(.agg s1)] h)) fun y h1=>Zk .i64 y fun n1=>if (n==n1)=true then Ze s1 0 fun q=>Zk .i64 (.c q) fun n=>Ze ((l.drop o).take 9) 8 fun q=>Zk .i64 (.c q) fun n1=>if 0<s1.length then Ze (s1.set 0 (.int .i64 (G.wrap .i64 (n+n1)))) 0 fun q=>Zk .i64 (.c q) fun n2=>if 0<(s1.set 0 (.int .i64 (G.wrap .i64 (n+n1)))).length then some (.normal,(q123_s1 a1 s0 ((s1.set 0 (.int .i64 (G.wrap .i64 (n+n1)))).set 0 (.int .i64 (G.wrap .i64 (n2+1)))) s2 h)) else none else none else Ze s1 0 fun q=>Zk .i64 (.c q) fun n=>if 0<s1.length then some (.normal,(q123_s1 a1 s0 (s1.set 0 (.int .i64 (G.wrap .i64 (n+1)))) s2 h)) else none else none else none else none else none else if 0=0/\s1.length=5 then if 0=0/\s2.length=5/\s1.length=5 then some (.ret,(q123_x1_0 s1 h)) else none else none else none else none else some ((.exit 0),(q123_x1_1 s1 s2 h)):=by kernel_rfl
theorem q123_e1_0:(q123_k3 C L G h0) .ret (q123_x1_0 s2 h)=if 0=0/\s2.length=5 then some ([(.agg s2)],h) else none:=by kernel_rfl
theorem q123_e1_1:(q123_k3 C L G h0) (.exit 0) (q123_x1_1 s1 s2 h)=if 0=0/\s1.length=5 then if 0=0/\s2.length=5/\s1.length=5 then if 0=0/\s1.length=5 then some ([(.agg s1)],h) else none else none else none:=by kernel_rfl
theorem q123_eq:q123.body C L G [(.agg l0),(.c (.int .i64 a1)),(.agg l2)] h0=(L (q123_F1 C L G) (q123_s1 a1 l0 l2 [ci0,ci0,ci0,ci0,ci0] h0)).bind fun p=>(q123_k3 C L G h0) p.1 p.2:=by kernel_rfl
end
section
variable {E:Env}
theorem addR_bit {n:Nat} (hn:n<=64) (f:Nat->Nat) (x y:Int) (a b:Nat):(Ztg n f x y a).testBit b=((f a).testBit b||(inR n x&&inR n y&&decide (x=a)&&decide (y=b))):=by
 unfold Ztg
 by_cases hin:(inR n x&&inR n y)=true
 ·rw [if_pos hin,hin,Yl]
  simp only [Yf] at hin
  have hx:0<=x/\x<n:=by simpa [inR] using hin.1
  have hy:0<=y/\y<n:=by simpa [inR] using hin.2
  unfold Zqm
  by_cases ha:a=x.toNat
  ·rw [if_pos ha,Yj,testBit_bitI,←ha]
   have h1:decide (x=(a:Int))=true:=by simp;omega
   rw [h1,Yl]
   by_cases hb:y=(b:Int)
   ·have:b<64:=by omega
    simp [hb,this]
   ·simp [hb]
  ·rw [if_neg ha]
   have h1:decide (x=(a:Int))=false:=by simp;omega
   rw [h1,Yi,Bool.or_false]
 ·rw [if_neg hin,show (inR n x&&inR n y)=false by simpa using hin];simp
theorem inR_nat {n a:Nat}:inR n (a:Int)=decide (a<n):=by
 unfold inR
 rw [Yc];simp
end
section
def mkN (p:Nat->Bool):Nat:=(Yh 64).foldl (fun a j=>if p j then a ||| 2 ^ j else a) 0
theorem Zrz (p:Nat->Bool):∀m,m<=64->((Yh m).foldl (fun a j=>if p j then a ||| 2 ^ j else a) 0)<2 ^ 64/\∀j,((Yh m).foldl (fun a j=>if p j then a ||| 2 ^ j else a) 0).testBit j=(decide (j<m)&&p j)
 | 0,_=>⟨by simp,fun j=>by simp⟩
 | m+1,hm=>by
  obtain ⟨h1,h2⟩:=Zrz p m (by omega)
  rw [List.range_succ,List.foldl_append,List.foldl_cons,List.foldl_nil]
  have hp:2 ^ m<2 ^ 64:=Ys (by omega) (by omega)
  by_cases hpm:p m=true
  ·rw [if_pos hpm]
   refine ⟨Zrm h1 hp,fun j=>?_⟩
   rw [Yj,h2,Yg]
   by_cases hj:j=m
   ·subst hj;simp [hpm]
   ·rw [show decide (m=j)=false by simp;omega,Bool.or_false]
    congr 1
    rw [Yc];simp;omega
  ·rw [if_neg hpm]
   refine ⟨h1,fun j=>?_⟩
   rw [h2]
   by_cases hj:j=m
   ·subst hj;simp [hpm]
   ·congr 1
    rw [Yc];simp;omega
theorem Zta (p:Nat->Bool):mkN p<2 ^ 64:=(Zrz p 64 (Yab _)).1
theorem testBit_mkN (p:Nat->Bool) (j:Nat):(mkN p).testBit j=(decide (j<64)&&p j):=(Zrz p 64 (Yab _)).2 j
theorem Zq719 (p:Nat->Nat->Bool):Zcx fun i=>mkN (p i):=fun _=>Zta _
theorem Zwr {a b:Nat} (ha:a<2 ^ 64) (hb:b<2 ^ 64) (h:∀j,j<64->a.testBit j=b.testBit j):a=b:=by
 refine Yt fun j=>?_
 rcases Nat.lt_or_ge j 64 with hj | hj
 ·exact h j hj
 ·have h64:2 ^ 64<=2 ^ j:=Nat.pow_le_pow_right (by omega) hj
  rw [Yq (Yz ha h64),Yq (Yz hb h64)]
theorem Zic {n m:Nat} {f g:Nat->Nat} (hn:n=m) (hf:Zcx f) (hg:Zcx g) (h:∀i j,i<64->j<64->(f i).testBit j=(g i).testBit j):Zs n f=Zs m g:=by
 subst hn
 exact Zxi fun i hi=>Zwr (hf i) (hg i) fun j hj=>h i j hi hj
variable {E:Env}
theorem Zq758 {n:Nat} (hn:n<=64):Zmw (n:Int)=n:=by unfold Zmw;omega
def relM (n:Nat) (p:Nat->Nat->Bool):List Cell:=Zs n fun i=>mkN (p i)
theorem Lim_bits {F:St->Option (Ex × St)} (g:Nat->List Nat->St) {s:Nat} (hs:s<2 ^ 64) (hstep:∀a done,a<2 ^ 64->a≠0->done++Zbu a=Zbu s->Lib.ctz 64 a<64->s.testBit (Lib.ctz 64 a)=true->F (g a done)=some (.normal,g (a &&& (a - 1)) (done++[Lib.ctz 64 a])))
  {p:Ex × St} (hend:Zq F (g 0 (Zbu s))=some p):Zq F (g s [])=some p:=by
 have:∀k a done,a<=k->a<2 ^ 64->done++Zbu a=Zbu s->Zq F (g a done)=some p:=by
  intro k
  induction k with
  | zero =>
   intro a done hak _ hd
   have h0:a=0:=by omega
   subst h0
   rw [Zke,Yaf] at hd
   rw [hd];exact hend
  | succ k ih =>
   intro a done hak ha hd
   by_cases h0:a=0
   ·subst h0
    rw [Zke,Yaf] at hd
    rw [hd];exact hend
   ·have hc:=Zpa ha h0
    have hmem:Lib.ctz 64 a∈Zbu s:=by rw [←hd,hc];simp
    obtain ⟨m1,m2⟩:=mem_bitsL.1 hmem
    refine Zat (hstep a done ha h0 hd m1 m2) (ih _ _ ?_ (and_lt ha) ?_)
    ·have:=Zty h0;omega
    ·rw [List.append_assoc,Yr,←hc,hd]
 exact this s s [] (Yab _) hs rfl
theorem Zq745 {a:Nat} (ha:a<2 ^ 64) (h0:a≠0):E.glob.band .u64 (a:Int) (E.glob.wrap .u64 ((a:Int) - 1))=((a &&& (a - 1):Nat):Int):=by
 rw [show E.glob.wrap .u64 ((a:Int) - 1)=((a - 1:Nat):Int) by rw [Zfw (by omega) (by omega)];omega,Zlt ha (by omega)]
theorem ne_zero {a:Nat} (h0:a≠0):((a:Int) != 0)=true:=by rw [bne_iff_ne];omega
def Zih (f:Nat->Nat) (i:Nat) (done:List Nat):Nat->Nat:=fun k=>mkN fun j=>(decide (j<i)&&(f j).testBit k)||(decide (j=i)&&decide (k∈done))
theorem Zgi (f:Nat->Nat) (i:Nat) (done:List Nat):Zcx (Zih f i done):=fun _=>Zta _
theorem Zq756 (hE:q40_In E) (ht:Zil E) {n:Nat} (hn:n<=64) {f:Nat->Nat} (hf:Zcx f) (h:Za) :
  R E 40 [.agg (Zs n f)] h=some ([.agg (relM n fun i j=>decide (j<n)&&(f j).testBit i)],h):=by
 refine Zd hE.fn ?_
 rw [q40_eq,Zae (Zfj _ _),asI_ok,New_R hE.c9,c1_ok,asA_ok,Zq758 hn,if_pos ⟨rfl,zero_len,relL_len _ _⟩,Zae (Zfj _ _),asI_ok]
 have loop:Zq (q40_F2 (R E) Zq E.glob) (q40_s2 n ((0:Nat):Int) (Zs n f) zeroL (Zs n (Zih f 0 [])) h)=some (.exit 0,q40_x2_1 zeroL (Zs n (Zih f n [])) h):=by
  refine Zax (fun i=>q40_s2 n (i:Int) (Zs n f) zeroL (Zs n (Zih f i [])) h) 0 n (by omega) (fun i _ hi=>?_) (Zm ?_)
  ·have q1:0<=(i:Int)/\(i:Int)<((64:Nat):Int):=by omega
   rw [q40_r2,if_pos (by simp;omega),if_pos q1,Ym,Ye,Zae (Zeu (by omega)),asI_ok]
   have inner:=Lim_bits (F:=q40_F1 (R E) Zq E.glob) (fun a done=>q40_s1 i (a:Nat) n i (Zs n f) zeroL (Zs n (Zih f i done)) h) (hf i) (fun a done ha h0 hd hc hb=>by
    have q2:0<=((Lib.ctz 64 a:Nat):Int)/\((Lib.ctz 64 a:Nat):Int)<((64:Nat):Int):=by omega
    have hF:Zsk a=((Lib.ctz 64 a:Nat):Int):=by unfold Zsk;rw [if_neg h0]
    have hupd:Zs n (Zqm (Zih f i done) (Lib.ctz 64 a) (Zih f i done (Lib.ctz 64 a) ||| Zgj (i:Int)))=Zs n (Zih f i (done++[Lib.ctz 64 a])):=by
     refine Zic rfl (Zmd (Zgi f i done) (Zrm (Zgi f i done _) (Zku _))) (Zgi f i _) fun k j hk hj=>?_
     unfold Zqm
     by_cases hkc:k=Lib.ctz 64 a
     ·rw [if_pos hkc,Yj,testBit_bitI]
      unfold Zih
      rw [testBit_mkN,testBit_mkN,Yc]
      simp only [Yo,Yf,decide_eq_true_eq,List.mem_append,List.mem_singleton,hj,true_and,hkc,or_true,and_true]
      constructor
      ·rintro ((h1 | ⟨h1,_⟩) | h1)
       ·exact .inl h1
       ·exact .inr h1
       ·exact .inr (by omega)
      ·rintro (h1 | h1)
       ·exact .inl (.inl h1)
       ·exact .inr (by omega)
     ·rw [if_neg hkc]
      unfold Zih
      rw [testBit_mkN,testBit_mkN]
      simp [hkc]
    rw [q40_r1,if_pos (ne_zero h0),Zyq hE.c38 ht ha,c1_ok,asI_ok,Zyq hE.c38 ht ha,c1_ok,asI_ok,hF,if_pos q2,Ym,Ye,Zae (Zeu hc),asI_ok,Zot hE.c18 (Zgi f i done _),c1_ok,asI_ok,if_pos q2,if_pos (by rw [relL_len];omega),Zq745 ha h0,relL_set,hupd])
    (p:=(.exit 2,q40_x1_3 n i (Zs n f) zeroL (Zs n (Zih f (i+1) [])) h)) (Zm (by
     have hnext:Zs n (Zih f i (Zbu (f i)))=Zs n (Zih f (i+1) []):=by
      refine Zic rfl (Zgi f i _) (Zgi f (i+1) _) fun k j hk hj=>?_
      unfold Zih
      rw [testBit_mkN,testBit_mkN,Yc]
      simp only [Yo,Yf,decide_eq_true_eq,hj,true_and,mem_bitsL,hk,List.not_mem_nil,and_false,or_false]
      constructor
      ·rintro (⟨h1,h2⟩ | ⟨h1,h2⟩)
       ·exact ⟨by omega,h2⟩
       ·subst h1;exact ⟨by omega,h2⟩
      ·rintro ⟨h1,h2⟩
       by_cases hji:j=i
       ·subst hji;exact .inr ⟨rfl,h2⟩
       ·exact .inl ⟨by omega,h2⟩
     rw [q40_r1,if_neg (by simp),hnext]))
   rw [inner,bind_ok,q40_e1_3,Zo (by omega)]
  ·rw [q40_r2,if_neg (by simp)]
 have h00:Zs n (Zih f 0 [])=Zs n fun _=>0:=by
  refine Zic rfl (Zgi f 0 _) Zjv fun k j hk hj=>?_
  unfold Zih
  rw [testBit_mkN];simp
 rw [h00] at loop
 rw [show q40_s2 n 0 (Zs n f) ([ci0]++Ya 64 (Cell.int .u64 0)) (Zs n fun _=>0) h=q40_s2 n ((0:Nat):Int) (Zs n f) zeroL (Zs n fun _=>0) h from rfl,loop,bind_ok,q40_e2_1]
 simp only [relL_len,zeroL,zero_len,and_self,if_true]
 congr 4
 refine Zic rfl (Zgi f n _) (Zq719 _) fun i j hi hj=>?_
 unfold Zih
 rw [testBit_mkN,testBit_mkN];simp
end
section
def INV (n:Nat) (f:Nat->Nat):Nat->Nat:=fun i=>mkN fun j=>decide (j<n)&&(f j).testBit i
theorem w_INV (n:Nat) (f:Nat->Nat):Zcx (INV n f):=fun _=>Zta _
def Fit (n:Nat) (f:Nat->Nat):Prop:=∀i j,(f i).testBit j=true->i<n/\j<n
theorem b_INV {n:Nat} (hn:n<=64) (f:Nat->Nat) (i j:Nat):(INV n f i).testBit j=true↔j<n/\(f j).testBit i=true:=by
 unfold INV
 rw [testBit_mkN]
 simp only [Yf,decide_eq_true_eq]
 constructor
 ·rintro ⟨_,h⟩;exact h
 ·rintro h;exact ⟨by omega,h⟩
theorem Zwx {n:Nat} {f g:Nat->Nat} (hf:Zcx f) (hg:Zcx g) (h:∀i j,(f i).testBit j=true↔(g i).testBit j=true):Zs n f=Zs n g :=
 Zic rfl hf hg fun i j _ _=>by rw [Yc];exact h i j
variable {E:Env} {n:Nat}
theorem Zq743 (hE:q40_In E) (ht:Zil E) (hn:n<=64) {f:Nat->Nat} (hf:Zcx f) (h:Za):R E 40 [.agg (Zs n f)] h=some ([.agg (Zs n (INV n f))],h):=Zq756 hE ht hn hf h
end
section
theorem bits_len (s:Nat):(Zbu s).length<=64:=by unfold Zbu;exact Nat.le_trans (List.length_filter_le _ _) (by simp)
variable {E:Env}
end
section
section
variable {E:Env}
end
variable {E:Env}
end



end Jq
